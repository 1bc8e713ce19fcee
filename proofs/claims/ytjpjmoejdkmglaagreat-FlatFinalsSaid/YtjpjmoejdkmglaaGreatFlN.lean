/-
  The walks over domain.size, chosen and Space.
-/
import Derived.Test.YtjpjmoejdkmglaaGreatFlM
namespace Go.Proofs.YtjpjmoejdkmglaaGreat
open Go.RowKit

theorem own_cells {w : World} {base : Nat} {e : TypeId} {size : Nat} {A : Option Addr} {l c : Nat} {xs : List Value} (h : w.ownsRow base e size (.slice A l c) l xs) : l ≤ c ∧ c ≤ maxLen ∧ (0 < l → ∃ g, A = some ⟨g, 0, none⟩ ∧ g < w.heap.size ∧ ∀ i u, xs[i]? = some u → w.cell? ⟨g, i, none⟩ = some u) := by
  obtain ⟨_, h | ⟨g, cap, cur, hv, hb, hh, h1, h2, h3, h4⟩⟩ := h
  · obtain ⟨h, hx⟩ := h
    cases h
    exact ⟨Nat.le_refl _, Nat.zero_le _, fun h => absurd h (by omega)⟩
  · cases hv
    refine ⟨h1, h2, fun _ => ⟨g, rfl, ?_, fun i u hu => ?_⟩⟩
    · rcases Nat.lt_or_ge g w.heap.size with hl | hl
      · exact hl
      · rw [Array.getElem?_eq_none hl] at hh; cases hh
    · rw [← h4, List.getElem?_take] at hu
      split at hu
      · rw [Array.getElem?_toList] at hu
        simp [World.cell?, hh, hu]
      · cases hu
/-- The cells of variables. -/
def vvals (vs : List Vr) : List Value := vs.flatMap fun v => [.string v.name, .int .i64 v.kind, .int .i64 v.low, .int .i64 v.high, .int .i64 v.init]
theorem vvals_snoc (vs : List Vr) (v : Vr) : vvals (vs ++ [v]) = vvals vs ++ [.string v.name, .int .i64 v.kind, .int .i64 v.low, .int .i64 v.high, .int .i64 v.init] := by simp [vvals]
theorem vvals_get (vs : List Vr) (j : Nat) (h : j < vs.length) : (vvals vs)[j * 5]? = some (.string vs[j].name) ∧ (vvals vs)[j * 5 + 1]? = some (.int .i64 vs[j].kind) ∧ (vvals vs)[j * 5 + 2]? = some (.int .i64 vs[j].low) ∧ (vvals vs)[j * 5 + 3]? = some (.int .i64 vs[j].high) ∧ (vvals vs)[j * 5 + 4]? = some (.int .i64 vs[j].init) := by
  induction vs generalizing j with
  | nil => simp at h
  | cons r rs ih =>
    cases j with
    | zero => exact ⟨rfl, rfl, rfl, rfl, rfl⟩
    | succ j =>
      have := ih j (by simpa using h)
      rw [show (j + 1) * 5 = j * 5 + 5 by omega]
      exact this
theorem own_vs {w : World} {base : Nat} {e : TypeId} {A : Option Addr} {l c : Nat} {vs : List Vr} (hl : vs.length = l) (hn : ∀ v ∈ vs, v.name.size ≤ maxLen) (h : w.ownsRow base e 5 (.slice A l c) l (vvals vs)) : VOk w A l c vs := by
  obtain ⟨h1, h2, h3⟩ := own_cells h
  refine ⟨hl, h1, h2, hn, fun h0 => ?_⟩
  obtain ⟨g, hA, hg, hc⟩ := h3 h0
  refine ⟨g, 0, hA, hg, fun j hj => ?_⟩
  obtain ⟨e0, e1, e2, e3, e4⟩ := vvals_get vs j hj
  rw [Nat.zero_add]
  exact ⟨hc _ _ e0, hc _ _ e1, hc _ _ e2, hc _ _ e3, hc _ _ e4⟩
/-- The number of vectors, cut above 4096. -/
def spF : List Int → Int → Option Int
  | [], n => some n
  | s :: ss, n => if 4096 < n * s then none else spF ss (n * s)
def sizeV (v : Vr) : Int := v.high - v.low + 1
def spaceO (vs : List Vr) (kd : Int) : Option Int := spF ((vs.filter fun v => v.kind == kd).map sizeV) 1

set_option maxHeartbeats 1000000 in
theorem dsize_b (s : ByteArray) (kd lo hi ii : Int) (r : Int) (H : Hid (hi - lo + 1 = r)) (h1 : -1048576 ≤ lo) (h2 : lo ≤ 1048576) (h3 : -1048576 ≤ hi) (h4 : hi ≤ 1048576) (w : World) :
    Calls Tryz.prog 104 #[.agg #[.string s, .int .i64 kd, .int .i64 lo, .int .i64 hi, .int .i64 ii]] w fun e w' => e = .returned (.int .i64 r) ∧ Below w.heap.size w w' := by
  have w1 : IntKind.i64.wrap (hi - lo) = hi - lo := IntWalk.i64_in _ (by omega)
  have w2 : IntKind.i64.wrap (hi - lo + 1) = hi - lo + 1 := IntWalk.i64_in _ (by omega)
  have HR := H
  clear H
  go_enter Tryz.func104, Tryz.ntmps104
  go_wp2_with fail
  go_ret
  exact ⟨ret_int HR.out, (Below.refl _ _).alloc (Nat.le_refl _) _⟩

set_option maxRecDepth 100000 in
set_option maxHeartbeats 4000000 in
theorem chosen_1 (vs : List Vr) (hvb : vB vs) (Av : Option Addr) (lv cv : Nat) (w : World) (hv : VOk w Av lv cv vs) (hl6 : lv ≤ 1000) (x : Option Int) (H : Hid (spaceO vs 1 = x)) :
    Calls Tryz.prog 87 #[.slice Av lv cv, .int .i64 1] w fun e w' => (∃ A l c, e = .returned (.tuple #[.slice A l c, .int .i64 (x.getD 0), .int .i64 (if x.isSome then 0 else 4)])) ∧ Below w.heap.size w w' := by
  have HV := Lib.hid hv
  have HVB := Lib.hid hvb
  have HVL := Lib.hid hv.len
  have hlv : lv ≤ 9223372036854775807 := by have h1 := hv.cap; have h2 := hv.big; unfold maxLen at h2; omega
  obtain ⟨i0, hi, hi0, hi1, hi2⟩ := info_parts (P := Tryz.prog) (e := 48) (z := .agg #[.string ⟨#[]⟩, .int .i64 0, .int .i64 0, .int .i64 0, .int .i64 0]) (size := 5) (bytes := 48) (by kernel_rfl)
  clear hv hvb
  go_enter Tryz.func87, Tryz.ntmps87
  go_upto_region 9 with fail
  go_loopw [7, 21] (fun a v wr => ∃ (k l2 : Nat) (A2 : Option Addr) (c2 : Nat), k ≤ lv ∧ l2 ≤ k ∧ v = .int .i64 k ∧ a = .slice A2 l2 c2 ∧ Hid (((vs.take k).filter fun v => v.kind == 1).length = l2) ∧ Hid (wr.ownsRow w.heap.size 48 5 (.slice A2 l2 c2) l2 (vvals ((vs.take k).filter fun v => v.kind == 1))) ∧ Hid (Below w.heap.size w wr)) (fun _ v _ => lv - (intOf v).toNat)
  case atStart => exact ⟨0, 0, none, 0, by omega, by omega, rfl, rfl, rfl, ⟨rfl, .inl ⟨rfl, rfl⟩⟩, Lib.hid (Below.refl _ _)⟩
  case round =>
    obtain ⟨k, l2, A2, c2, hk, hlk, rfl, rfl, HL2, HO, HB⟩ := hrel
    by_cases hlt : k < lv
    · obtain ⟨s, kk, lo, hi', ii, g, f, hvs, hs, hA, hg, k0, k1, k2, k3, k4⟩ := (HV.out.below HB.out).at k hlt
      subst hA
      have hlt' : (k : Int) < (lv : Int) := by omega
      have hbd := HVB.out _ (List.mem_of_getElem? hvs)
      simp only at hbd
      have htk : vs.take (k + 1) = vs.take k ++ [⟨s, kk, lo, hi', ii⟩] := by
        rw [List.take_add_one, hvs]; rfl
      have HTK := Lib.hid htk
      have hba := (Below.refl wr.heap.size wr).alloc (Nat.le_refl _) (.cells #[.string s, .int .i64 kk, .int .i64 lo, .int .i64 hi', .int .i64 ii] 48)
      have HO4 := Lib.hid (own_below HO.out hba)
      have HB4 := Lib.hid (HB.out.trans (hba.mono HB.out.size))
      have HN4 := Lib.hid (Cs.new wr #[.string s, .int .i64 kk, .int .i64 lo, .int .i64 hi', .int .i64 ii] 48)
      clear hba htk hvs
      by_cases hkk : kk = 1
      · subst hkk
        have HL2' : Hid (((vs.take (k + 1)).filter fun v => v.kind == 1).length = l2 + 1) := by
          show _ = _
          rw [HTK.out, List.filter_append, List.length_append, HL2.out]; rfl
        have HRV : Hid (vvals ((vs.take (k + 1)).filter fun v => v.kind == 1) = vvals ((vs.take k).filter fun v => v.kind == 1) ++ [.string s, .int .i64 1, .int .i64 lo, .int .i64 hi', .int .i64 ii]) := by
          show _ = _
          rw [HTK.out, List.filter_append]
          exact vvals_snoc _ ⟨s, 1, lo, hi', ii⟩
        have b1 : decide (hi' < lo) = false := decide_eq_false (by omega)
        have b2 : decide (lo < -1048576) = false := decide_eq_false (by omega)
        have b3 : decide (1048576 < hi') = false := decide_eq_false (by omega)
        have c1 : ¬ (hi' < lo) := by omega
        have c2' : ¬ (lo < -1048576) := by omega
        have c3 : ¬ (1048576 < hi') := by omega
        clear HL2
        go_upto_region 14 with fail
        obtain ⟨w4, hw4⟩ : ∃ w4, wr.alloc (.cells #[.string s, .int .i64 1, .int .i64 lo, .int .i64 hi', .int .i64 ii] 48) = w4 := ⟨_, rfl⟩
        obtain ⟨b4, hb4⟩ : ∃ b, wr.heap.size = b := ⟨_, rfl⟩
        rw [hw4] at HO4 HB4 HN4
        rw [hb4] at HN4
        rw [hw4, hb4]
        clear hw4 hb4 k0 k1 k2 k3 k4
        have n0 := HN4.out.at 0 _ rfl
        have n1 := HN4.out.at 1 _ rfl
        have n2 := HN4.out.at 2 _ rfl
        have n3 := HN4.out.at 3 _ rfl
        have n4 := HN4.out.at 4 _ rfl
        go_wp2_with (at_builtin; (refine wpList_append_own _ rfl _ _ 22 rfl w.heap.size 48 i0 (.agg #[.string ⟨#[]⟩, .int .i64 0, .int .i64 0, .int .i64 0, .int .i64 0]) 5 48 Tryz.underlying22 hi hi0 hi1 hi2 rfl (by decide) _ l2 (vvals ((vs.take k).filter fun v => v.kind == 1)) rfl (HO4.out.alloc _) ⟨w4.heap.size, 0, none⟩ 1 1 [.string s, .int .i64 1, .int .i64 lo, .int .i64 hi', .int .i64 ii] rfl rfl ?q1 ?q2 ?q3 ?q4 ?q5 ?_))
        try (case q1 => intro j u hj; match j, hj with | 0, hj => simp at hj; subst hj; simp [Addr.add] | 1, hj => simp at hj; subst hj; simp [Addr.add] | 2, hj => simp at hj; subst hj; simp [Addr.add] | 3, hj => simp at hj; subst hj; simp [Addr.add] | 4, hj => simp at hj; subst hj; simp [Addr.add])
        case q2 => first | rfl | exact ⟨rfl, rfl, rfl, rfl, rfl⟩ | (intro u hu; simp at hu; rcases hu with rfl | rfl | rfl | rfl | rfl <;> rfl)
        case q3 => unfold maxLen; omega
        case q4 => omega
        case q5 => have := HB4.out.size; first | omega | (simp; omega)
        intro v' w5 hown5 hgrow _
        have hbel : Below w.heap.size w4 w5 := ((Below.refl _ w4).alloc HB4.out.size _).grown hgrow (by have := HB4.out.size; simp; omega) (fun q hq => (HO4.out.lt q hq).1)
        obtain ⟨A5, c5, rfl⟩ := own_form hown5
        rw [← HRV.out] at hown5
        have HO5 := Lib.hid hown5
        have HB5 := Lib.hid (HB4.out.trans hbel)
        clear hown5 hgrow hbel HO4 HB4 HN4 n0 n1 n2 n3 n4
        go_wp2_with fail
        go_roundw
        case rel => exact ⟨k + 1, l2 + 1, A5, c5, by omega, by omega, by go_num, rfl, HL2', HO5, HB5⟩
        case measure => simp [intOf]; omega
      · have hne := bne_of hkk
        have HF : Hid ((vs.take (k + 1)).filter (fun v => v.kind == 1) = (vs.take k).filter fun v => v.kind == 1) := by
          show _ = _
          rw [HTK.out, List.filter_append]
          simp [hkk]
        clear hkk
        go_wp2_with fail
        go_roundw
        case rel => exact ⟨k + 1, l2, A2, c2, by omega, by omega, by go_num, rfl, by rw [HF.out]; exact HL2, by rw [HF.out]; exact HO4, HB4⟩
        case measure => simp [intOf]; omega
    · obtain rfl : k = lv := by omega
      have htk : vs.take k = vs := List.take_of_length_le (by rw [HVL.out]; exact Nat.le_refl _)
      rw [htk] at HO HL2
      obtain ⟨us, hus⟩ : ∃ us, (vs.filter fun v => v.kind == 1) = us := ⟨_, rfl⟩
      have HUM : Hid (∀ v ∈ us, v ∈ vs) := by intro v h; rw [← hus] at h; exact (List.mem_filter.1 h).1
      have HH : Hid (spF (us.map sizeV) 1 = x) := by show _ = _; rw [← hus]; exact H.out
      rw [hus] at HO HL2
      have HU := Lib.hid (own_vs HL2.out (fun v h => HV.out.nm v (HUM.out v h)) HO.out)
      have HOL := HL2
      have hl2 : l2 ≤ 9223372036854775807 := by omega
      clear HO HL2 H hus htk
      obtain ⟨w8, hw8⟩ : ∃ w8, w8 = wr := ⟨_, rfl⟩
      rw [← hw8] at HU HB ⊢
      clear hw8
      go_upto_region 18 with fail
      go_loopw [10, 51] (fun a v wr => ∃ (k2 : Nat) (n : Int), k2 ≤ l2 ∧ v = .int .i64 k2 ∧ a = .int .i64 n ∧ Hid (0 ≤ n ∧ n ≤ 4096) ∧ Hid (spF ((us.drop k2).map sizeV) n = x) ∧ Hid (Below w8.heap.size w8 wr)) (fun _ v _ => l2 - (intOf v).toNat)
      case atStart => exact ⟨0, 1, by omega, rfl, rfl, Lib.hid (by omega), HH, Lib.hid (Below.refl _ _)⟩
      case round =>
        clear HH
        obtain ⟨k2, n, hk2, rfl, rfl, HNB, HS, HBq⟩ := hrel
        by_cases hlt2 : k2 < l2
        · obtain ⟨s, kk, lo, hi', ii, g, f, hvs, hs, hA, hg, k0, k1, k2', k3, k4⟩ := (HU.out.below HBq.out).at k2 hlt2
          subst hA
          have hlt2' : (k2 : Int) < (l2 : Int) := by omega
          have hbd := HVB.out _ (HUM.out _ (List.mem_of_getElem? hvs))
          simp only at hbd
          have hdr : us.drop k2 = ⟨s, kk, lo, hi', ii⟩ :: us.drop (k2 + 1) := by
            rw [List.drop_eq_getElem_cons (by rw [HOL.out]; exact hlt2)]
            rw [List.getElem?_eq_getElem (by rw [HOL.out]; exact hlt2)] at hvs
            rw [Option.some.inj hvs]
          obtain ⟨z, hz⟩ : ∃ z, hi' - lo + 1 = z := ⟨_, rfl⟩
          have HZ := Lib.hid hz
          have hzb : 1 ≤ z ∧ z ≤ 2097153 := by omega
          have hnb := HNB.out
          obtain ⟨p, hp⟩ : ∃ p, n * z = p := ⟨_, rfl⟩
          have hpb : 0 ≤ p ∧ p ≤ 8589938688 := by
            rw [← hp]
            exact ⟨Int.mul_nonneg (by omega) (by omega), Int.le_trans (Int.mul_le_mul hnb.2 hzb.2 (by omega) (by omega)) (by decide)⟩
          have hS : (if 4096 < p then none else spF ((us.drop (k2 + 1)).map sizeV) p) = x := by
            rw [← HS.out, hdr, List.map_cons, spF, ← hp, ← hz]; rfl
          have hwp : IntKind.i64.wrap (n * z) = p := by rw [hp]; exact IntWalk.i64_in _ (by omega)
          have hba := (Below.refl wr.heap.size wr).alloc (Nat.le_refl _) (.cells #[.string s, .int .i64 kk, .int .i64 lo, .int .i64 hi', .int .i64 ii] 48)
          have HB4 := Lib.hid (HBq.out.trans (hba.mono HBq.out.size))
          clear hba hdr hvs hz HNB HS hp
          by_cases hbig : 4096 < p
          · rw [if_pos hbig] at hS
            have hx : x = none := hS.symm
            subst hx
            have hd : decide (4096 < p) = true := decide_eq_true hbig
            go_wp2_with fail
            go_at_call 104
            refine (dsize_b s kk lo hi' ii z HZ hbd.2.1 (by omega) (by omega) hbd.2.2 _).mono ?_
            rintro e w6 ⟨rfl, hb6⟩
            have HB6 := Lib.hid (HB4.out.trans (hb6.mono HB4.out.size))
            clear hb6
            go_wp2_with fail
            go_returns
            exact ⟨⟨none, 0, 0, rfl⟩, HB.out.trans (HB6.out.mono HB.out.size)⟩
          · rw [if_neg hbig] at hS
            have HS' := Lib.hid hS
            have HNB' : Hid (0 ≤ p ∧ p ≤ 4096) := Lib.hid (by omega)
            have hd : decide (4096 < p) = false := decide_eq_false hbig
            clear hS
            go_wp2_with fail
            go_at_call 104
            refine (dsize_b s kk lo hi' ii z HZ hbd.2.1 (by omega) (by omega) hbd.2.2 _).mono ?_
            rintro e w6 ⟨rfl, hb6⟩
            have HB6 := Lib.hid (HB4.out.trans (hb6.mono HB4.out.size))
            clear hb6
            go_wp2_with fail
            go_roundw
            case rel => exact ⟨k2 + 1, p, by omega, by go_num, rfl, HNB', HS', HB6⟩
            case measure => simp [intOf]; omega
        · obtain rfl : k2 = l2 := by omega
          have hdr : us.drop k2 = [] := List.drop_of_length_le (by rw [HOL.out]; exact Nat.le_refl _)
          have hx : x = some n := by rw [← HS.out, hdr]; rfl
          subst hx
          clear HS hdr
          go_wp2_with fail
          go_returns
          exact ⟨⟨A2, k2, c2, rfl⟩, HB.out.trans (HBq.out.mono HB.out.size)⟩

set_option maxHeartbeats 1000000 in
theorem space_1 (vs : List Vr) (hvb : vB vs) (Av : Option Addr) (lv cv : Nat) (w : World) (hv : VOk w Av lv cv vs) (hl6 : lv ≤ 1000) (x : Option Int) (H : Hid (spaceO vs 1 = x)) :
    Calls Tryz.prog 62 #[.slice Av lv cv, .int .i64 1] w fun e w' => e = .returned (.tuple #[.int .i64 (x.getD 0), .int .i64 (if x.isSome then 0 else 4)]) ∧ Below w.heap.size w w' := by
  have HV := Lib.hid hv
  have HVB := Lib.hid hvb
  have HL6 := Lib.hid hl6
  clear hv hvb hl6
  cases x with
  | none =>
    go_enter Tryz.func62, Tryz.ntmps62
    go_wp2_with fail
    go_at_call 87
    refine (chosen_1 vs HVB.out Av lv cv _ HV.out HL6.out _ H).mono ?_
    rintro e w2 ⟨⟨A, l, c, rfl⟩, hb⟩
    go_wp2_with fail
    go_returns
    exact ⟨rfl, hb⟩
  | some x =>
    go_enter Tryz.func62, Tryz.ntmps62
    go_wp2_with fail
    go_at_call 87
    refine (chosen_1 vs HVB.out Av lv cv _ HV.out HL6.out _ H).mono ?_
    rintro e w2 ⟨⟨A, l, c, rfl⟩, hb⟩
    go_wp2_with fail
    go_returns
    exact ⟨rfl, hb⟩

set_option maxRecDepth 100000 in
set_option maxHeartbeats 4000000 in
theorem chosen_2 (vs : List Vr) (hvb : vB vs) (Av : Option Addr) (lv cv : Nat) (w : World) (hv : VOk w Av lv cv vs) (hl6 : lv ≤ 1000) (x : Option Int) (H : Hid (spaceO vs 2 = x)) :
    Calls Tryz.prog 87 #[.slice Av lv cv, .int .i64 2] w fun e w' => (∃ A l c, e = .returned (.tuple #[.slice A l c, .int .i64 (x.getD 0), .int .i64 (if x.isSome then 0 else 4)])) ∧ Below w.heap.size w w' := by
  have HV := Lib.hid hv
  have HVB := Lib.hid hvb
  have HVL := Lib.hid hv.len
  have hlv : lv ≤ 9223372036854775807 := by have h1 := hv.cap; have h2 := hv.big; unfold maxLen at h2; omega
  obtain ⟨i0, hi, hi0, hi1, hi2⟩ := info_parts (P := Tryz.prog) (e := 48) (z := .agg #[.string ⟨#[]⟩, .int .i64 0, .int .i64 0, .int .i64 0, .int .i64 0]) (size := 5) (bytes := 48) (by kernel_rfl)
  clear hv hvb
  go_enter Tryz.func87, Tryz.ntmps87
  go_upto_region 9 with fail
  go_loopw [7, 21] (fun a v wr => ∃ (k l2 : Nat) (A2 : Option Addr) (c2 : Nat), k ≤ lv ∧ l2 ≤ k ∧ v = .int .i64 k ∧ a = .slice A2 l2 c2 ∧ Hid (((vs.take k).filter fun v => v.kind == 2).length = l2) ∧ Hid (wr.ownsRow w.heap.size 48 5 (.slice A2 l2 c2) l2 (vvals ((vs.take k).filter fun v => v.kind == 2))) ∧ Hid (Below w.heap.size w wr)) (fun _ v _ => lv - (intOf v).toNat)
  case atStart => exact ⟨0, 0, none, 0, by omega, by omega, rfl, rfl, rfl, ⟨rfl, .inl ⟨rfl, rfl⟩⟩, Lib.hid (Below.refl _ _)⟩
  case round =>
    obtain ⟨k, l2, A2, c2, hk, hlk, rfl, rfl, HL2, HO, HB⟩ := hrel
    by_cases hlt : k < lv
    · obtain ⟨s, kk, lo, hi', ii, g, f, hvs, hs, hA, hg, k0, k1, k2, k3, k4⟩ := (HV.out.below HB.out).at k hlt
      subst hA
      have hlt' : (k : Int) < (lv : Int) := by omega
      have hbd := HVB.out _ (List.mem_of_getElem? hvs)
      simp only at hbd
      have htk : vs.take (k + 1) = vs.take k ++ [⟨s, kk, lo, hi', ii⟩] := by
        rw [List.take_add_one, hvs]; rfl
      have HTK := Lib.hid htk
      have hba := (Below.refl wr.heap.size wr).alloc (Nat.le_refl _) (.cells #[.string s, .int .i64 kk, .int .i64 lo, .int .i64 hi', .int .i64 ii] 48)
      have HO4 := Lib.hid (own_below HO.out hba)
      have HB4 := Lib.hid (HB.out.trans (hba.mono HB.out.size))
      have HN4 := Lib.hid (Cs.new wr #[.string s, .int .i64 kk, .int .i64 lo, .int .i64 hi', .int .i64 ii] 48)
      clear hba htk hvs
      by_cases hkk : kk = 2
      · subst hkk
        have HL2' : Hid (((vs.take (k + 1)).filter fun v => v.kind == 2).length = l2 + 1) := by
          show _ = _
          rw [HTK.out, List.filter_append, List.length_append, HL2.out]; rfl
        have HRV : Hid (vvals ((vs.take (k + 1)).filter fun v => v.kind == 2) = vvals ((vs.take k).filter fun v => v.kind == 2) ++ [.string s, .int .i64 2, .int .i64 lo, .int .i64 hi', .int .i64 ii]) := by
          show _ = _
          rw [HTK.out, List.filter_append]
          exact vvals_snoc _ ⟨s, 2, lo, hi', ii⟩
        have b1 : decide (hi' < lo) = false := decide_eq_false (by omega)
        have b2 : decide (lo < -1048576) = false := decide_eq_false (by omega)
        have b3 : decide (1048576 < hi') = false := decide_eq_false (by omega)
        have c1 : ¬ (hi' < lo) := by omega
        have c2' : ¬ (lo < -1048576) := by omega
        have c3 : ¬ (1048576 < hi') := by omega
        clear HL2
        go_upto_region 14 with fail
        obtain ⟨w4, hw4⟩ : ∃ w4, wr.alloc (.cells #[.string s, .int .i64 2, .int .i64 lo, .int .i64 hi', .int .i64 ii] 48) = w4 := ⟨_, rfl⟩
        obtain ⟨b4, hb4⟩ : ∃ b, wr.heap.size = b := ⟨_, rfl⟩
        rw [hw4] at HO4 HB4 HN4
        rw [hb4] at HN4
        rw [hw4, hb4]
        clear hw4 hb4 k0 k1 k2 k3 k4
        have n0 := HN4.out.at 0 _ rfl
        have n1 := HN4.out.at 1 _ rfl
        have n2 := HN4.out.at 2 _ rfl
        have n3 := HN4.out.at 3 _ rfl
        have n4 := HN4.out.at 4 _ rfl
        go_wp2_with (at_builtin; (refine wpList_append_own _ rfl _ _ 22 rfl w.heap.size 48 i0 (.agg #[.string ⟨#[]⟩, .int .i64 0, .int .i64 0, .int .i64 0, .int .i64 0]) 5 48 Tryz.underlying22 hi hi0 hi1 hi2 rfl (by decide) _ l2 (vvals ((vs.take k).filter fun v => v.kind == 2)) rfl (HO4.out.alloc _) ⟨w4.heap.size, 0, none⟩ 1 1 [.string s, .int .i64 2, .int .i64 lo, .int .i64 hi', .int .i64 ii] rfl rfl ?q1 ?q2 ?q3 ?q4 ?q5 ?_))
        try (case q1 => intro j u hj; match j, hj with | 0, hj => simp at hj; subst hj; simp [Addr.add] | 1, hj => simp at hj; subst hj; simp [Addr.add] | 2, hj => simp at hj; subst hj; simp [Addr.add] | 3, hj => simp at hj; subst hj; simp [Addr.add] | 4, hj => simp at hj; subst hj; simp [Addr.add])
        case q2 => first | rfl | exact ⟨rfl, rfl, rfl, rfl, rfl⟩ | (intro u hu; simp at hu; rcases hu with rfl | rfl | rfl | rfl | rfl <;> rfl)
        case q3 => unfold maxLen; omega
        case q4 => omega
        case q5 => have := HB4.out.size; first | omega | (simp; omega)
        intro v' w5 hown5 hgrow _
        have hbel : Below w.heap.size w4 w5 := ((Below.refl _ w4).alloc HB4.out.size _).grown hgrow (by have := HB4.out.size; simp; omega) (fun q hq => (HO4.out.lt q hq).1)
        obtain ⟨A5, c5, rfl⟩ := own_form hown5
        rw [← HRV.out] at hown5
        have HO5 := Lib.hid hown5
        have HB5 := Lib.hid (HB4.out.trans hbel)
        clear hown5 hgrow hbel HO4 HB4 HN4 n0 n1 n2 n3 n4
        go_wp2_with fail
        go_roundw
        case rel => exact ⟨k + 1, l2 + 1, A5, c5, by omega, by omega, by go_num, rfl, HL2', HO5, HB5⟩
        case measure => simp [intOf]; omega
      · have hne := bne_of hkk
        have HF : Hid ((vs.take (k + 1)).filter (fun v => v.kind == 2) = (vs.take k).filter fun v => v.kind == 2) := by
          show _ = _
          rw [HTK.out, List.filter_append]
          simp [hkk]
        clear hkk
        go_wp2_with fail
        go_roundw
        case rel => exact ⟨k + 1, l2, A2, c2, by omega, by omega, by go_num, rfl, by rw [HF.out]; exact HL2, by rw [HF.out]; exact HO4, HB4⟩
        case measure => simp [intOf]; omega
    · obtain rfl : k = lv := by omega
      have htk : vs.take k = vs := List.take_of_length_le (by rw [HVL.out]; exact Nat.le_refl _)
      rw [htk] at HO HL2
      obtain ⟨us, hus⟩ : ∃ us, (vs.filter fun v => v.kind == 2) = us := ⟨_, rfl⟩
      have HUM : Hid (∀ v ∈ us, v ∈ vs) := by intro v h; rw [← hus] at h; exact (List.mem_filter.1 h).1
      have HH : Hid (spF (us.map sizeV) 1 = x) := by show _ = _; rw [← hus]; exact H.out
      rw [hus] at HO HL2
      have HU := Lib.hid (own_vs HL2.out (fun v h => HV.out.nm v (HUM.out v h)) HO.out)
      have HOL := HL2
      have hl2 : l2 ≤ 9223372036854775807 := by omega
      clear HO HL2 H hus htk
      obtain ⟨w8, hw8⟩ : ∃ w8, w8 = wr := ⟨_, rfl⟩
      rw [← hw8] at HU HB ⊢
      clear hw8
      go_upto_region 18 with fail
      go_loopw [10, 51] (fun a v wr => ∃ (k2 : Nat) (n : Int), k2 ≤ l2 ∧ v = .int .i64 k2 ∧ a = .int .i64 n ∧ Hid (0 ≤ n ∧ n ≤ 4096) ∧ Hid (spF ((us.drop k2).map sizeV) n = x) ∧ Hid (Below w8.heap.size w8 wr)) (fun _ v _ => l2 - (intOf v).toNat)
      case atStart => exact ⟨0, 1, by omega, rfl, rfl, Lib.hid (by omega), HH, Lib.hid (Below.refl _ _)⟩
      case round =>
        clear HH
        obtain ⟨k2, n, hk2, rfl, rfl, HNB, HS, HBq⟩ := hrel
        by_cases hlt2 : k2 < l2
        · obtain ⟨s, kk, lo, hi', ii, g, f, hvs, hs, hA, hg, k0, k1, k2', k3, k4⟩ := (HU.out.below HBq.out).at k2 hlt2
          subst hA
          have hlt2' : (k2 : Int) < (l2 : Int) := by omega
          have hbd := HVB.out _ (HUM.out _ (List.mem_of_getElem? hvs))
          simp only at hbd
          have hdr : us.drop k2 = ⟨s, kk, lo, hi', ii⟩ :: us.drop (k2 + 1) := by
            rw [List.drop_eq_getElem_cons (by rw [HOL.out]; exact hlt2)]
            rw [List.getElem?_eq_getElem (by rw [HOL.out]; exact hlt2)] at hvs
            rw [Option.some.inj hvs]
          obtain ⟨z, hz⟩ : ∃ z, hi' - lo + 1 = z := ⟨_, rfl⟩
          have HZ := Lib.hid hz
          have hzb : 1 ≤ z ∧ z ≤ 2097153 := by omega
          have hnb := HNB.out
          obtain ⟨p, hp⟩ : ∃ p, n * z = p := ⟨_, rfl⟩
          have hpb : 0 ≤ p ∧ p ≤ 8589938688 := by
            rw [← hp]
            exact ⟨Int.mul_nonneg (by omega) (by omega), Int.le_trans (Int.mul_le_mul hnb.2 hzb.2 (by omega) (by omega)) (by decide)⟩
          have hS : (if 4096 < p then none else spF ((us.drop (k2 + 1)).map sizeV) p) = x := by
            rw [← HS.out, hdr, List.map_cons, spF, ← hp, ← hz]; rfl
          have hwp : IntKind.i64.wrap (n * z) = p := by rw [hp]; exact IntWalk.i64_in _ (by omega)
          have hba := (Below.refl wr.heap.size wr).alloc (Nat.le_refl _) (.cells #[.string s, .int .i64 kk, .int .i64 lo, .int .i64 hi', .int .i64 ii] 48)
          have HB4 := Lib.hid (HBq.out.trans (hba.mono HBq.out.size))
          clear hba hdr hvs hz HNB HS hp
          by_cases hbig : 4096 < p
          · rw [if_pos hbig] at hS
            have hx : x = none := hS.symm
            subst hx
            have hd : decide (4096 < p) = true := decide_eq_true hbig
            go_wp2_with fail
            go_at_call 104
            refine (dsize_b s kk lo hi' ii z HZ hbd.2.1 (by omega) (by omega) hbd.2.2 _).mono ?_
            rintro e w6 ⟨rfl, hb6⟩
            have HB6 := Lib.hid (HB4.out.trans (hb6.mono HB4.out.size))
            clear hb6
            go_wp2_with fail
            go_returns
            exact ⟨⟨none, 0, 0, rfl⟩, HB.out.trans (HB6.out.mono HB.out.size)⟩
          · rw [if_neg hbig] at hS
            have HS' := Lib.hid hS
            have HNB' : Hid (0 ≤ p ∧ p ≤ 4096) := Lib.hid (by omega)
            have hd : decide (4096 < p) = false := decide_eq_false hbig
            clear hS
            go_wp2_with fail
            go_at_call 104
            refine (dsize_b s kk lo hi' ii z HZ hbd.2.1 (by omega) (by omega) hbd.2.2 _).mono ?_
            rintro e w6 ⟨rfl, hb6⟩
            have HB6 := Lib.hid (HB4.out.trans (hb6.mono HB4.out.size))
            clear hb6
            go_wp2_with fail
            go_roundw
            case rel => exact ⟨k2 + 1, p, by omega, by go_num, rfl, HNB', HS', HB6⟩
            case measure => simp [intOf]; omega
        · obtain rfl : k2 = l2 := by omega
          have hdr : us.drop k2 = [] := List.drop_of_length_le (by rw [HOL.out]; exact Nat.le_refl _)
          have hx : x = some n := by rw [← HS.out, hdr]; rfl
          subst hx
          clear HS hdr
          go_wp2_with fail
          go_returns
          exact ⟨⟨A2, k2, c2, rfl⟩, HB.out.trans (HBq.out.mono HB.out.size)⟩

set_option maxHeartbeats 1000000 in
theorem space_2 (vs : List Vr) (hvb : vB vs) (Av : Option Addr) (lv cv : Nat) (w : World) (hv : VOk w Av lv cv vs) (hl6 : lv ≤ 1000) (x : Option Int) (H : Hid (spaceO vs 2 = x)) :
    Calls Tryz.prog 62 #[.slice Av lv cv, .int .i64 2] w fun e w' => e = .returned (.tuple #[.int .i64 (x.getD 0), .int .i64 (if x.isSome then 0 else 4)]) ∧ Below w.heap.size w w' := by
  have HV := Lib.hid hv
  have HVB := Lib.hid hvb
  have HL6 := Lib.hid hl6
  clear hv hvb hl6
  cases x with
  | none =>
    go_enter Tryz.func62, Tryz.ntmps62
    go_wp2_with fail
    go_at_call 87
    refine (chosen_2 vs HVB.out Av lv cv _ HV.out HL6.out _ H).mono ?_
    rintro e w2 ⟨⟨A, l, c, rfl⟩, hb⟩
    go_wp2_with fail
    go_returns
    exact ⟨rfl, hb⟩
  | some x =>
    go_enter Tryz.func62, Tryz.ntmps62
    go_wp2_with fail
    go_at_call 87
    refine (chosen_2 vs HVB.out Av lv cv _ HV.out HL6.out _ H).mono ?_
    rintro e w2 ⟨⟨A, l, c, rfl⟩, hb⟩
    go_wp2_with fail
    go_returns
    exact ⟨rfl, hb⟩

set_option maxRecDepth 100000 in
set_option maxHeartbeats 4000000 in
theorem chosen_3 (vs : List Vr) (hvb : vB vs) (Av : Option Addr) (lv cv : Nat) (w : World) (hv : VOk w Av lv cv vs) (hl6 : lv ≤ 1000) (x : Option Int) (H : Hid (spaceO vs 3 = x)) :
    Calls Tryz.prog 87 #[.slice Av lv cv, .int .i64 3] w fun e w' => (∃ A l c, e = .returned (.tuple #[.slice A l c, .int .i64 (x.getD 0), .int .i64 (if x.isSome then 0 else 4)])) ∧ Below w.heap.size w w' := by
  have HV := Lib.hid hv
  have HVB := Lib.hid hvb
  have HVL := Lib.hid hv.len
  have hlv : lv ≤ 9223372036854775807 := by have h1 := hv.cap; have h2 := hv.big; unfold maxLen at h2; omega
  obtain ⟨i0, hi, hi0, hi1, hi2⟩ := info_parts (P := Tryz.prog) (e := 48) (z := .agg #[.string ⟨#[]⟩, .int .i64 0, .int .i64 0, .int .i64 0, .int .i64 0]) (size := 5) (bytes := 48) (by kernel_rfl)
  clear hv hvb
  go_enter Tryz.func87, Tryz.ntmps87
  go_upto_region 9 with fail
  go_loopw [7, 21] (fun a v wr => ∃ (k l2 : Nat) (A2 : Option Addr) (c2 : Nat), k ≤ lv ∧ l2 ≤ k ∧ v = .int .i64 k ∧ a = .slice A2 l2 c2 ∧ Hid (((vs.take k).filter fun v => v.kind == 3).length = l2) ∧ Hid (wr.ownsRow w.heap.size 48 5 (.slice A2 l2 c2) l2 (vvals ((vs.take k).filter fun v => v.kind == 3))) ∧ Hid (Below w.heap.size w wr)) (fun _ v _ => lv - (intOf v).toNat)
  case atStart => exact ⟨0, 0, none, 0, by omega, by omega, rfl, rfl, rfl, ⟨rfl, .inl ⟨rfl, rfl⟩⟩, Lib.hid (Below.refl _ _)⟩
  case round =>
    obtain ⟨k, l2, A2, c2, hk, hlk, rfl, rfl, HL2, HO, HB⟩ := hrel
    by_cases hlt : k < lv
    · obtain ⟨s, kk, lo, hi', ii, g, f, hvs, hs, hA, hg, k0, k1, k2, k3, k4⟩ := (HV.out.below HB.out).at k hlt
      subst hA
      have hlt' : (k : Int) < (lv : Int) := by omega
      have hbd := HVB.out _ (List.mem_of_getElem? hvs)
      simp only at hbd
      have htk : vs.take (k + 1) = vs.take k ++ [⟨s, kk, lo, hi', ii⟩] := by
        rw [List.take_add_one, hvs]; rfl
      have HTK := Lib.hid htk
      have hba := (Below.refl wr.heap.size wr).alloc (Nat.le_refl _) (.cells #[.string s, .int .i64 kk, .int .i64 lo, .int .i64 hi', .int .i64 ii] 48)
      have HO4 := Lib.hid (own_below HO.out hba)
      have HB4 := Lib.hid (HB.out.trans (hba.mono HB.out.size))
      have HN4 := Lib.hid (Cs.new wr #[.string s, .int .i64 kk, .int .i64 lo, .int .i64 hi', .int .i64 ii] 48)
      clear hba htk hvs
      by_cases hkk : kk = 3
      · subst hkk
        have HL2' : Hid (((vs.take (k + 1)).filter fun v => v.kind == 3).length = l2 + 1) := by
          show _ = _
          rw [HTK.out, List.filter_append, List.length_append, HL2.out]; rfl
        have HRV : Hid (vvals ((vs.take (k + 1)).filter fun v => v.kind == 3) = vvals ((vs.take k).filter fun v => v.kind == 3) ++ [.string s, .int .i64 3, .int .i64 lo, .int .i64 hi', .int .i64 ii]) := by
          show _ = _
          rw [HTK.out, List.filter_append]
          exact vvals_snoc _ ⟨s, 3, lo, hi', ii⟩
        have b1 : decide (hi' < lo) = false := decide_eq_false (by omega)
        have b2 : decide (lo < -1048576) = false := decide_eq_false (by omega)
        have b3 : decide (1048576 < hi') = false := decide_eq_false (by omega)
        have c1 : ¬ (hi' < lo) := by omega
        have c2' : ¬ (lo < -1048576) := by omega
        have c3 : ¬ (1048576 < hi') := by omega
        clear HL2
        go_upto_region 14 with fail
        obtain ⟨w4, hw4⟩ : ∃ w4, wr.alloc (.cells #[.string s, .int .i64 3, .int .i64 lo, .int .i64 hi', .int .i64 ii] 48) = w4 := ⟨_, rfl⟩
        obtain ⟨b4, hb4⟩ : ∃ b, wr.heap.size = b := ⟨_, rfl⟩
        rw [hw4] at HO4 HB4 HN4
        rw [hb4] at HN4
        rw [hw4, hb4]
        clear hw4 hb4 k0 k1 k2 k3 k4
        have n0 := HN4.out.at 0 _ rfl
        have n1 := HN4.out.at 1 _ rfl
        have n2 := HN4.out.at 2 _ rfl
        have n3 := HN4.out.at 3 _ rfl
        have n4 := HN4.out.at 4 _ rfl
        go_wp2_with (at_builtin; (refine wpList_append_own _ rfl _ _ 22 rfl w.heap.size 48 i0 (.agg #[.string ⟨#[]⟩, .int .i64 0, .int .i64 0, .int .i64 0, .int .i64 0]) 5 48 Tryz.underlying22 hi hi0 hi1 hi2 rfl (by decide) _ l2 (vvals ((vs.take k).filter fun v => v.kind == 3)) rfl (HO4.out.alloc _) ⟨w4.heap.size, 0, none⟩ 1 1 [.string s, .int .i64 3, .int .i64 lo, .int .i64 hi', .int .i64 ii] rfl rfl ?q1 ?q2 ?q3 ?q4 ?q5 ?_))
        try (case q1 => intro j u hj; match j, hj with | 0, hj => simp at hj; subst hj; simp [Addr.add] | 1, hj => simp at hj; subst hj; simp [Addr.add] | 2, hj => simp at hj; subst hj; simp [Addr.add] | 3, hj => simp at hj; subst hj; simp [Addr.add] | 4, hj => simp at hj; subst hj; simp [Addr.add])
        case q2 => first | rfl | exact ⟨rfl, rfl, rfl, rfl, rfl⟩ | (intro u hu; simp at hu; rcases hu with rfl | rfl | rfl | rfl | rfl <;> rfl)
        case q3 => unfold maxLen; omega
        case q4 => omega
        case q5 => have := HB4.out.size; first | omega | (simp; omega)
        intro v' w5 hown5 hgrow _
        have hbel : Below w.heap.size w4 w5 := ((Below.refl _ w4).alloc HB4.out.size _).grown hgrow (by have := HB4.out.size; simp; omega) (fun q hq => (HO4.out.lt q hq).1)
        obtain ⟨A5, c5, rfl⟩ := own_form hown5
        rw [← HRV.out] at hown5
        have HO5 := Lib.hid hown5
        have HB5 := Lib.hid (HB4.out.trans hbel)
        clear hown5 hgrow hbel HO4 HB4 HN4 n0 n1 n2 n3 n4
        go_wp2_with fail
        go_roundw
        case rel => exact ⟨k + 1, l2 + 1, A5, c5, by omega, by omega, by go_num, rfl, HL2', HO5, HB5⟩
        case measure => simp [intOf]; omega
      · have hne := bne_of hkk
        have HF : Hid ((vs.take (k + 1)).filter (fun v => v.kind == 3) = (vs.take k).filter fun v => v.kind == 3) := by
          show _ = _
          rw [HTK.out, List.filter_append]
          simp [hkk]
        clear hkk
        go_wp2_with fail
        go_roundw
        case rel => exact ⟨k + 1, l2, A2, c2, by omega, by omega, by go_num, rfl, by rw [HF.out]; exact HL2, by rw [HF.out]; exact HO4, HB4⟩
        case measure => simp [intOf]; omega
    · obtain rfl : k = lv := by omega
      have htk : vs.take k = vs := List.take_of_length_le (by rw [HVL.out]; exact Nat.le_refl _)
      rw [htk] at HO HL2
      obtain ⟨us, hus⟩ : ∃ us, (vs.filter fun v => v.kind == 3) = us := ⟨_, rfl⟩
      have HUM : Hid (∀ v ∈ us, v ∈ vs) := by intro v h; rw [← hus] at h; exact (List.mem_filter.1 h).1
      have HH : Hid (spF (us.map sizeV) 1 = x) := by show _ = _; rw [← hus]; exact H.out
      rw [hus] at HO HL2
      have HU := Lib.hid (own_vs HL2.out (fun v h => HV.out.nm v (HUM.out v h)) HO.out)
      have HOL := HL2
      have hl2 : l2 ≤ 9223372036854775807 := by omega
      clear HO HL2 H hus htk
      obtain ⟨w8, hw8⟩ : ∃ w8, w8 = wr := ⟨_, rfl⟩
      rw [← hw8] at HU HB ⊢
      clear hw8
      go_upto_region 18 with fail
      go_loopw [10, 51] (fun a v wr => ∃ (k2 : Nat) (n : Int), k2 ≤ l2 ∧ v = .int .i64 k2 ∧ a = .int .i64 n ∧ Hid (0 ≤ n ∧ n ≤ 4096) ∧ Hid (spF ((us.drop k2).map sizeV) n = x) ∧ Hid (Below w8.heap.size w8 wr)) (fun _ v _ => l2 - (intOf v).toNat)
      case atStart => exact ⟨0, 1, by omega, rfl, rfl, Lib.hid (by omega), HH, Lib.hid (Below.refl _ _)⟩
      case round =>
        clear HH
        obtain ⟨k2, n, hk2, rfl, rfl, HNB, HS, HBq⟩ := hrel
        by_cases hlt2 : k2 < l2
        · obtain ⟨s, kk, lo, hi', ii, g, f, hvs, hs, hA, hg, k0, k1, k2', k3, k4⟩ := (HU.out.below HBq.out).at k2 hlt2
          subst hA
          have hlt2' : (k2 : Int) < (l2 : Int) := by omega
          have hbd := HVB.out _ (HUM.out _ (List.mem_of_getElem? hvs))
          simp only at hbd
          have hdr : us.drop k2 = ⟨s, kk, lo, hi', ii⟩ :: us.drop (k2 + 1) := by
            rw [List.drop_eq_getElem_cons (by rw [HOL.out]; exact hlt2)]
            rw [List.getElem?_eq_getElem (by rw [HOL.out]; exact hlt2)] at hvs
            rw [Option.some.inj hvs]
          obtain ⟨z, hz⟩ : ∃ z, hi' - lo + 1 = z := ⟨_, rfl⟩
          have HZ := Lib.hid hz
          have hzb : 1 ≤ z ∧ z ≤ 2097153 := by omega
          have hnb := HNB.out
          obtain ⟨p, hp⟩ : ∃ p, n * z = p := ⟨_, rfl⟩
          have hpb : 0 ≤ p ∧ p ≤ 8589938688 := by
            rw [← hp]
            exact ⟨Int.mul_nonneg (by omega) (by omega), Int.le_trans (Int.mul_le_mul hnb.2 hzb.2 (by omega) (by omega)) (by decide)⟩
          have hS : (if 4096 < p then none else spF ((us.drop (k2 + 1)).map sizeV) p) = x := by
            rw [← HS.out, hdr, List.map_cons, spF, ← hp, ← hz]; rfl
          have hwp : IntKind.i64.wrap (n * z) = p := by rw [hp]; exact IntWalk.i64_in _ (by omega)
          have hba := (Below.refl wr.heap.size wr).alloc (Nat.le_refl _) (.cells #[.string s, .int .i64 kk, .int .i64 lo, .int .i64 hi', .int .i64 ii] 48)
          have HB4 := Lib.hid (HBq.out.trans (hba.mono HBq.out.size))
          clear hba hdr hvs hz HNB HS hp
          by_cases hbig : 4096 < p
          · rw [if_pos hbig] at hS
            have hx : x = none := hS.symm
            subst hx
            have hd : decide (4096 < p) = true := decide_eq_true hbig
            go_wp2_with fail
            go_at_call 104
            refine (dsize_b s kk lo hi' ii z HZ hbd.2.1 (by omega) (by omega) hbd.2.2 _).mono ?_
            rintro e w6 ⟨rfl, hb6⟩
            have HB6 := Lib.hid (HB4.out.trans (hb6.mono HB4.out.size))
            clear hb6
            go_wp2_with fail
            go_returns
            exact ⟨⟨none, 0, 0, rfl⟩, HB.out.trans (HB6.out.mono HB.out.size)⟩
          · rw [if_neg hbig] at hS
            have HS' := Lib.hid hS
            have HNB' : Hid (0 ≤ p ∧ p ≤ 4096) := Lib.hid (by omega)
            have hd : decide (4096 < p) = false := decide_eq_false hbig
            clear hS
            go_wp2_with fail
            go_at_call 104
            refine (dsize_b s kk lo hi' ii z HZ hbd.2.1 (by omega) (by omega) hbd.2.2 _).mono ?_
            rintro e w6 ⟨rfl, hb6⟩
            have HB6 := Lib.hid (HB4.out.trans (hb6.mono HB4.out.size))
            clear hb6
            go_wp2_with fail
            go_roundw
            case rel => exact ⟨k2 + 1, p, by omega, by go_num, rfl, HNB', HS', HB6⟩
            case measure => simp [intOf]; omega
        · obtain rfl : k2 = l2 := by omega
          have hdr : us.drop k2 = [] := List.drop_of_length_le (by rw [HOL.out]; exact Nat.le_refl _)
          have hx : x = some n := by rw [← HS.out, hdr]; rfl
          subst hx
          clear HS hdr
          go_wp2_with fail
          go_returns
          exact ⟨⟨A2, k2, c2, rfl⟩, HB.out.trans (HBq.out.mono HB.out.size)⟩

set_option maxHeartbeats 1000000 in
theorem space_3 (vs : List Vr) (hvb : vB vs) (Av : Option Addr) (lv cv : Nat) (w : World) (hv : VOk w Av lv cv vs) (hl6 : lv ≤ 1000) (x : Option Int) (H : Hid (spaceO vs 3 = x)) :
    Calls Tryz.prog 62 #[.slice Av lv cv, .int .i64 3] w fun e w' => e = .returned (.tuple #[.int .i64 (x.getD 0), .int .i64 (if x.isSome then 0 else 4)]) ∧ Below w.heap.size w w' := by
  have HV := Lib.hid hv
  have HVB := Lib.hid hvb
  have HL6 := Lib.hid hl6
  clear hv hvb hl6
  cases x with
  | none =>
    go_enter Tryz.func62, Tryz.ntmps62
    go_wp2_with fail
    go_at_call 87
    refine (chosen_3 vs HVB.out Av lv cv _ HV.out HL6.out _ H).mono ?_
    rintro e w2 ⟨⟨A, l, c, rfl⟩, hb⟩
    go_wp2_with fail
    go_returns
    exact ⟨rfl, hb⟩
  | some x =>
    go_enter Tryz.func62, Tryz.ntmps62
    go_wp2_with fail
    go_at_call 87
    refine (chosen_3 vs HVB.out Av lv cv _ HV.out HL6.out _ H).mono ?_
    rintro e w2 ⟨⟨A, l, c, rfl⟩, hb⟩
    go_wp2_with fail
    go_returns
    exact ⟨rfl, hb⟩
end Go.Proofs.YtjpjmoejdkmglaaGreat
