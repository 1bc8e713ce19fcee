/-
  The walk over Members.
-/
import Derived.Test.YtpapbpekihgnlaaDoorBsL
namespace Go.Proofs.YtpapbpekihgnlaaDoor
open Go.RowKit

def ints (xs : List Nat) : List Int := xs.map fun (k : Nat) => (k : Int)
def ivals (xs : List Nat) : List Value := xs.map fun (k : Nat) => Value.int .i64 (k : Int)
theorem ints_len (xs : List Nat) : (ints xs).length = xs.length := by simp [ints]
theorem ivals_len (xs : List Nat) : (ivals xs).length = xs.length := by simp [ivals]
theorem ivals_snoc (xs : List Nat) (k : Nat) : ivals (xs ++ [k]) = ivals xs ++ [.int .i64 (k : Int)] := by simp [ivals]
theorem own_form {w : World} {base : Nat} {e : TypeId} {size : Nat} {v : Value} {n : Nat} {xs : List Value} (h : w.ownsRow base e size v n xs) : ∃ A c, v = .slice A n c := by
  obtain ⟨_, h | ⟨g, cap, cur, rfl, _⟩⟩ := h
  · exact ⟨none, 0, by rw [h.1, h.2]⟩
  · exact ⟨_, cap, rfl⟩
theorem own_base {w : World} {base base' : Nat} {e : TypeId} {size : Nat} {v : Value} {n : Nat} {xs : List Value} (h : w.ownsRow base e size v n xs) (hb : base' ≤ base) : w.ownsRow base' e size v n xs := by
  obtain ⟨h0, h | ⟨g, cap, cur, hv, h1, r⟩⟩ := h
  · exact ⟨h0, .inl h⟩
  · exact ⟨h0, .inr ⟨g, cap, cur, hv, Nat.le_trans hb h1, r⟩⟩
theorem own_below {w w' : World} {base : Nat} {e : TypeId} {size : Nat} {v : Value} {n : Nat} {xs : List Value} (h : w.ownsRow base e size v n xs) (hb : Below w.heap.size w w') : w'.ownsRow base e size v n xs := by
  obtain ⟨h0, h | ⟨g, cap, cur, hv, h1, hh, r⟩⟩ := h
  · exact ⟨h0, .inl h⟩
  · refine ⟨h0, .inr ⟨g, cap, cur, hv, h1, ?_, r⟩⟩
    have hg : g < w.heap.size := by
      rcases Nat.lt_or_ge g w.heap.size with hl | hl
      · exact hl
      · rw [Array.getElem?_eq_none hl] at hh; cases hh
    rw [hb.block g hg]
    exact hh
theorem own_zs {w : World} {base : Nat} {e : TypeId} {A : Option Addr} {l c : Nat} {xs : List Nat} (h : w.ownsRow base e 1 (.slice A l c) xs.length (ivals xs)) : l = xs.length ∧ Zs w A l c (ints xs) := by
  obtain ⟨_, h | ⟨g, cap, cur, hv, hb, hh, h1, h2, h3, h4⟩⟩ := h
  · obtain ⟨h, hx⟩ := h
    obtain rfl := List.eq_nil_of_length_eq_zero hx
    cases h
    exact ⟨rfl, rfl, Nat.le_refl _, Nat.zero_le _, fun h => absurd h (by omega)⟩
  · cases hv
    refine ⟨rfl, ints_len xs, h1, h2, fun _ => ⟨g, 0, rfl, ?_, fun j hj => ?_⟩⟩
    · rcases Nat.lt_or_ge g w.heap.size with hl | hl
      · exact hl
      · rw [Array.getElem?_eq_none hl] at hh; cases hh
    · rw [Nat.zero_add]
      have hu : (ivals xs)[j]? = some (.int .i64 ((ints xs).getD j 0)) := by simp [ivals, ints, List.getD_eq_getElem?_getD, hj]
      rw [← h4, List.getElem?_take] at hu
      split at hu
      · rw [Array.getElem?_toList] at hu
        simp [World.cell?, hh, hu]
      · cases hu

set_option maxHeartbeats 2000000 in
theorem members_b (n : Int) (A : Option Addr) (l c : Nat) (ws : List Nat) (r : List Nat) (H : Hid (membR n ws = r)) (w : World) (hT : Tb w) (hw : Wd w A l c ws) :
    Calls Tryd.prog 39 #[.agg #[.int .i64 n, .slice A l c]] w fun e w' => (∃ A' c', e = .returned (.slice A' r.length c') ∧ w'.ownsRow w.heap.size 3 1 (.slice A' r.length c') r.length (ivals r)) ∧ Below w.heap.size w w' := by
  have HW := Lib.hid hw
  have HT := Lib.hid hT
  clear hw hT
  obtain ⟨i0, hi, hi0, hi1, hi2⟩ := info_parts (P := Tryd.prog) (e := 3) (z := .int .i64 0) (size := 1) (bytes := 8) (by kernel_rfl)
  obtain ⟨v, hv⟩ : ∃ v, Bs.vld n ws = v := ⟨_, rfl⟩
  have HV := Lib.hid hv
  go_enter Tryd.func39, Tryd.ntmps39
  go_wp2_with fail
  go_at_call 18
  refine (valid_b n A l c ws v HV _ (HW.out.below (boxS_below w n A l c))).mono ?_
  rintro e w2 ⟨rfl, hb⟩
  have HC := Lib.hid ((boxS_cs w n A l c).next hb)
  have HB := Lib.hid ((boxS_below w n A l c).trans (hb.mono (by simp [boxS])))
  have HW2 := Lib.hid (HW.out.below HB.out)
  have HT2 := Lib.hid (HT.out.below HB.out)
  clear hb HV HW HT
  have c0 := HC.out.at 0 _ rfl
  have c1 := HC.out.at 1 _ rfl
  cases v with
  | false =>
    have hr : r = [] := by rw [← H.out]; unfold membR; rw [if_neg (by rw [hv]; simp)]
    subst hr
    clear H hv
    go_wp2_with fail
    go_ret
    exact ⟨⟨none, 0, rfl, rfl, .inl ⟨rfl, rfl⟩⟩, HB.out⟩
  | true =>
    obtain ⟨m, rfl⟩ : ∃ m : Nat, n = m := ⟨n.toNat, by have := (Bs.vld_iff.1 hv).1; omega⟩
    have hlen := Bs.vld_len hv
    have hn := Bs.vld_le hv
    have hll := HW2.out.len
    have hl6 : l ≤ 64 := by omega
    have hr : Bs.upto ws (64 * l) = r := by
      rw [← H.out]; unfold membR; rw [if_pos hv, Int.toNat_natCast, ← hll, Bs.upto_vld hv]
    have HR := Lib.hid hr
    clear H hv hr hlen hll
    go_wp2_with fail
    go_loopw [3, 12] (fun a v wr => ∃ (k t : Nat) (A1 : Option Addr) (c1 : Nat), k ≤ l ∧ v = .int .i64 k ∧ a = .slice A1 t c1 ∧ Hid ((Bs.upto ws (64 * k)).length = t) ∧ t ≤ 64 * k ∧ Hid (wr.ownsRow w2.heap.size 3 1 (.slice A1 t c1) t (ivals (Bs.upto ws (64 * k)))) ∧ Hid (Below w2.heap.size w2 wr)) (fun _ v _ => l - (intOf v).toNat)
    case atStart => exact ⟨0, 0, none, 0, by omega, rfl, rfl, rfl, by omega, ⟨rfl, .inl ⟨rfl, rfl⟩⟩, Below.refl _ _⟩
    case round =>
      obtain ⟨k, t, A1, cc, hk, rfl, rfl, HK, htk, HO, HBR⟩ := hrel
      obtain ⟨wo, rfl⟩ : ∃ wo : World, wo = wr := ⟨_, rfl⟩
      by_cases hlt : k < l
      · obtain ⟨g, f, hA, hg, hc⟩ := (HW2.out.below HBR.out).mem (by omega)
        subst hA
        have hcell := hc k hlt
        have hxl := HW2.out.fits k
        obtain ⟨x, hx⟩ : ∃ x, ws.getD k 0 = x := ⟨_, rfl⟩
        rw [hx] at hcell hxl
        have hlt' : (k : Int) < (l : Int) := by omega
        have HX := Lib.hid hx
        clear hc hx
        go_wp2_with fail
        go_loopw [3, 5] (fun a y wr => ∃ (t' z : Nat) (A2 : Option Addr) (c2 : Nat) (done : List Nat), z < 2 ^ 64 ∧ y = .int .u64 z ∧ a = .slice A2 t' c2 ∧ Hid (Bs.bl x = done ++ Bs.bl z) ∧ Hid ((Bs.upto ws (64 * k) ++ done.map (64 * k + ·)).length = t') ∧ Hid (wr.ownsRow w2.heap.size 3 1 (.slice A2 t' c2) t' (ivals (Bs.upto ws (64 * k) ++ done.map (64 * k + ·)))) ∧ Hid (Below w2.heap.size w2 wr)) (fun _ y _ => (intOf y).toNat)
        case atStart => exact ⟨t, x, A1, cc, [], hxl, rfl, rfl, rfl, by show _ = _; simp [HK.out], by show World.ownsRow _ _ _ _ _ _ _; simpa using HO.out, HBR⟩
        case round =>
          obtain ⟨t', z, A2, c2, done, hzl, rfl, rfl, HD, HK2, HO2, HB2⟩ := hrel
          have hpx := Bs.pc_le 64 x
          have hlx : done.length + (Bs.bl z).length ≤ 64 := by rw [← List.length_append, ← HD.out, Bs.bl_len]; exact hpx
          have ht' : t' = t + done.length := by rw [← HK2.out, List.length_append, HK.out, List.length_map]
          by_cases hz0 : z = 0
          · subst hz0
            have hdx : Bs.bl x = done := by rw [HD.out, Bs.bl_zero, List.append_nil]
            have hup : Bs.upto ws (64 * k) ++ done.map (64 * k + ·) = Bs.upto ws (64 * (k + 1)) := by rw [Bs.upto_word, HX.out, hdx]
            rw [hup] at HK2 HO2
            clear HD hup hdx HO HK
            go_wp2_with fail
            go_roundw
            case rel => exact ⟨k + 1, t', A2, c2, by omega, by go_num, rfl, HK2, by omega, HO2, HB2⟩
            case measure => simp [intOf]; omega
          · obtain ⟨tt, mm, hzz⟩ := Bs.odd_part z hz0
            have hzl2 : 2 ^ tt * (2 * mm + 1) < 2 ^ 64 := by rw [← hzz]; exact hzl
            have htt := Bs.odd_lt hzl2
            have hstep := Bs.bl_step tt mm hzl2
            rw [← hzz] at hstep
            have hlow := Bs.and_low tt mm
            rw [← hzz] at hlow
            obtain ⟨z', hz'⟩ : ∃ z', 2 ^ tt * (2 * mm) = z' := ⟨_, rfl⟩
            have hlt2 : z' < z := by rw [← hz', hzz]; exact Nat.mul_lt_mul_of_pos_left (by omega) (Nat.two_pow_pos tt)
            rw [hz'] at hstep hlow
            have hdl : done.length < 64 := by rw [hstep, List.length_cons] at hlx; omega
            have HD' : Hid (Bs.bl x = (done ++ [tt]) ++ Bs.bl z') := by show _ = _; rw [HD.out, hstep]; simp
            have hd : ((z : Int) != 0) = true := by simp; omega
            have HL : Hid (bits .and .u64 (z : Int) ((z : Int) - 1) = (z' : Int)) := by
              show _ = _
              rw [show ((z : Int) - 1) = ((z - 1 : Nat) : Int) by omega, u64_and_nat _ _ hzl (by omega), hlow]
            have HT' := Lib.hid ht'
            have HTW := Lib.hid (HT2.out.below HB2.out)
            have HZZ := Lib.hid hzz.symm
            have HZL := Lib.hid hzl2
            have ht6 : t' ≤ 4200 := by omega
            clear hstep hlow hz' HD hzz hzl2 HO HK ht'
            go_wp2_with fail
            go_at_call 57
            refine (tz_b tt mm HZL.out z HZZ.out _ HTW.out).mono ?_
            rintro e w3 ⟨rfl, rfl⟩
            go_wp2_with (at_builtin; (refine wpList_append_own _ rfl _ _ 25 rfl w2.heap.size 3 i0 (.int .i64 0) 1 8 Tryd.underlying25 hi hi0 hi1 hi2 rfl (by decide) _ t' (ivals (Bs.upto ws (64 * k) ++ done.map (64 * k + ·))) rfl (HO2.out.alloc _) ⟨w3.heap.size, 0, none⟩ 1 1 [.int .i64 ((k : Int) * 64 + (tt : Int))] rfl rfl ?q1 ?q2 ?q3 ?q4 ?q5 ?_))
            case q1 =>
              intro j u hj
              match j, hj with
              | 0, hj => simp at hj; subst hj; simp [Addr.add]
            case q2 => intro u hu; simp at hu; subst hu; rfl
            case q3 => unfold maxLen; omega
            case q4 => omega
            case q5 => simp; have := HB2.out.size; omega
            intro v' w4 hown4 hgrow _
            have hbel : Below w2.heap.size w2 w4 := (HB2.out.alloc HB2.out.size _).grown hgrow (by simp; have := HB2.out.size; omega) (fun q hq => (HO2.out.lt q hq).1)
            have HB4 := Lib.hid hbel
            obtain ⟨A4, c4, rfl⟩ := own_form hown4
            have hvv : ivals (Bs.upto ws (64 * k) ++ done.map (64 * k + ·)) ++ [Value.int .i64 ((k : Int) * 64 + (tt : Int))] = ivals (Bs.upto ws (64 * k) ++ (done ++ [tt]).map (64 * k + ·)) := by
              rw [List.map_append, ← List.append_assoc]
              show _ = ivals (_ ++ [64 * k + tt])
              rw [ivals_snoc, show ((64 * k + tt : Nat) : Int) = (k : Int) * 64 + (tt : Int) by omega]
            rw [hvv] at hown4
            have HO4 := Lib.hid hown4
            clear hown4 hvv hgrow hbel HO2 HB2
            go_wp2_with fail
            rw [HL.out]
            go_roundw
            case rel => exact ⟨t' + 1, z', A4, c4, done ++ [tt], by omega, rfl, rfl, HD', by show _ = _; have := HK2.out; simp at this ⊢; omega, HO4, HB4⟩
            case measure => simp [intOf]; omega
      · obtain rfl : k = l := by omega
        obtain rfl : t = r.length := by rw [← HK.out, HR.out]
        rw [HR.out] at HO
        go_wp2_with fail
        go_ret
        exact ⟨⟨A1, cc, rfl, own_base HO.out HB.out.size⟩, HB.out.trans (HBR.out.mono HB.out.size)⟩
end Go.Proofs.YtpapbpekihgnlaaDoor
