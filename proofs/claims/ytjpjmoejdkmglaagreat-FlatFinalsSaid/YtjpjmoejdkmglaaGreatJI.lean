/-
  The walk over the machine's set.
  The walks over Settled, the program's and the reference's.
  The walk over the machine's loop.
-/
import Derived.Test.YtjpjmoejdkmglaaGreatFlMm
import Derived.StillTailTactics
import Derived.Test.YtjpjmoejdkmglaaGreatFlZ
import Derived.Deep.Cut
namespace Go.Proofs.YtjpjmoejdkmglaaGreat
open Go.RowKit

set_option maxRecDepth 100000 in
set_option maxHeartbeats 2000000 in
theorem set_b (vs : List Vr) (Av : Option Addr) (lv cv : Nat) (b c V H O : Value) (hats : List Int) (B p : Nat) (w : World) (s : Ms) (hm : Mk 3 B p (.slice Av lv cv) b c V H hats w O s) (hv : VOk w Av lv cv vs) (v n : Int) (h0 : 0 ≤ v) (h1 : v < (lv : Int)) (hl : s.v.length = lv) :
    Calls Tryz.prog 43 #[.pointer (some ⟨p, 0, none⟩), .int .i64 v, .int .i64 n] w fun e w' => e = .returned (.tuple #[]) ∧ Went 3 B p (.slice Av lv cv) b c V H hats w O w' O ⟨setV vs s.v v n, s.o, s.t⟩ := by
  obtain ⟨j, hj⟩ : ∃ j : Nat, v = j := ⟨v.toNat, by omega⟩
  subst hj
  have hjl : j < lv := by omega
  obtain ⟨q, cp, hV⟩ := Joins.ownsRow_form hm.v (by omega)
  subst hV
  obtain ⟨nm, kd, lo, hi, ii, g, f, hx, hsz, hA, hg, k0, k1, k2, k3, k4⟩ := hv.at j hjl
  subst hA
  obtain ⟨r, hr⟩ : ∃ r, clampP n lo hi = r := ⟨_, rfl⟩
  have HR := Lib.hid hr
  have HS : Hid (setV vs s.v j n = s.v.set j r) := by show _ = _; rw [setV, ← hr]; simp [hx]
  have hlj : (j : Int) < (s.v.length : Int) := by omega
  have hq : w.cell? ⟨q, j, none⟩ = some (.int .i64 (s.v.getD j 0)) := by rw [hm.v.cellAt j (by omega), iv_get _ _ (by omega)]
  have hqf : w.frozen? ⟨q, j, none⟩ = false := hm.v.frozenAt j
  have HW := Lib.hid hm
  have p0 := hm.cs.at 0 _ rfl
  have p3 := hm.cs.at 3 _ rfl
  clear hv hx hsz hr k0 k1 k4 hm
  go_enter Tryz.func43, Tryz.ntmps43
  refine wp_region_still_tail 26 (by kernel_rfl) (by kernel_rfl) ?_
  simp only [List.take_succ_cons, List.take_zero, List.drop_succ_cons, List.drop_zero]
  repeat still_step
  still_call ((clamp_b n lo hi r HR w.drew).mono fun _ _ h => ⟨h.1, h.2.symm⟩)
  repeat still_step
  refine wpStill_nil ?_
  change wpList _ _ _ _ _ w.drew
  go_wp2_with fail
  go_returns
  refine ⟨rfl, ?_⟩
  rw [HS.out]
  exact (HW.out.val j r).below (Below.refl _ _).drew

theorem settle_yes {t x : Int} {s : Int × Bool} (h : t ≤ x ∧ (s.2 = false ∨ x < s.1)) : settleS t s x = (x, true) := by unfold settleS; rw [if_pos h]
theorem settle_no {t x : Int} {s : Int × Bool} (h : ¬ (t ≤ x ∧ (s.2 = false ∨ x < s.1))) : settleS t s x = s := by unfold settleS; rw [if_neg h]

set_option maxHeartbeats 2000000 in
theorem settled_b (bs : List Int) (t r : Int) (H : Hid (settledP bs t = r)) (A : Option Addr) (l c : Nat) (w : World) (hz : Zs w A l c bs) :
    Calls Tryz.prog 44 #[.slice A l c, .int .i64 t] w fun e w' => e = .returned (.int .i64 r) ∧ w = w' := by
  have HZ := Lib.hid hz
  have HL := Lib.hid hz.len
  have hlm : l ≤ 9223372036854775807 := by have h1 := hz.cap; have h2 := hz.big; unfold maxLen at h2; omega
  obtain ⟨z, hz0⟩ : ∃ z, bs.foldl (settleS t) (t, false) = z := ⟨_, rfl⟩
  have hr : z.1 = r := by rw [← hz0]; exact H.out
  have HR := Lib.hid hr
  have HK0 : Hid ((bs.drop 0).foldl (settleS t) (t, false) = z) := hz0
  clear hz H hz0 hr
  go_enter Tryz.func44, Tryz.ntmps44
  go_wp2_with fail
  go_loop [5, 6, 12] (fun u v i => ∃ k : Nat, k ≤ l ∧ i = .int .i64 k ∧ ∃ (b : Int) (f : Bool), u = .int .i64 b ∧ v = .bool f ∧ Hid ((bs.drop k).foldl (settleS t) (b, f) = z)) (fun _ _ i => l - (intOf i).toNat)
  case atStart => exact ⟨0, by omega, rfl, t, false, rfl, rfl, HK0⟩
  case round =>
    obtain ⟨k, hk, rfl, b, f, rfl, rfl, HK⟩ := hrel
    by_cases hlt : k < l
    · obtain ⟨g, fo, hA, hg, hc⟩ := HZ.out.mem (by omega)
      subst hA
      have hlt' : (k : Int) < (l : Int) := by omega
      have ck := hc k hlt
      obtain ⟨x, hx⟩ : ∃ x, bs.getD k 0 = x := ⟨_, rfl⟩
      have hdr : bs.drop k = x :: bs.drop (k + 1) := by
        have hkl : k < bs.length := by rw [HL.out]; exact hlt
        rw [List.drop_eq_getElem_cons hkl, ← hx, List.getD_eq_getElem?_getD, List.getElem?_eq_getElem hkl]; rfl
      rw [hx] at ck
      clear hc hx
      by_cases hA : t ≤ x
      · have hA' : decide (t ≤ x) = true := decide_eq_true hA
        cases f with
        | false =>
          have HK2 : Hid ((bs.drop (k + 1)).foldl (settleS t) (x, true) = z) := by show _ = _; rw [← HK.out, hdr, List.foldl_cons, settle_yes (by first | exact ⟨by omega, .inl rfl⟩ | exact ⟨by omega, .inr (by simp only; omega)⟩)]
          clear HK hdr
          go_wp2_with fail
          go_round
          case rel => exact ⟨k + 1, by omega, by go_num, x, true, rfl, rfl, HK2⟩
          case measure => simp [intOf]; omega
        | true =>
          by_cases hB : x < b
          · have hB' : decide (x < b) = true := decide_eq_true hB
            have HK2 : Hid ((bs.drop (k + 1)).foldl (settleS t) (x, true) = z) := by show _ = _; rw [← HK.out, hdr, List.foldl_cons, settle_yes (by first | exact ⟨by omega, .inl rfl⟩ | exact ⟨by omega, .inr (by simp only; omega)⟩)]
            clear HK hdr
            go_wp2_with fail
            go_round
            case rel => exact ⟨k + 1, by omega, by go_num, x, true, rfl, rfl, HK2⟩
            case measure => simp [intOf]; omega
          · have hB' : decide (x < b) = false := decide_eq_false hB
            have HK2 : Hid ((bs.drop (k + 1)).foldl (settleS t) (b, true) = z) := by show _ = _; rw [← HK.out, hdr, List.foldl_cons, settle_no (by simp only; first | omega | (rintro ⟨h1, h2⟩; rcases h2 with h2 | h2 <;> first | omega | cases h2))]
            clear HK hdr
            go_wp2_with fail
            go_round
            case rel => exact ⟨k + 1, by omega, by go_num, b, _, rfl, rfl, HK2⟩
            case measure => simp [intOf]; omega
      · have hA' : decide (t ≤ x) = false := decide_eq_false hA
        have HK2 : Hid ((bs.drop (k + 1)).foldl (settleS t) (b, f) = z) := by show _ = _; rw [← HK.out, hdr, List.foldl_cons, settle_no (by simp only; first | omega | (rintro ⟨h1, h2⟩; rcases h2 with h2 | h2 <;> first | omega | cases h2))]
        clear HK hdr
        go_wp2_with fail
        go_round
        case rel => exact ⟨k + 1, by omega, by go_num, b, _, rfl, rfl, HK2⟩
        case measure => simp [intOf]; omega
    · obtain rfl : k = l := by omega
      have hb : b = r := by rw [← HR.out, ← HK.out, List.drop_of_length_le (by rw [HL.out]; exact Nat.le_refl _)]; rfl
      subst hb
      clear HK HR
      go_wp2_with fail
      go_ret
      exact ⟨rfl, rfl⟩

set_option maxHeartbeats 2000000 in
theorem rsettled_b (bs : List Int) (t r : Int) (H : Hid (settledP bs t = r)) (A : Option Addr) (l c : Nat) (w : World) (hz : Zs w A l c bs) :
    Calls Tryz.prog 56 #[.slice A l c, .int .i64 t] w fun e w' => e = .returned (.int .i64 r) ∧ w = w' := by
  have HZ := Lib.hid hz
  have HL := Lib.hid hz.len
  have hlm : l ≤ 9223372036854775807 := by have h1 := hz.cap; have h2 := hz.big; unfold maxLen at h2; omega
  obtain ⟨z, hz0⟩ : ∃ z, bs.foldl (settleS t) (t, false) = z := ⟨_, rfl⟩
  have hr : z.1 = r := by rw [← hz0]; exact H.out
  have HR := Lib.hid hr
  have HK0 : Hid ((bs.drop 0).foldl (settleS t) (t, false) = z) := hz0
  clear hz H hz0 hr
  go_enter Tryz.func56, Tryz.ntmps56
  go_wp2_with fail
  go_loop [5, 6, 7] (fun u v i => ∃ k : Nat, k ≤ l ∧ i = .int .i64 k ∧ ∃ (b : Int) (f : Bool), u = .int .i64 b ∧ v = .bool f ∧ Hid ((bs.drop k).foldl (settleS t) (b, f) = z)) (fun _ _ i => l - (intOf i).toNat)
  case atStart => exact ⟨0, by omega, rfl, t, false, rfl, rfl, HK0⟩
  case round =>
    obtain ⟨k, hk, rfl, b, f, rfl, rfl, HK⟩ := hrel
    by_cases hlt : k < l
    · obtain ⟨g, fo, hA, hg, hc⟩ := HZ.out.mem (by omega)
      subst hA
      have hlt' : (k : Int) < (l : Int) := by omega
      have ck := hc k hlt
      obtain ⟨x, hx⟩ : ∃ x, bs.getD k 0 = x := ⟨_, rfl⟩
      have hdr : bs.drop k = x :: bs.drop (k + 1) := by
        have hkl : k < bs.length := by rw [HL.out]; exact hlt
        rw [List.drop_eq_getElem_cons hkl, ← hx, List.getD_eq_getElem?_getD, List.getElem?_eq_getElem hkl]; rfl
      rw [hx] at ck
      clear hc hx
      by_cases hA : t ≤ x
      · have hA' : decide (t ≤ x) = true := decide_eq_true hA
        cases f with
        | false =>
          have HK2 : Hid ((bs.drop (k + 1)).foldl (settleS t) (x, true) = z) := by show _ = _; rw [← HK.out, hdr, List.foldl_cons, settle_yes (by first | exact ⟨by omega, .inl rfl⟩ | exact ⟨by omega, .inr (by simp only; omega)⟩)]
          clear HK hdr
          go_wp2_with fail
          go_round
          case rel => exact ⟨k + 1, by omega, by go_num, x, true, rfl, rfl, HK2⟩
          case measure => simp [intOf]; omega
        | true =>
          by_cases hB : x < b
          · have hB' : decide (x < b) = true := decide_eq_true hB
            have HK2 : Hid ((bs.drop (k + 1)).foldl (settleS t) (x, true) = z) := by show _ = _; rw [← HK.out, hdr, List.foldl_cons, settle_yes (by first | exact ⟨by omega, .inl rfl⟩ | exact ⟨by omega, .inr (by simp only; omega)⟩)]
            clear HK hdr
            go_wp2_with fail
            go_round
            case rel => exact ⟨k + 1, by omega, by go_num, x, true, rfl, rfl, HK2⟩
            case measure => simp [intOf]; omega
          · have hB' : decide (x < b) = false := decide_eq_false hB
            have HK2 : Hid ((bs.drop (k + 1)).foldl (settleS t) (b, true) = z) := by show _ = _; rw [← HK.out, hdr, List.foldl_cons, settle_no (by simp only; first | omega | (rintro ⟨h1, h2⟩; rcases h2 with h2 | h2 <;> first | omega | cases h2))]
            clear HK hdr
            go_wp2_with fail
            go_round
            case rel => exact ⟨k + 1, by omega, by go_num, b, _, rfl, rfl, HK2⟩
            case measure => simp [intOf]; omega
      · have hA' : decide (t ≤ x) = false := decide_eq_false hA
        have HK2 : Hid ((bs.drop (k + 1)).foldl (settleS t) (b, f) = z) := by show _ = _; rw [← HK.out, hdr, List.foldl_cons, settle_no (by simp only; first | omega | (rintro ⟨h1, h2⟩; rcases h2 with h2 | h2 <;> first | omega | cases h2))]
        clear HK hdr
        go_wp2_with fail
        go_round
        case rel => exact ⟨k + 1, by omega, by go_num, b, _, rfl, rfl, HK2⟩
        case measure => simp [intOf]; omega
    · obtain rfl : k = l := by omega
      have hb : b = r := by rw [← HR.out, ← HK.out, List.drop_of_length_le (by rw [HL.out]; exact Nat.le_refl _)]; rfl
      subst hb
      clear HK HR
      go_wp2_with fail
      go_ret
      exact ⟨rfl, rfl⟩

/-- From machine to machine by a call. -/
def Ran (E : TypeId) (B p : Nat) (a b c V H : Value) (hats : List Int) (w : World) (O : Value) (s' : Ms) (e : Ending) (w' : World) : Prop := e = .returned (.tuple #[]) ∧ ∃ O', Went E B p a b c V H hats w O w' O' s'
theorem Fit.vlen {vs : List Vr} {n : Nat} {s : Ms} (h : Fit vs n s) : s.v.length = vs.length := h.1.1
theorem Fit.time {vs : List Vr} {n : Nat} {s : Ms} (h : Fit vs n s) (t : Int) : Fit vs n ⟨s.v, s.o, t⟩ := ⟨h.1, h.2⟩

set_option maxRecDepth 100000 in
set_option maxHeartbeats 8000000 in
theorem loop_b (vs : List Vr) (hvb : vB vs) (Av : Option Addr) (lv cv : Nat) (Ag : Option Addr) (lg cg : Nat) (Ay : Option Addr) (ly cy : Nat) (Ax : Option Addr) (cx : Nat) (Ah0 : Option Addr) (lh0 ch0 : Nat) (hats : List Int) (p : Nat) (w0 : World) (hv0 : VOk w0 Av lv cv vs) (m : Nat) (IH : Hid (∀ (ks : List Sp) (l : Nat) (A : Option Addr) (c : Nat) (w : World) (O : Value) (s : Ms) (n : Nat) (s' : Ms) (top : Bool), ks.length = l → Sp.cntL ks ≤ m → SOk w0 A c ks → Below w0.heap.size w0 w → Mk 3 w0.heap.size p (.slice Av lv cv) (.slice Ag lg cg) (.slice Ay ly cy) (.slice Ax lv cx) (.slice Ah0 lh0 ch0) hats w O s → stepsC vs lh0 top ks = 0 → Fit vs n s → n + outL ks ≤ 1000 → Hid (runL vs hats ks s = s') → Calls Tryz.prog 21 #[.pointer (some ⟨p, 0, none⟩), .slice A l c] w (Ran 3 w0.heap.size p (.slice Av lv cv) (.slice Ag lg cg) (.slice Ay ly cy) (.slice Ax lv cx) (.slice Ah0 lh0 ch0) hats w O s')))
    (d x1 v n o tn : Int) (tk : List Tm) (th el : List Sp) (bs : List Int) (At : Option Addr) (lt ct : Nat) (Ah : Option Addr) (lh ch : Nat) (Ae : Option Addr) (le ce : Nat) (Ab : Option Addr) (lb cb : Nat) (hlt : tk.length = lt) (hlh : th.length = lh) (hm : Sp.cntL th ≤ m) (ht : TOk w0 At ct tk) (hth : SOk w0 Ah ch th) (hF : Fine vs lh0 4 x1 v n (.mk o tn tk) th el bs)
    (w : World) (O : Value) (s : Ms) (n0 : Nat) (s' : Ms) (hb : Below w0.heap.size w0 w) (hk : Mk 3 w0.heap.size p (.slice Av lv cv) (.slice Ag lg cg) (.slice Ay ly cy) (.slice Ax lv cx) (.slice Ah0 lh0 ch0) hats w O s) (hfit : Fit vs n0 s) (hroom : n0 + n.toNat * outL th ≤ 1000) (HR : Hid (loopM x1 (fun l => valueP l (.mk o tn tk)) (fun s => runL vs hats th s) n.toNat s = s')) :
    Calls Tryz.prog 42 #[.pointer (some ⟨p, 0, none⟩), .agg #[.int .i64 d, .int .i64 x1, .int .i64 v, .int .i64 n, .int .i64 o, .int .i64 tn, .slice At lt ct, .slice Ah lh ch, .slice Ae le ce, .slice Ab lb cb]] w (Ran 3 w0.heap.size p (.slice Av lv cv) (.slice Ag lg cg) (.slice Ay ly cy) (.slice Ax lv cx) (.slice Ah0 lh0 ch0) hats w O s') := by
  have hn := hF.num.2.2 rfl
  obtain ⟨N, hN⟩ : ∃ N : Nat, n = N := ⟨n.toNat, by omega⟩
  subst hN
  rw [Int.toNat_natCast] at hroom
  have HR0 : Hid (loopM x1 (fun l => valueP l (.mk o tn tk)) (fun s => runL vs hats th s) (N - 0) s = s') := HR
  have hN1 : N ≤ 4096 := by omega
  have HVB := Lib.hid hvb
  have HV0 := Lib.hid hv0
  have HLT := Lib.hid hlt
  have HLH := Lib.hid hlh
  have HM := Lib.hid hm
  have HT := Lib.hid ht
  have HTH := Lib.hid hth
  have HF := Lib.hid hF
  have HROOM := Lib.hid hroom
  have hba := (Below.refl w.heap.size w).alloc (Nat.le_refl _) (.cells #[.int .i64 d, .int .i64 x1, .int .i64 v, .int .i64 (N : Int), .int .i64 o, .int .i64 tn, .slice At lt ct, .slice Ah lh ch, .slice Ae le ce, .slice Ab lb cb] 56)
  have HW0 := Lib.hid ((Went.refl hk).below hba)
  have HQ0 := Lib.hid (Cs.new w #[.int .i64 d, .int .i64 x1, .int .i64 v, .int .i64 (N : Int), .int .i64 o, .int .i64 tn, .slice At lt ct, .slice Ah lh ch, .slice Ae le ce, .slice Ab lb cb] 56)
  have HNO := Lib.hid (hk.fresh (Nat.le_refl w.heap.size))
  have HK := Lib.hid hk
  have HB := Lib.hid hb
  have HFT : Hid (Fit vs (n0 + 0 * outL th) s) := Lib.hid (by simpa using hfit)
  clear hvb hv0 hlt hlh hm ht hth hF hroom hba hb hfit hk hn HR
  go_enter Tryz.func42, Tryz.ntmps42
  go_upto_region 1 with fail
  obtain ⟨w1, hw1⟩ : ∃ w1, w.alloc (.cells #[.int .i64 d, .int .i64 x1, .int .i64 v, .int .i64 (N : Int), .int .i64 o, .int .i64 tn, .slice At lt ct, .slice Ah lh ch, .slice Ae le ce, .slice Ab lb cb] 56) = w1 := ⟨_, rfl⟩
  obtain ⟨q, hq⟩ : ∃ q, w.heap.size = q := ⟨_, rfl⟩
  rw [hw1] at HW0 HQ0
  rw [hq] at HQ0 HNO
  rw [hw1, hq]
  have HQL : Hid (w.heap.size ≤ q) := Lib.hid (by omega)
  clear hw1 hq
  have n3 := HQ0.out.at 3 _ rfl
  go_upto_region 2 with fail
  go_loopw [6] (fun i wr => ∃ (k : Nat) (s1 : Ms) (O1 : Value), k ≤ N ∧ i = .int .i64 k ∧ Hid (loopM x1 (fun l => valueP l (.mk o tn tk)) (fun s => runL vs hats th s) (N - k) s1 = s') ∧ Hid (Went 3 w0.heap.size p (.slice Av lv cv) (.slice Ag lg cg) (.slice Ay ly cy) (.slice Ax lv cx) (.slice Ah0 lh0 ch0) hats w O wr O1 s1) ∧ Hid (Cs wr q [.int .i64 d, .int .i64 x1, .int .i64 v, .int .i64 (N : Int), .int .i64 o, .int .i64 tn, .slice At lt ct, .slice Ah lh ch, .slice Ae le ce, .slice Ab lb cb]) ∧ Hid (¬ Own p (.slice Ax lv cx) O1 q) ∧ Hid (Fit vs (n0 + k * outL th) s1)) (fun i _ => N - (intOf i).toNat)
  case atStart => exact ⟨0, s, O, by omega, rfl, HR0, HW0, HQ0, HNO, HFT⟩
  case round =>
    clear HR0 HW0 HQ0 HNO HFT n3
    obtain ⟨k, ⟨sv, so, st⟩, O1, hk, rfl, HR, HW, HQ, HNO, HFT⟩ := hrel
    by_cases hlt : k < N
    · have hlt' : (k : Int) < (N : Int) := by omega
      have hBl : w0.heap.size ≤ w.heap.size := HB.out.size
      obtain ⟨tz, htz⟩ : ∃ z, IntKind.i64.wrap (st + x1) = z := ⟨_, rfl⟩
      have HTZ : Hid (bumpT st x1 = tz) := htz
      have n1 := HQ.out.at 1 _ rfl
      have p6 := HW.out.st.cs.at 6 _ rfl
      have pf6 := HW.out.st.cs.free 6
      have hpl := HW.out.st.cs.lt
      go_wp2_with fail
      refine wp_region_still_tail 9 (by kernel_rfl) (by kernel_rfl) ?_
      simp only [List.take_succ_cons, List.take_zero, List.drop_succ_cons, List.drop_zero]
      repeat still_step
      refine wpStill_nil ?_
      change wpList _ _ _ _ _ wr.drew
      go_upto_region 4 with fail
      have HW2 := Lib.hid ((HW.out.trans (HW.out.st.time tz)).below (Below.refl _ _).drew)
      have HQ2 := Lib.hid ((HQ.out.other (p := ⟨p, 6, none⟩) (fun e => HNO.out (.inl e.symm)) (.int .i64 tz)).drew)
      obtain ⟨w2, hw2⟩ : ∃ w2, (wr.setCell ⟨p, 6, none⟩ (.int .i64 tz)).drew = w2 := ⟨_, rfl⟩
      rw [hw2] at HW2 HQ2
      rw [hw2]
      clear hw2 n1 p6 pf6 hpl htz HW HQ
      simp only at HW2
      have HB2 := Lib.hid (HW2.out.low HK.out HB.out hBl)
      have HFT2 := Lib.hid (HFT.out.time tz)
      have HZ := Lib.hid (Zs.of_row HW2.out.st.v)
      obtain ⟨r, hr⟩ : ∃ r, valueP sv (.mk o tn tk) = r := ⟨_, rfl⟩
      have HRV := Lib.hid hr
      have KP : Hid (∀ W, Below w2.heap.size w2 W → (W.cell? ⟨p, 3, none⟩ = some (.slice Ax lv cx) ∧ W.cell? ⟨q, 4, none⟩ = some (.int .i64 o) ∧ W.cell? ⟨q, 5, none⟩ = some (.int .i64 tn) ∧ W.cell? ⟨q, 6, none⟩ = some (.slice At lt ct))) := fun W h => ⟨(HW2.out.st.cs.next h).at 3 _ rfl, (HQ2.out.next h).at 4 _ rfl, (HQ2.out.next h).at 5 _ rfl, (HQ2.out.next h).at 6 _ rfl⟩
      clear hr
      go_region_held3 (fun W => W.cell? ⟨p, 3, none⟩ = some (.slice Ax lv cx) ∧ W.cell? ⟨q, 4, none⟩ = some (.int .i64 o) ∧ W.cell? ⟨q, 5, none⟩ = some (.int .i64 tn) ∧ W.cell? ⟨q, 6, none⟩ = some (.slice At lt ct)) (first | exact KP.out _ (Below.refl _ _).drew | exact KP.out _ HD1.out) (first
        | (go_at_call 41; refine (value_any vs HVB.out false sv HFT2.out.1 Ax lv cx (Tm.cnt (.mk o tn tk)) o tn tk lt At ct _ r HLT.out (Nat.le_refl _) (HT.out.below (HB2.out.drew)) (HZ.out.below (Below.refl _ _).drew) (Lib.hid HF.out.fm) (Lib.hid HF.out.rg) HRV).mono ?_; rintro e w3 ⟨rfl, hb1⟩; have HD1 := Lib.hid ((Below.refl w2.heap.size w2).drew.trans (hb1.mono (Nat.le_refl _))); clear hb1))
      have HW3 := Lib.hid (HW2.out.below HD1.out)
      have HQ3 := Lib.hid (HQ2.out.next HD1.out)
      have HB3 := Lib.hid (HB2.out.trans (HD1.out.mono HB2.out.size))
      clear HW2 HQ2 HB2 HD1 KP HZ
      have HR2 : Hid ((if r = 0 then (⟨sv, so, tz⟩ : Ms) else loopM x1 (fun l => valueP l (.mk o tn tk)) (fun s => runL vs hats th s) (N - (k + 1)) (runL vs hats th ⟨sv, so, tz⟩)) = s') := by
        show _ = _
        have := HR.out
        rw [show N - k = N - (k + 1) + 1 by omega, loopM] at this
        simp only [HRV.out, HTZ.out] at this
        exact this
      clear HR
      by_cases hr0 : r = 0
      · have hrb : (r == 0) = true := by rw [hr0]; rfl
        have hs : (⟨sv, so, tz⟩ : Ms) = s' := by rw [← HR2.out, if_pos hr0]
        subst hs
        clear HR2 hr0
        go_wp2_with fail
        go_returns
        exact ⟨rfl, O1, HW3.out⟩
      · have hrb : (r == 0) = false := beq_of hr0
        obtain ⟨s2, hs2⟩ : ∃ z, runL vs hats th ⟨sv, so, tz⟩ = z := ⟨_, rfl⟩
        have HS2 := Lib.hid hs2
        have HR3 : Hid (loopM x1 (fun l => valueP l (.mk o tn tk)) (fun s => runL vs hats th s) (N - (k + 1)) s2 = s') := by show _ = _; rw [← HR2.out, if_neg hr0, hs2]
        have HRM : Hid (n0 + k * outL th + outL th ≤ 1000) := Lib.hid (by
          have h1 := HROOM.out
          have h2 := Nat.mul_le_mul_right (outL th) (show k + 1 ≤ N by omega)
          rw [Nat.succ_mul] at h2
          omega)
        clear HR2 hs2 hr0
        have n7 := HQ3.out.at 7 _ rfl
        go_wp2_with fail
        go_at_call 21
        refine (IH.out th lh Ah ch w3 O1 ⟨sv, so, tz⟩ (n0 + k * outL th) s2 false HLH.out HM.out HTH.out HB3.out HW3.out.st HF.out.th HFT2.out HRM.out HS2).mono ?_
        rintro e w4 ⟨rfl, O2, hw4⟩
        have HW4 := Lib.hid (HW3.out.trans hw4)
        have HQ4 := Lib.hid (hw4.keep HQ3.out HNO.out)
        have HNO4 := Lib.hid (hw4.not HQ3.out.lt HNO.out)
        have HFT4 : Hid (Fit vs (n0 + (k + 1) * outL th) s2) := by
          show Fit _ _ _
          have := runL_fit HVB.out (hats := hats) th _ _ HFT2.out
          rw [HS2.out] at this
          rw [Nat.succ_mul, ← Nat.add_assoc]
          exact this
        clear hw4 HW3 HQ3 HNO HFT n7
        go_wp2_with fail
        go_roundw
        case rel => exact ⟨k + 1, s2, O2, by omega, by go_num, HR3, HW4, HQ4, HNO4, HFT4⟩
        case measure => simp [intOf]; omega
    · obtain rfl : k = N := by omega
      have hs : (⟨sv, so, st⟩ : Ms) = s' := by rw [← HR.out, Nat.sub_self, loopM]
      subst hs
      clear HR
      go_wp2_with fail
      go_returns
      exact ⟨rfl, O1, HW.out⟩
end Go.Proofs.YtjpjmoejdkmglaaGreat
