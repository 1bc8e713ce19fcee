/-
  The walk over rule, further cases.
-/
import Derived.Test.YtjpjmoejdkmglaaGreatFlD
namespace Go.Proofs.YtjpjmoejdkmglaaGreat
open Go.RowKit

set_option maxRecDepth 100000 in
set_option maxHeartbeats 2000000 in
theorem rule_mul (vs : List Vr) (Av : Option Addr) (lv cv : Nat) (n : Int) (A : Option Addr) (l c : Nat) (k : List (Int × Int)) (Ak : Option Addr) (lk ck : Nat) (R : Int × Int) (H : Hid (ruleP vs 10 n k = R)) (hl : lk = 2) (hB0 : inB (k.getD 0 (0, 0))) (hB0' : inB (k.getD 1 (0, 0))) (w : World) (hv : VOk w Av lv cv vs) (hr : Rs w Ak lk ck k) :
    Calls Tryz.prog 106 #[.slice Av lv cv, .agg #[.int .i64 10, .int .i64 n, .slice A l c], .slice Ak lk ck] w fun e w' => e = .returned (.agg #[.int .i64 R.1, .int .i64 R.2]) ∧ Below w.heap.size w w' := by
  have hlk : lk ≤ 9223372036854775807 := by have h1 := hr.cap; have h2 := hr.big; unfold maxLen at h2; omega
  have hlv : lv ≤ 9223372036854775807 := by have h1 := hv.cap; have h2 := hv.big; unfold maxLen at h2; omega
  have HB := Lib.hid (boxR_below w 10 n A l c)
  have HC := Lib.hid (boxR_cs w 10 n A l c).1
  have HR := Lib.hid (boxR_cs w 10 n A l c).2
  have HV := Lib.hid (hv.below HB.out)
  have HK := Lib.hid (hr.below HB.out)
  obtain ⟨W, hW⟩ : ∃ W, boxR w 10 n A l c = W := ⟨_, rfl⟩
  rw [hW] at HB HC HR HV HK
  unfold boxR boxT at hW
  have HW := Lib.hid hW
  clear hW hv hr
  obtain ⟨g, f, hA, hg, k00, k01, hk1⟩ := HK.out.two (by omega)
  subst hA
  obtain ⟨⟨a0, a1⟩, ha⟩ : ∃ x, k.getD 0 (0, 0) = x := ⟨_, rfl⟩
  obtain ⟨⟨b0, b1⟩, hb⟩ : ∃ x, k.getD 1 (0, 0) = x := ⟨_, rfl⟩
  rw [ha] at k00 k01 hB0
  simp only at k00 k01
  obtain ⟨hB1, hB2, hB3, hB4⟩ := hB0
  simp only at hB1 hB2 hB3 hB4
  have k10 := (hk1 (by omega)).1
  have k11 := (hk1 (by omega)).2
  rw [hb] at k10 k11 hB0'
  simp only at k10 k11
  obtain ⟨hB5, hB6, hB7, hB8⟩ := hB0'
  simp only at hB5 hB6 hB7 hB8
  have hRR : mulR a0 a1 b0 b1 = R := by rw [← H.out]; unfold ruleP; rw [if_neg (by decide), if_neg (by decide), if_neg (by decide), if_neg (by decide), if_neg (by decide), if_pos rfl, ha, hb]
  have HRR := Lib.hid hRR
  obtain ⟨R1, R2⟩ := R
  clear ha hb hk1 H hRR
  have r0 := HC.out.at 0 _ rfl
  have r1 := HC.out.at 1 _ rfl
  have r2 := HC.out.at 2 _ rfl
  have q0 := HR.out.at 0 _ rfl
  have q1 := HR.out.at 1 _ rfl
  have p0 := HR.out.free 0
  have p1 := HR.out.free 1
  have hrl := HR.out.lt
  go_enter Tryz.func106, Tryz.ntmps106
  go_upto_region 1 with fail
  rw [HW.out]
  go_upto_region 13 with fail
  go_region_with ((go_at_call 109; refine (corners_b a0 a1 b0 b1 (R1, R2) HRR (by omega) (by omega) (by omega) (by omega) (by omega) (by omega) (by omega) (by omega) _).mono ?_; rintro e w9 ⟨rfl, hb9⟩; have q0 := (HR.out.drew.next hb9).at 0 _ rfl; have q1 := (HR.out.drew.next hb9).at 1 _ rfl; have p0 := (HR.out.drew.next hb9).free 0; have p1 := (HR.out.drew.next hb9).free 1))
  go_wp2_with fail
  all_goals (
    obtain ⟨z0, z1⟩ := two_cells (HR.out.drew.next hb9) (.int .i64 R1) (.int .i64 R2)
    refine bodyPost_ret (v := .agg #[.int .i64 R1, .int .i64 R2]) (by simp [results, Tryz.results106, go_sem, z0, z1]) rfl ?_
    exact ⟨rfl, fin_two (b := w.heap.size + 1) (by omega) (HB.out.drew.trans (hb9.mono HB.out.drew.size)) _ _⟩)

set_option maxRecDepth 100000 in
set_option maxHeartbeats 2000000 in
theorem rule_div (vs : List Vr) (Av : Option Addr) (lv cv : Nat) (n : Int) (A : Option Addr) (l c : Nat) (k : List (Int × Int)) (Ak : Option Addr) (lk ck : Nat) (R : Int × Int) (H : Hid (ruleP vs 11 n k = R)) (hl : lk = 2) (hB0 : inB (k.getD 0 (0, 0))) (hB0' : inB (k.getD 1 (0, 0))) (w : World) (hv : VOk w Av lv cv vs) (hr : Rs w Ak lk ck k) :
    Calls Tryz.prog 106 #[.slice Av lv cv, .agg #[.int .i64 11, .int .i64 n, .slice A l c], .slice Ak lk ck] w fun e w' => e = .returned (.agg #[.int .i64 R.1, .int .i64 R.2]) ∧ Below w.heap.size w w' := by
  have hlk : lk ≤ 9223372036854775807 := by have h1 := hr.cap; have h2 := hr.big; unfold maxLen at h2; omega
  have hlv : lv ≤ 9223372036854775807 := by have h1 := hv.cap; have h2 := hv.big; unfold maxLen at h2; omega
  have HB := Lib.hid (boxR_below w 11 n A l c)
  have HC := Lib.hid (boxR_cs w 11 n A l c).1
  have HR := Lib.hid (boxR_cs w 11 n A l c).2
  have HV := Lib.hid (hv.below HB.out)
  have HK := Lib.hid (hr.below HB.out)
  obtain ⟨W, hW⟩ : ∃ W, boxR w 11 n A l c = W := ⟨_, rfl⟩
  rw [hW] at HB HC HR HV HK
  unfold boxR boxT at hW
  have HW := Lib.hid hW
  clear hW hv hr
  obtain ⟨g, f, hA, hg, k00, k01, hk1⟩ := HK.out.two (by omega)
  subst hA
  obtain ⟨⟨a0, a1⟩, ha⟩ : ∃ x, k.getD 0 (0, 0) = x := ⟨_, rfl⟩
  obtain ⟨⟨b0, b1⟩, hb⟩ : ∃ x, k.getD 1 (0, 0) = x := ⟨_, rfl⟩
  rw [ha] at k00 k01 hB0
  simp only at k00 k01
  obtain ⟨hB1, hB2, hB3, hB4⟩ := hB0
  simp only at hB1 hB2 hB3 hB4
  have k10 := (hk1 (by omega)).1
  have k11 := (hk1 (by omega)).2
  rw [hb] at k10 k11 hB0'
  simp only at k10 k11
  obtain ⟨hB5, hB6, hB7, hB8⟩ := hB0'
  simp only at hB5 hB6 hB7 hB8
  have hRR : R = (if 0 ≤ a0 ∧ 0 ≤ b0 then ((0 : Int), max a1 (-a0)) else (-max a1 (-a0), max a1 (-a0))) := by rw [← H.out]; unfold ruleP; rw [if_neg (by decide), if_neg (by decide), if_neg (by decide), if_neg (by decide), if_neg (by decide), if_neg (by decide), if_pos rfl, ha, hb]
  obtain ⟨m, hm⟩ : ∃ m, max a1 (-a0) = m := ⟨_, rfl⟩
  rw [hm] at hRR
  have hmm : m = if a1 < -a0 then -a0 else a1 := by rw [← hm]; split <;> omega
  obtain ⟨R1, R2⟩ := R
  have HRR := Lib.hid hRR
  clear ha hb hk1 H hRR hm
  have r0 := HC.out.at 0 _ rfl
  have r1 := HC.out.at 1 _ rfl
  have r2 := HC.out.at 2 _ rfl
  have q0 := HR.out.at 0 _ rfl
  have q1 := HR.out.at 1 _ rfl
  have p0 := HR.out.free 0
  have p1 := HR.out.free 1
  have hrl := HR.out.lt
  by_cases h0 : a1 < -a0
  · simp only [h0, if_true] at hmm
    subst hmm
    by_cases h1 : a0 < 0
    · have hR := HRR.out
      rw [if_neg (by omega)] at hR
      obtain ⟨rfl, rfl⟩ := Prod.mk.inj hR
      have hd : decide (0 ≤ a0) = false := decide_eq_false (by omega)
      go_enter Tryz.func106, Tryz.ntmps106
      go_upto_region 1 with fail
      rw [HW.out]
      go_upto_region 15 with fail
      go_region
      go_wp2_with fail
      obtain ⟨z0, z1⟩ := two_cells HR.out (.int .i64 (a0)) (.int .i64 (-a0))
      refine bodyPost_ret (v := .agg #[.int .i64 (a0), .int .i64 (-a0)]) (by simp [results, Tryz.results106, go_sem, z0, z1]) rfl ?_
      exact ⟨by simp, (fin_two (b := w.heap.size + 1) (by omega) HB.out _ _).drew⟩
    have hd : decide (0 ≤ a0) = true := decide_eq_true (by omega)
    have hd' : 0 ≤ a0 := by omega
    by_cases h2 : b0 < 0
    · have hR := HRR.out
      rw [if_neg (by omega)] at hR
      obtain ⟨rfl, rfl⟩ := Prod.mk.inj hR
      have hd2 : decide (0 ≤ b0) = false := decide_eq_false (by omega)
      go_enter Tryz.func106, Tryz.ntmps106
      go_upto_region 1 with fail
      rw [HW.out]
      go_upto_region 15 with fail
      go_region
      go_wp2_with fail
      obtain ⟨z0, z1⟩ := two_cells HR.out (.int .i64 (a0)) (.int .i64 (-a0))
      refine bodyPost_ret (v := .agg #[.int .i64 (a0), .int .i64 (-a0)]) (by simp [results, Tryz.results106, go_sem, z0, z1]) rfl ?_
      exact ⟨by simp, (fin_two (b := w.heap.size + 1) (by omega) HB.out _ _).drew⟩
    · have hR := HRR.out
      rw [if_pos (by omega)] at hR
      obtain ⟨rfl, rfl⟩ := Prod.mk.inj hR
      have hd2 : decide (0 ≤ b0) = true := decide_eq_true (by omega)
      have hd2' : 0 ≤ b0 := by omega
      go_enter Tryz.func106, Tryz.ntmps106
      go_upto_region 1 with fail
      rw [HW.out]
      go_upto_region 15 with fail
      go_region
      go_wp2_with fail
      obtain ⟨z0, z1⟩ := two_cells HR.out (.int .i64 (0)) (.int .i64 (-a0))
      refine bodyPost_ret (v := .agg #[.int .i64 (0), .int .i64 (-a0)]) (by simp [results, Tryz.results106, go_sem, z0, z1]) rfl ?_
      exact ⟨rfl, (fin_two (b := w.heap.size + 1) (by omega) HB.out _ _).drew⟩
  · simp only [h0, if_false] at hmm
    subst hmm
    by_cases h1 : a0 < 0
    · have hR := HRR.out
      rw [if_neg (by omega)] at hR
      obtain ⟨rfl, rfl⟩ := Prod.mk.inj hR
      have hd : decide (0 ≤ a0) = false := decide_eq_false (by omega)
      go_enter Tryz.func106, Tryz.ntmps106
      go_upto_region 1 with fail
      rw [HW.out]
      go_upto_region 15 with fail
      go_region
      go_wp2_with fail
      obtain ⟨z0, z1⟩ := two_cells HR.out (.int .i64 (-R2)) (.int .i64 (R2))
      refine bodyPost_ret (v := .agg #[.int .i64 (-R2), .int .i64 (R2)]) (by simp [results, Tryz.results106, go_sem, z0, z1]) rfl ?_
      exact ⟨rfl, (fin_two (b := w.heap.size + 1) (by omega) HB.out _ _).drew⟩
    have hd : decide (0 ≤ a0) = true := decide_eq_true (by omega)
    have hd' : 0 ≤ a0 := by omega
    by_cases h2 : b0 < 0
    · have hR := HRR.out
      rw [if_neg (by omega)] at hR
      obtain ⟨rfl, rfl⟩ := Prod.mk.inj hR
      have hd2 : decide (0 ≤ b0) = false := decide_eq_false (by omega)
      go_enter Tryz.func106, Tryz.ntmps106
      go_upto_region 1 with fail
      rw [HW.out]
      go_upto_region 15 with fail
      go_region
      go_wp2_with fail
      obtain ⟨z0, z1⟩ := two_cells HR.out (.int .i64 (-R2)) (.int .i64 (R2))
      refine bodyPost_ret (v := .agg #[.int .i64 (-R2), .int .i64 (R2)]) (by simp [results, Tryz.results106, go_sem, z0, z1]) rfl ?_
      exact ⟨rfl, (fin_two (b := w.heap.size + 1) (by omega) HB.out _ _).drew⟩
    · have hR := HRR.out
      rw [if_pos (by omega)] at hR
      obtain ⟨rfl, rfl⟩ := Prod.mk.inj hR
      have hd2 : decide (0 ≤ b0) = true := decide_eq_true (by omega)
      have hd2' : 0 ≤ b0 := by omega
      go_enter Tryz.func106, Tryz.ntmps106
      go_upto_region 1 with fail
      rw [HW.out]
      go_upto_region 15 with fail
      go_region
      go_wp2_with fail
      obtain ⟨z0, z1⟩ := two_cells HR.out (.int .i64 (0)) (.int .i64 (R2))
      refine bodyPost_ret (v := .agg #[.int .i64 (0), .int .i64 (R2)]) (by simp [results, Tryz.results106, go_sem, z0, z1]) rfl ?_
      exact ⟨rfl, (fin_two (b := w.heap.size + 1) (by omega) HB.out _ _).drew⟩

set_option maxRecDepth 100000 in
set_option maxHeartbeats 2000000 in
theorem rule_mod (vs : List Vr) (Av : Option Addr) (lv cv : Nat) (n : Int) (A : Option Addr) (l c : Nat) (k : List (Int × Int)) (Ak : Option Addr) (lk ck : Nat) (R : Int × Int) (H : Hid (ruleP vs 12 n k = R)) (hl : lk = 2) (hB0 : inB (k.getD 0 (0, 0))) (hB0' : inB (k.getD 1 (0, 0))) (w : World) (hv : VOk w Av lv cv vs) (hr : Rs w Ak lk ck k) :
    Calls Tryz.prog 106 #[.slice Av lv cv, .agg #[.int .i64 12, .int .i64 n, .slice A l c], .slice Ak lk ck] w fun e w' => e = .returned (.agg #[.int .i64 R.1, .int .i64 R.2]) ∧ Below w.heap.size w w' := by
  have hlk : lk ≤ 9223372036854775807 := by have h1 := hr.cap; have h2 := hr.big; unfold maxLen at h2; omega
  have hlv : lv ≤ 9223372036854775807 := by have h1 := hv.cap; have h2 := hv.big; unfold maxLen at h2; omega
  have HB := Lib.hid (boxR_below w 12 n A l c)
  have HC := Lib.hid (boxR_cs w 12 n A l c).1
  have HR := Lib.hid (boxR_cs w 12 n A l c).2
  have HV := Lib.hid (hv.below HB.out)
  have HK := Lib.hid (hr.below HB.out)
  obtain ⟨W, hW⟩ : ∃ W, boxR w 12 n A l c = W := ⟨_, rfl⟩
  rw [hW] at HB HC HR HV HK
  unfold boxR boxT at hW
  have HW := Lib.hid hW
  clear hW hv hr
  obtain ⟨g, f, hA, hg, k00, k01, hk1⟩ := HK.out.two (by omega)
  subst hA
  obtain ⟨⟨a0, a1⟩, ha⟩ : ∃ x, k.getD 0 (0, 0) = x := ⟨_, rfl⟩
  obtain ⟨⟨b0, b1⟩, hb⟩ : ∃ x, k.getD 1 (0, 0) = x := ⟨_, rfl⟩
  rw [ha] at k00 k01 hB0
  simp only at k00 k01
  obtain ⟨hB1, hB2, hB3, hB4⟩ := hB0
  simp only at hB1 hB2 hB3 hB4
  have k10 := (hk1 (by omega)).1
  have k11 := (hk1 (by omega)).2
  rw [hb] at k10 k11 hB0'
  simp only at k10 k11
  obtain ⟨hB5, hB6, hB7, hB8⟩ := hB0'
  simp only at hB5 hB6 hB7 hB8
  have hRR : R = (if b0 < 0 then min (b0 + 1) 0 else 0, if 0 < b1 then max (b1 - 1) 0 else 0) := by rw [← H.out]; unfold ruleP; rw [if_neg (by decide), if_neg (by decide), if_neg (by decide), if_neg (by decide), if_neg (by decide), if_neg (by decide), if_neg (by decide), if_pos rfl, hb]
  obtain ⟨R1, R2⟩ := R
  obtain ⟨e1, e2⟩ := Prod.mk.inj hRR
  have e1' : R1 = if b0 < 0 then b0 + 1 else 0 := by rw [e1]; split <;> omega
  have e2' : R2 = if 0 < b1 then b1 - 1 else 0 := by rw [e2]; split <;> omega
  clear ha hb hk1 H hRR e1 e2
  have r0 := HC.out.at 0 _ rfl
  have r1 := HC.out.at 1 _ rfl
  have r2 := HC.out.at 2 _ rfl
  have q0 := HR.out.at 0 _ rfl
  have q1 := HR.out.at 1 _ rfl
  have p0 := HR.out.free 0
  have p1 := HR.out.free 1
  have hrl := HR.out.lt
  by_cases h0 : b0 < 0
  · by_cases h1 : 0 < b1
    · rw [if_pos h0] at e1'
      rw [if_pos h1] at e2'
      subst e1' e2'
      have m0 : ¬ (0 < b0 + 1) := by omega
      have m1 : ¬ (b1 - 1 < 0) := by omega
      have HRF := Lib.hid (((HR.out.set 0 (.int .i64 (b0 + 1)) (by simp)).set 1 (.int .i64 (b1 - 1)) (by simp)).alloc (.cells #[.int .i64 (b0 + 1), .int .i64 (b1 - 1)] 132))
      have HBF := fin_two (b := w.heap.size + 1) (by omega) HB.out (.int .i64 (b0 + 1)) (.int .i64 (b1 - 1))
      have HBG := Lib.hid (HBF.alloc HBF.size (.cells #[.int .i64 (b0 + 1), .int .i64 (b1 - 1)] 132))
      clear HBF
      go_enter Tryz.func106, Tryz.ntmps106
      go_upto_region 1 with fail
      rw [HW.out]
      go_wp2_with fail
      have z0 := HRF.out.at 0 _ rfl
      have z1 := HRF.out.at 1 _ rfl
      refine bodyPost_ret (v := .agg #[.int .i64 (b0 + 1), .int .i64 (b1 - 1)]) (by simp [results, Tryz.results106, go_sem, z0, z1]) rfl ?_
      exact ⟨rfl, HBG.out⟩
    · rw [if_pos h0] at e1'
      rw [if_neg h1] at e2'
      subst e1' e2'
      have m0 : ¬ (0 < b0 + 1) := by omega
      have HRF := Lib.hid (((HR.out.set 0 (.int .i64 (b0 + 1)) (by simp)).set 1 (.int .i64 (0)) (by simp)).alloc (.cells #[.int .i64 (b0 + 1), .int .i64 (0)] 132))
      have HBF := fin_two (b := w.heap.size + 1) (by omega) HB.out (.int .i64 (b0 + 1)) (.int .i64 (0))
      have HBG := Lib.hid (HBF.alloc HBF.size (.cells #[.int .i64 (b0 + 1), .int .i64 (0)] 132))
      clear HBF
      go_enter Tryz.func106, Tryz.ntmps106
      go_upto_region 1 with fail
      rw [HW.out]
      go_wp2_with fail
      have z0 := HRF.out.at 0 _ rfl
      have z1 := HRF.out.at 1 _ rfl
      refine bodyPost_ret (v := .agg #[.int .i64 (b0 + 1), .int .i64 (0)]) (by simp [results, Tryz.results106, go_sem, z0, z1]) rfl ?_
      exact ⟨rfl, HBG.out⟩
  · by_cases h1 : 0 < b1
    · rw [if_neg h0] at e1'
      rw [if_pos h1] at e2'
      subst e1' e2'
      have m1 : ¬ (b1 - 1 < 0) := by omega
      have HRF := Lib.hid (((HR.out.set 0 (.int .i64 (0)) (by simp)).set 1 (.int .i64 (b1 - 1)) (by simp)).alloc (.cells #[.int .i64 (0), .int .i64 (b1 - 1)] 132))
      have HBF := fin_two (b := w.heap.size + 1) (by omega) HB.out (.int .i64 (0)) (.int .i64 (b1 - 1))
      have HBG := Lib.hid (HBF.alloc HBF.size (.cells #[.int .i64 (0), .int .i64 (b1 - 1)] 132))
      clear HBF
      go_enter Tryz.func106, Tryz.ntmps106
      go_upto_region 1 with fail
      rw [HW.out]
      go_wp2_with fail
      have z0 := HRF.out.at 0 _ rfl
      have z1 := HRF.out.at 1 _ rfl
      refine bodyPost_ret (v := .agg #[.int .i64 (0), .int .i64 (b1 - 1)]) (by simp [results, Tryz.results106, go_sem, z0, z1]) rfl ?_
      exact ⟨rfl, HBG.out⟩
    · rw [if_neg h0] at e1'
      rw [if_neg h1] at e2'
      subst e1' e2'
      have HRF := Lib.hid (((HR.out.set 0 (.int .i64 (0)) (by simp)).set 1 (.int .i64 (0)) (by simp)).alloc (.cells #[.int .i64 (0), .int .i64 (0)] 132))
      have HBF := fin_two (b := w.heap.size + 1) (by omega) HB.out (.int .i64 (0)) (.int .i64 (0))
      have HBG := Lib.hid (HBF.alloc HBF.size (.cells #[.int .i64 (0), .int .i64 (0)] 132))
      clear HBF
      go_enter Tryz.func106, Tryz.ntmps106
      go_upto_region 1 with fail
      rw [HW.out]
      go_wp2_with fail
      have z0 := HRF.out.at 0 _ rfl
      have z1 := HRF.out.at 1 _ rfl
      refine bodyPost_ret (v := .agg #[.int .i64 (0), .int .i64 (0)]) (by simp [results, Tryz.results106, go_sem, z0, z1]) rfl ?_
      exact ⟨rfl, HBG.out⟩

set_option maxRecDepth 100000 in
set_option maxHeartbeats 2000000 in
theorem rule_else (o : Int) (h0 : o ≠ 0) (h24 : o ≠ 24) (h6 : o ≠ 6) (h8 : o ≠ 8) (h9 : o ≠ 9) (h10 : o ≠ 10) (h11 : o ≠ 11) (h12 : o ≠ 12) (h21 : o ≠ 21) (h22 : o ≠ 22) (h23 : o ≠ 23) (h25 : o ≠ 25) (vs : List Vr) (Av : Option Addr) (lv cv : Nat) (n : Int) (A : Option Addr) (l c : Nat) (k : List (Int × Int)) (Ak : Option Addr) (lk ck : Nat) (R : Int × Int) (H : Hid (ruleP vs o n k = R))  (w : World) (hv : VOk w Av lv cv vs) (hr : Rs w Ak lk ck k) :
    Calls Tryz.prog 106 #[.slice Av lv cv, .agg #[.int .i64 o, .int .i64 n, .slice A l c], .slice Ak lk ck] w fun e w' => e = .returned (.agg #[.int .i64 R.1, .int .i64 R.2]) ∧ Below w.heap.size w w' := by
  have hlk : lk ≤ 9223372036854775807 := by have h1 := hr.cap; have h2 := hr.big; unfold maxLen at h2; omega
  have hlv : lv ≤ 9223372036854775807 := by have h1 := hv.cap; have h2 := hv.big; unfold maxLen at h2; omega
  have HB := Lib.hid (boxR_below w o n A l c)
  have HC := Lib.hid (boxR_cs w o n A l c).1
  have HR := Lib.hid (boxR_cs w o n A l c).2
  have HV := Lib.hid (hv.below HB.out)
  have HK := Lib.hid (hr.below HB.out)
  obtain ⟨W, hW⟩ : ∃ W, boxR w o n A l c = W := ⟨_, rfl⟩
  rw [hW] at HB HC HR HV HK
  unfold boxR boxT at hW
  have HW := Lib.hid hW
  clear hW hv hr
  obtain rfl : R = (0, 1) := by
    rw [← H.out]; unfold ruleP
    rw [if_neg h0, if_neg h24, if_neg h6, if_neg h8, if_neg h9, if_neg h10, if_neg h11, if_neg h12, if_neg h21, if_neg h22, if_neg (by rintro (e | e); exact h23 e; exact h25 e)]
  have hq0 := beq_of h0
  have hq24 := beq_of h24
  have hq6 := beq_of h6
  have hq8 := beq_of h8
  have hq9 := beq_of h9
  have hq10 := beq_of h10
  have hq11 := beq_of h11
  have hq12 := beq_of h12
  have hq21 := beq_of h21
  have hq22 := beq_of h22
  have hq23 := beq_of h23
  have hq25 := beq_of h25
  clear H h0 h24 h6 h8 h9 h10 h11 h12 h21 h22 h23 h25
  have r0 := HC.out.at 0 _ rfl
  have r1 := HC.out.at 1 _ rfl
  have r2 := HC.out.at 2 _ rfl
  have q0 := HR.out.at 0 _ rfl
  have q1 := HR.out.at 1 _ rfl
  have p0 := HR.out.free 0
  have p1 := HR.out.free 1
  have hrl := HR.out.lt
  go_enter Tryz.func106, Tryz.ntmps106
  go_upto_region 1 with fail
  rw [HW.out]
  go_wp2_with fail
  obtain ⟨z0, z1⟩ := two_cells HR.out (.int .i64 (0)) (.int .i64 (1))
  refine bodyPost_ret (v := .agg #[.int .i64 (0), .int .i64 (1)]) (by simp [results, Tryz.results106, go_sem, z0, z1]) rfl ?_
  exact ⟨rfl, (fin_two (b := w.heap.size + 1) (by omega) HB.out _ _)⟩
end Go.Proofs.YtjpjmoejdkmglaaGreat
