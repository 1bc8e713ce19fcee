/-
  The walk over shaped, parts.
-/
import Derived.Test.YtjpjmoejdkmglaaGreatFlU
namespace Go.Proofs.YtjpjmoejdkmglaaGreat
open Go.RowKit

set_option maxRecDepth 100000 in
set_option maxHeartbeats 8000000 in
theorem shaped_5 (vs : List Vr) (Av : Option Addr) (lv cv : Nat) (Ag : Option Addr) (lg cg : Nat) (Ay : Option Addr) (ly cy : Nat) (x1 v n o tn : Int) (At : Option Addr) (lt ct : Nat) (Ah : Option Addr) (lh ch : Nat) (Ae : Option Addr) (le ce : Nat) (Ab : Option Addr) (lb cb : Nat) (bs : List Int) (last : Bool) (b : Bool) (H : Hid (shapedB vs lg last 5 v n (zeroB o tn lt) lh le bs = b)) (w : World) (hv : VOk w Av lv cv vs) (hz : Zs w Ab lb cb bs) (hlg : lg ≤ maxLen) (hlh : lh ≤ maxLen) (hle : le ≤ maxLen) :
    Calls Tryz.prog 66 #[.agg #[.slice Av lv cv, .slice Ag lg cg, .slice Ay ly cy], .agg #[.int .i64 5, .int .i64 x1, .int .i64 v, .int .i64 n, .int .i64 o, .int .i64 tn, .slice At lt ct, .slice Ah lh ch, .slice Ae le ce, .slice Ab lb cb], .bool last] w fun e w' => e = .returned (.bool b) ∧ Below w.heap.size w w' := by
  have HV := Lib.hid hv
  have HZS := Lib.hid hz
  have HVL := Lib.hid hv.len
  have HLB := Lib.hid hz.len
  have hlvm : lv ≤ 9223372036854775807 := by have h1 := hv.cap; have h2 := hv.big; unfold maxLen at h2; omega
  have hlbm : lb ≤ 9223372036854775807 := by have h1 := hz.cap; have h2 := hz.big; unfold maxLen at h2; omega
  have hlgm : lg ≤ 9223372036854775807 := by unfold maxLen at hlg; omega
  have hlhm : lh ≤ 9223372036854775807 := by unfold maxLen at hlh; omega
  have hlem : le ≤ 9223372036854775807 := by unfold maxLen at hle; omega
  have hb1 := (Below.refl w.heap.size w).alloc (Nat.le_refl _) (.cells #[.slice Av lv cv, .slice Ag lg cg, .slice Ay ly cy] 26)
  have hb2 := hb1.alloc hb1.size (.cells #[.int .i64 5, .int .i64 x1, .int .i64 v, .int .i64 n, .int .i64 o, .int .i64 tn, .slice At lt ct, .slice Ah lh ch, .slice Ae le ce, .slice Ab lb cb] 56)
  have HB := Lib.hid hb2
  have HF := Lib.hid ((Cs.new w #[.slice Av lv cv, .slice Ag lg cg, .slice Ay ly cy] 26).alloc (.cells #[.int .i64 5, .int .i64 x1, .int .i64 v, .int .i64 n, .int .i64 o, .int .i64 tn, .slice At lt ct, .slice Ah lh ch, .slice Ae le ce, .slice Ab lb cb] 56))
  have HS := Lib.hid (Cs.new1 w (.cells #[.slice Av lv cv, .slice Ag lg cg, .slice Ay ly cy] 26) #[.int .i64 5, .int .i64 x1, .int .i64 v, .int .i64 n, .int .i64 o, .int .i64 tn, .slice At lt ct, .slice Ah lh ch, .slice Ae le ce, .slice Ab lb cb] 56)
  clear hv hz hlg hlh hle hb1 hb2
  go_enter Tryz.func66, Tryz.ntmps66
  go_upto_region 1 with fail
  obtain ⟨w1, hw1⟩ : ∃ w1, (w.alloc (.cells #[.slice Av lv cv, .slice Ag lg cg, .slice Ay ly cy] 26)).alloc (.cells #[.int .i64 5, .int .i64 x1, .int .i64 v, .int .i64 n, .int .i64 o, .int .i64 tn, .slice At lt ct, .slice Ah lh ch, .slice Ae le ce, .slice Ab lb cb] 56) = w1 := ⟨_, rfl⟩
  obtain ⟨p, hp⟩ : ∃ p, w.heap.size = p := ⟨_, rfl⟩
  rw [hw1] at HF HS HB
  have HB0 := HB
  rw [hp] at HF HS HB0
  rw [hw1, hp]
  clear hw1 hp
  have f0 := HF.out.at 0 _ rfl
  have f1 := HF.out.at 1 _ rfl
  have s0 := HS.out.at 0 _ rfl
  have s2 := HS.out.at 2 _ rfl
  have s3 := HS.out.at 3 _ rfl
  have s4 := HS.out.at 4 _ rfl
  have s5 := HS.out.at 5 _ rfl
  have s6 := HS.out.at 6 _ rfl
  have s7 := HS.out.at 7 _ rfl
  have s8 := HS.out.at 8 _ rfl
  have s9 := HS.out.at 9 _ rfl
  clear HB0
  obtain ⟨z, hz⟩ : ∃ z, zeroB o tn lt = z := ⟨_, rfl⟩
  have HZ := Lib.hid hz
  clear hz
  cases z
  case false =>
    have hb : b = false := by rw [← H.out]; simp [HLB.out, shapedB, HZ.out]
    subst hb
    clear H
    go_wp2_with (first
      | (go_at_call 91; refine (usesVar_b 5 true rfl _).mono ?_; rintro e w3 ⟨rfl, rfl⟩)
      | (go_at_call 92; refine (usesN_b 5 true rfl _).mono ?_; rintro e w3 ⟨rfl, rfl⟩)
      | (go_at_call 93; refine (usesTerm_b 5 false rfl _).mono ?_; rintro e w3 ⟨rfl, rfl⟩))
    go_at_call 94
    refine (zeroTerm_b o tn At lt ct false HZ _).mono ?_
    rintro e w4 ⟨rfl, hb4⟩
    have HF4 := Lib.hid (HF.out.next hb4)
    have HS4 := Lib.hid (HS.out.next hb4)
    have HB4 := Lib.hid (HB.out.trans (hb4.mono HB.out.size))
    clear f0 f1 s0 s2 s3 s4 s5 s6 s7 s8 s9
    have f0 := HF4.out.at 0 _ rfl
    have f1 := HF4.out.at 1 _ rfl
    have s0 := HS4.out.at 0 _ rfl
    have s2 := HS4.out.at 2 _ rfl
    have s3 := HS4.out.at 3 _ rfl
    have s4 := HS4.out.at 4 _ rfl
    have s5 := HS4.out.at 5 _ rfl
    have s6 := HS4.out.at 6 _ rfl
    have s7 := HS4.out.at 7 _ rfl
    have s8 := HS4.out.at 8 _ rfl
    have s9 := HS4.out.at 9 _ rfl
    go_wp2_with (first
      | (go_at_call 91; refine (usesVar_b 5 true rfl _).mono ?_; rintro e w3 ⟨rfl, rfl⟩)
      | (go_at_call 92; refine (usesN_b 5 true rfl _).mono ?_; rintro e w3 ⟨rfl, rfl⟩)
      | (go_at_call 93; refine (usesTerm_b 5 false rfl _).mono ?_; rintro e w3 ⟨rfl, rfl⟩))
    go_ret
    exact ⟨rfl, HB4.out⟩
  by_cases hlh : lh = 0
  case neg =>
    have hplh : 0 < lh := by omega
    have hdlh : decide (0 < lh) = true := decide_eq_true hplh
    have hb : b = false := by rw [← H.out]; simp [HLB.out, shapedB, HZ.out, hlh]
    subst hb
    clear H
    go_wp2_with (first
      | (go_at_call 91; refine (usesVar_b 5 true rfl _).mono ?_; rintro e w3 ⟨rfl, rfl⟩)
      | (go_at_call 92; refine (usesN_b 5 true rfl _).mono ?_; rintro e w3 ⟨rfl, rfl⟩)
      | (go_at_call 93; refine (usesTerm_b 5 false rfl _).mono ?_; rintro e w3 ⟨rfl, rfl⟩))
    go_at_call 94
    refine (zeroTerm_b o tn At lt ct true HZ _).mono ?_
    rintro e w4 ⟨rfl, hb4⟩
    have HF4 := Lib.hid (HF.out.next hb4)
    have HS4 := Lib.hid (HS.out.next hb4)
    have HB4 := Lib.hid (HB.out.trans (hb4.mono HB.out.size))
    clear f0 f1 s0 s2 s3 s4 s5 s6 s7 s8 s9
    have f0 := HF4.out.at 0 _ rfl
    have f1 := HF4.out.at 1 _ rfl
    have s0 := HS4.out.at 0 _ rfl
    have s2 := HS4.out.at 2 _ rfl
    have s3 := HS4.out.at 3 _ rfl
    have s4 := HS4.out.at 4 _ rfl
    have s5 := HS4.out.at 5 _ rfl
    have s6 := HS4.out.at 6 _ rfl
    have s7 := HS4.out.at 7 _ rfl
    have s8 := HS4.out.at 8 _ rfl
    have s9 := HS4.out.at 9 _ rfl
    go_wp2_with (first
      | (go_at_call 91; refine (usesVar_b 5 true rfl _).mono ?_; rintro e w3 ⟨rfl, rfl⟩)
      | (go_at_call 92; refine (usesN_b 5 true rfl _).mono ?_; rintro e w3 ⟨rfl, rfl⟩)
      | (go_at_call 93; refine (usesTerm_b 5 false rfl _).mono ?_; rintro e w3 ⟨rfl, rfl⟩))
    go_ret
    exact ⟨rfl, HB4.out⟩
  subst hlh
  by_cases hle : le = 0
  case neg =>
    have hple : 0 < le := by omega
    have hdle : decide (0 < le) = true := decide_eq_true hple
    have hb : b = false := by rw [← H.out]; simp [HLB.out, shapedB, HZ.out, hle]
    subst hb
    clear H
    go_wp2_with (first
      | (go_at_call 91; refine (usesVar_b 5 true rfl _).mono ?_; rintro e w3 ⟨rfl, rfl⟩)
      | (go_at_call 92; refine (usesN_b 5 true rfl _).mono ?_; rintro e w3 ⟨rfl, rfl⟩)
      | (go_at_call 93; refine (usesTerm_b 5 false rfl _).mono ?_; rintro e w3 ⟨rfl, rfl⟩))
    go_at_call 94
    refine (zeroTerm_b o tn At lt ct true HZ _).mono ?_
    rintro e w4 ⟨rfl, hb4⟩
    have HF4 := Lib.hid (HF.out.next hb4)
    have HS4 := Lib.hid (HS.out.next hb4)
    have HB4 := Lib.hid (HB.out.trans (hb4.mono HB.out.size))
    clear f0 f1 s0 s2 s3 s4 s5 s6 s7 s8 s9
    have f0 := HF4.out.at 0 _ rfl
    have f1 := HF4.out.at 1 _ rfl
    have s0 := HS4.out.at 0 _ rfl
    have s2 := HS4.out.at 2 _ rfl
    have s3 := HS4.out.at 3 _ rfl
    have s4 := HS4.out.at 4 _ rfl
    have s5 := HS4.out.at 5 _ rfl
    have s6 := HS4.out.at 6 _ rfl
    have s7 := HS4.out.at 7 _ rfl
    have s8 := HS4.out.at 8 _ rfl
    have s9 := HS4.out.at 9 _ rfl
    go_wp2_with (first
      | (go_at_call 91; refine (usesVar_b 5 true rfl _).mono ?_; rintro e w3 ⟨rfl, rfl⟩)
      | (go_at_call 92; refine (usesN_b 5 true rfl _).mono ?_; rintro e w3 ⟨rfl, rfl⟩)
      | (go_at_call 93; refine (usesTerm_b 5 false rfl _).mono ?_; rintro e w3 ⟨rfl, rfl⟩))
    go_ret
    exact ⟨rfl, HB4.out⟩
  subst hle
  by_cases hlb : lb = 0
  case neg =>
    have hplb : 0 < lb := by omega
    have hdlb : decide (0 < lb) = true := decide_eq_true hplb
    have hb : b = false := by rw [← H.out]; simp [HLB.out, shapedB, HZ.out, hlb]
    subst hb
    clear H
    go_wp2_with (first
      | (go_at_call 91; refine (usesVar_b 5 true rfl _).mono ?_; rintro e w3 ⟨rfl, rfl⟩)
      | (go_at_call 92; refine (usesN_b 5 true rfl _).mono ?_; rintro e w3 ⟨rfl, rfl⟩)
      | (go_at_call 93; refine (usesTerm_b 5 false rfl _).mono ?_; rintro e w3 ⟨rfl, rfl⟩))
    go_at_call 94
    refine (zeroTerm_b o tn At lt ct true HZ _).mono ?_
    rintro e w4 ⟨rfl, hb4⟩
    have HF4 := Lib.hid (HF.out.next hb4)
    have HS4 := Lib.hid (HS.out.next hb4)
    have HB4 := Lib.hid (HB.out.trans (hb4.mono HB.out.size))
    clear f0 f1 s0 s2 s3 s4 s5 s6 s7 s8 s9
    have f0 := HF4.out.at 0 _ rfl
    have f1 := HF4.out.at 1 _ rfl
    have s0 := HS4.out.at 0 _ rfl
    have s2 := HS4.out.at 2 _ rfl
    have s3 := HS4.out.at 3 _ rfl
    have s4 := HS4.out.at 4 _ rfl
    have s5 := HS4.out.at 5 _ rfl
    have s6 := HS4.out.at 6 _ rfl
    have s7 := HS4.out.at 7 _ rfl
    have s8 := HS4.out.at 8 _ rfl
    have s9 := HS4.out.at 9 _ rfl
    go_wp2_with (first
      | (go_at_call 91; refine (usesVar_b 5 true rfl _).mono ?_; rintro e w3 ⟨rfl, rfl⟩)
      | (go_at_call 92; refine (usesN_b 5 true rfl _).mono ?_; rintro e w3 ⟨rfl, rfl⟩)
      | (go_at_call 93; refine (usesTerm_b 5 false rfl _).mono ?_; rintro e w3 ⟨rfl, rfl⟩))
    go_ret
    exact ⟨rfl, HB4.out⟩
  subst hlb
  by_cases hv0 : v < 0
  case pos =>
    have hdv : decide (v < 0) = true := decide_eq_true hv0
    have hl : locB vs v = false := by unfold locB; rw [decide_eq_false (by omega)]; rfl
    have hb : b = false := by rw [← H.out]; simp [HLB.out, shapedB, HZ.out, hl]
    subst hb
    clear H hl
    go_wp2_with (first
      | (go_at_call 91; refine (usesVar_b 5 true rfl _).mono ?_; rintro e w3 ⟨rfl, rfl⟩)
      | (go_at_call 92; refine (usesN_b 5 true rfl _).mono ?_; rintro e w3 ⟨rfl, rfl⟩)
      | (go_at_call 93; refine (usesTerm_b 5 false rfl _).mono ?_; rintro e w3 ⟨rfl, rfl⟩))
    go_at_call 94
    refine (zeroTerm_b o tn At lt ct true HZ _).mono ?_
    rintro e w4 ⟨rfl, hb4⟩
    have HF4 := Lib.hid (HF.out.next hb4)
    have HS4 := Lib.hid (HS.out.next hb4)
    have HB4 := Lib.hid (HB.out.trans (hb4.mono HB.out.size))
    clear f0 f1 s0 s2 s3 s4 s5 s6 s7 s8 s9
    have f0 := HF4.out.at 0 _ rfl
    have f1 := HF4.out.at 1 _ rfl
    have s0 := HS4.out.at 0 _ rfl
    have s2 := HS4.out.at 2 _ rfl
    have s3 := HS4.out.at 3 _ rfl
    have s4 := HS4.out.at 4 _ rfl
    have s5 := HS4.out.at 5 _ rfl
    have s6 := HS4.out.at 6 _ rfl
    have s7 := HS4.out.at 7 _ rfl
    have s8 := HS4.out.at 8 _ rfl
    have s9 := HS4.out.at 9 _ rfl
    go_wp2_with (first
      | (go_at_call 91; refine (usesVar_b 5 true rfl _).mono ?_; rintro e w3 ⟨rfl, rfl⟩)
      | (go_at_call 92; refine (usesN_b 5 true rfl _).mono ?_; rintro e w3 ⟨rfl, rfl⟩)
      | (go_at_call 93; refine (usesTerm_b 5 false rfl _).mono ?_; rintro e w3 ⟨rfl, rfl⟩))
    go_ret
    exact ⟨rfl, HB4.out⟩
  have hdv : decide (v < 0) = false := decide_eq_false hv0
  obtain ⟨i, rfl⟩ : ∃ i : Nat, v = i := ⟨v.toNat, by omega⟩
  by_cases hvl : lv ≤ i
  case pos =>
    have hdl : decide (lv ≤ i) = true := decide_eq_true hvl
    have hdl2 : decide ((lv : Int) ≤ (i : Int)) = true := decide_eq_true (by omega)
    have hl : locB vs (i : Int) = false := by unfold locB; rw [HVL.out, decide_eq_false (show ¬ (i : Int) < (lv : Int) by omega)]; simp
    have hb : b = false := by rw [← H.out]; simp [HLB.out, shapedB, HZ.out, hl]
    subst hb
    clear H hl
    go_wp2_with (first
      | (go_at_call 91; refine (usesVar_b 5 true rfl _).mono ?_; rintro e w3 ⟨rfl, rfl⟩)
      | (go_at_call 92; refine (usesN_b 5 true rfl _).mono ?_; rintro e w3 ⟨rfl, rfl⟩)
      | (go_at_call 93; refine (usesTerm_b 5 false rfl _).mono ?_; rintro e w3 ⟨rfl, rfl⟩))
    go_at_call 94
    refine (zeroTerm_b o tn At lt ct true HZ _).mono ?_
    rintro e w4 ⟨rfl, hb4⟩
    have HF4 := Lib.hid (HF.out.next hb4)
    have HS4 := Lib.hid (HS.out.next hb4)
    have HB4 := Lib.hid (HB.out.trans (hb4.mono HB.out.size))
    clear f0 f1 s0 s2 s3 s4 s5 s6 s7 s8 s9
    have f0 := HF4.out.at 0 _ rfl
    have f1 := HF4.out.at 1 _ rfl
    have s0 := HS4.out.at 0 _ rfl
    have s2 := HS4.out.at 2 _ rfl
    have s3 := HS4.out.at 3 _ rfl
    have s4 := HS4.out.at 4 _ rfl
    have s5 := HS4.out.at 5 _ rfl
    have s6 := HS4.out.at 6 _ rfl
    have s7 := HS4.out.at 7 _ rfl
    have s8 := HS4.out.at 8 _ rfl
    have s9 := HS4.out.at 9 _ rfl
    go_wp2_with (first
      | (go_at_call 91; refine (usesVar_b 5 true rfl _).mono ?_; rintro e w3 ⟨rfl, rfl⟩)
      | (go_at_call 92; refine (usesN_b 5 true rfl _).mono ?_; rintro e w3 ⟨rfl, rfl⟩)
      | (go_at_call 93; refine (usesTerm_b 5 false rfl _).mono ?_; rintro e w3 ⟨rfl, rfl⟩))
    go_ret
    exact ⟨rfl, HB4.out⟩
  have hdl : decide (lv ≤ i) = false := decide_eq_false hvl
  have hdl2 : decide ((lv : Int) ≤ (i : Int)) = false := decide_eq_false (by omega)
  have hil : (i : Int) < (lv : Int) := by omega
  obtain ⟨nm, kd, lo, hi, ii, g, f, hvs, _, hA, hg, v0, v1, _⟩ := (HV.out.below HB.out).at i (by omega)
  subst hA
  have HVS := Lib.hid hvs
  clear hvs v0
  by_cases hkd : kd = 0
  case neg =>
    have hkb := bne_of hkd
    have hl : locB vs (i : Int) = false := by unfold locB; rw [Int.toNat_natCast, HVS.out]; simp [hkd]
    have hb : b = false := by rw [← H.out]; simp [HLB.out, shapedB, HZ.out, hl]
    subst hb
    clear H hl
    go_wp2_with (first
      | (go_at_call 91; refine (usesVar_b 5 true rfl _).mono ?_; rintro e w3 ⟨rfl, rfl⟩)
      | (go_at_call 92; refine (usesN_b 5 true rfl _).mono ?_; rintro e w3 ⟨rfl, rfl⟩)
      | (go_at_call 93; refine (usesTerm_b 5 false rfl _).mono ?_; rintro e w3 ⟨rfl, rfl⟩))
    go_at_call 94
    refine (zeroTerm_b o tn At lt ct true HZ _).mono ?_
    rintro e w4 ⟨rfl, hb4⟩
    have HF4 := Lib.hid (HF.out.next hb4)
    have HS4 := Lib.hid (HS.out.next hb4)
    have HB4 := Lib.hid (HB.out.trans (hb4.mono HB.out.size))
    clear f0 f1 s0 s2 s3 s4 s5 s6 s7 s8 s9
    have f0 := HF4.out.at 0 _ rfl
    have f1 := HF4.out.at 1 _ rfl
    have s0 := HS4.out.at 0 _ rfl
    have s2 := HS4.out.at 2 _ rfl
    have s3 := HS4.out.at 3 _ rfl
    have s4 := HS4.out.at 4 _ rfl
    have s5 := HS4.out.at 5 _ rfl
    have s6 := HS4.out.at 6 _ rfl
    have s7 := HS4.out.at 7 _ rfl
    have s8 := HS4.out.at 8 _ rfl
    have s9 := HS4.out.at 9 _ rfl
    have v1 := (hb4.cell (p := ⟨g, _, none⟩) hg).trans v1
    have hg4 : g < w4.heap.size := Nat.lt_of_lt_of_le hg hb4.size
    go_wp2_with (first
      | (go_at_call 91; refine (usesVar_b 5 true rfl _).mono ?_; rintro e w3 ⟨rfl, rfl⟩)
      | (go_at_call 92; refine (usesN_b 5 true rfl _).mono ?_; rintro e w3 ⟨rfl, rfl⟩)
      | (go_at_call 93; refine (usesTerm_b 5 false rfl _).mono ?_; rintro e w3 ⟨rfl, rfl⟩))
    go_ret
    exact ⟨rfl, HB4.out⟩
  have hl : locB vs (i : Int) = true := by unfold locB; rw [HVL.out, Int.toNat_natCast, HVS.out]; simp [hkd, hil]
  have HLOC := Lib.hid hl
  subst hkd
  clear hl
  by_cases hn0 : n < 0
  case pos =>
    have hdn : decide (n < 0) = true := decide_eq_true hn0
    have hdn2 : ¬ 0 ≤ n := by omega
    have hb : b = false := by rw [← H.out]; simp [HLB.out, shapedB, HZ.out, HLOC.out, hdn2]
    subst hb
    clear H
    go_wp2_with (first
      | (go_at_call 91; refine (usesVar_b 5 true rfl _).mono ?_; rintro e w3 ⟨rfl, rfl⟩)
      | (go_at_call 92; refine (usesN_b 5 true rfl _).mono ?_; rintro e w3 ⟨rfl, rfl⟩)
      | (go_at_call 93; refine (usesTerm_b 5 false rfl _).mono ?_; rintro e w3 ⟨rfl, rfl⟩))
    go_at_call 94
    refine (zeroTerm_b o tn At lt ct true HZ _).mono ?_
    rintro e w4 ⟨rfl, hb4⟩
    have HF4 := Lib.hid (HF.out.next hb4)
    have HS4 := Lib.hid (HS.out.next hb4)
    have HB4 := Lib.hid (HB.out.trans (hb4.mono HB.out.size))
    clear f0 f1 s0 s2 s3 s4 s5 s6 s7 s8 s9
    have f0 := HF4.out.at 0 _ rfl
    have f1 := HF4.out.at 1 _ rfl
    have s0 := HS4.out.at 0 _ rfl
    have s2 := HS4.out.at 2 _ rfl
    have s3 := HS4.out.at 3 _ rfl
    have s4 := HS4.out.at 4 _ rfl
    have s5 := HS4.out.at 5 _ rfl
    have s6 := HS4.out.at 6 _ rfl
    have s7 := HS4.out.at 7 _ rfl
    have s8 := HS4.out.at 8 _ rfl
    have s9 := HS4.out.at 9 _ rfl
    have v1 := (hb4.cell (p := ⟨g, _, none⟩) hg).trans v1
    have hg4 : g < w4.heap.size := Nat.lt_of_lt_of_le hg hb4.size
    go_wp2_with (first
      | (go_at_call 91; refine (usesVar_b 5 true rfl _).mono ?_; rintro e w3 ⟨rfl, rfl⟩)
      | (go_at_call 92; refine (usesN_b 5 true rfl _).mono ?_; rintro e w3 ⟨rfl, rfl⟩)
      | (go_at_call 93; refine (usesTerm_b 5 false rfl _).mono ?_; rintro e w3 ⟨rfl, rfl⟩))
    go_ret
    exact ⟨rfl, HB4.out⟩
  have hdn : decide (n < 0) = false := decide_eq_false hn0
  obtain ⟨j, rfl⟩ : ∃ j : Nat, n = j := ⟨n.toNat, by omega⟩
  by_cases hnh : lg ≤ j
  case pos =>
    have hdh : decide (lg ≤ j) = true := decide_eq_true hnh
    have hdh2 : decide ((lg : Int) ≤ (j : Int)) = true := decide_eq_true (by omega)
    have hdh3 : ¬ j < lg := by omega
    have hb : b = false := by rw [← H.out]; simp [HLB.out, shapedB, HZ.out, HLOC.out, hdh3]
    subst hb
    clear H
    go_wp2_with (first
      | (go_at_call 91; refine (usesVar_b 5 true rfl _).mono ?_; rintro e w3 ⟨rfl, rfl⟩)
      | (go_at_call 92; refine (usesN_b 5 true rfl _).mono ?_; rintro e w3 ⟨rfl, rfl⟩)
      | (go_at_call 93; refine (usesTerm_b 5 false rfl _).mono ?_; rintro e w3 ⟨rfl, rfl⟩))
    go_at_call 94
    refine (zeroTerm_b o tn At lt ct true HZ _).mono ?_
    rintro e w4 ⟨rfl, hb4⟩
    have HF4 := Lib.hid (HF.out.next hb4)
    have HS4 := Lib.hid (HS.out.next hb4)
    have HB4 := Lib.hid (HB.out.trans (hb4.mono HB.out.size))
    clear f0 f1 s0 s2 s3 s4 s5 s6 s7 s8 s9
    have f0 := HF4.out.at 0 _ rfl
    have f1 := HF4.out.at 1 _ rfl
    have s0 := HS4.out.at 0 _ rfl
    have s2 := HS4.out.at 2 _ rfl
    have s3 := HS4.out.at 3 _ rfl
    have s4 := HS4.out.at 4 _ rfl
    have s5 := HS4.out.at 5 _ rfl
    have s6 := HS4.out.at 6 _ rfl
    have s7 := HS4.out.at 7 _ rfl
    have s8 := HS4.out.at 8 _ rfl
    have s9 := HS4.out.at 9 _ rfl
    have v1 := (hb4.cell (p := ⟨g, _, none⟩) hg).trans v1
    have hg4 : g < w4.heap.size := Nat.lt_of_lt_of_le hg hb4.size
    go_wp2_with (first
      | (go_at_call 91; refine (usesVar_b 5 true rfl _).mono ?_; rintro e w3 ⟨rfl, rfl⟩)
      | (go_at_call 92; refine (usesN_b 5 true rfl _).mono ?_; rintro e w3 ⟨rfl, rfl⟩)
      | (go_at_call 93; refine (usesTerm_b 5 false rfl _).mono ?_; rintro e w3 ⟨rfl, rfl⟩))
    go_ret
    exact ⟨rfl, HB4.out⟩
  have hdh : decide (lg ≤ j) = false := decide_eq_false hnh
  have hdh2 : decide ((lg : Int) ≤ (j : Int)) = false := decide_eq_false (by omega)
  have hjl : j < lg := by omega
  have hb : b = true := by rw [← H.out]; simp [HLB.out, shapedB, HZ.out, HLOC.out, hjl]
  subst hb
  clear H
  go_wp2_with (first
    | (go_at_call 91; refine (usesVar_b 5 true rfl _).mono ?_; rintro e w3 ⟨rfl, rfl⟩)
    | (go_at_call 92; refine (usesN_b 5 true rfl _).mono ?_; rintro e w3 ⟨rfl, rfl⟩)
    | (go_at_call 93; refine (usesTerm_b 5 false rfl _).mono ?_; rintro e w3 ⟨rfl, rfl⟩))
  go_at_call 94
  refine (zeroTerm_b o tn At lt ct true HZ _).mono ?_
  rintro e w4 ⟨rfl, hb4⟩
  have HF4 := Lib.hid (HF.out.next hb4)
  have HS4 := Lib.hid (HS.out.next hb4)
  have HB4 := Lib.hid (HB.out.trans (hb4.mono HB.out.size))
  clear f0 f1 s0 s2 s3 s4 s5 s6 s7 s8 s9
  have f0 := HF4.out.at 0 _ rfl
  have f1 := HF4.out.at 1 _ rfl
  have s0 := HS4.out.at 0 _ rfl
  have s2 := HS4.out.at 2 _ rfl
  have s3 := HS4.out.at 3 _ rfl
  have s4 := HS4.out.at 4 _ rfl
  have s5 := HS4.out.at 5 _ rfl
  have s6 := HS4.out.at 6 _ rfl
  have s7 := HS4.out.at 7 _ rfl
  have s8 := HS4.out.at 8 _ rfl
  have s9 := HS4.out.at 9 _ rfl
  have v1 := (hb4.cell (p := ⟨g, _, none⟩) hg).trans v1
  have hg4 : g < w4.heap.size := Nat.lt_of_lt_of_le hg hb4.size
  go_wp2_with (first
    | (go_at_call 91; refine (usesVar_b 5 true rfl _).mono ?_; rintro e w3 ⟨rfl, rfl⟩)
    | (go_at_call 92; refine (usesN_b 5 true rfl _).mono ?_; rintro e w3 ⟨rfl, rfl⟩)
    | (go_at_call 93; refine (usesTerm_b 5 false rfl _).mono ?_; rintro e w3 ⟨rfl, rfl⟩))
  go_ret
  exact ⟨rfl, HB4.out⟩
end Go.Proofs.YtjpjmoejdkmglaaGreat
