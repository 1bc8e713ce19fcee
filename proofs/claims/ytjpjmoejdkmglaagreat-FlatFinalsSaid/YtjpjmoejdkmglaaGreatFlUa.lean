/-
  The walk over shaped, parts.
-/
import Derived.Test.YtjpjmoejdkmglaaGreatFlU
namespace Go.Proofs.YtjpjmoejdkmglaaGreat
open Go.RowKit

set_option maxRecDepth 100000 in
set_option maxHeartbeats 8000000 in
theorem shaped_3 (vs : List Vr) (Av : Option Addr) (lv cv : Nat) (Ag : Option Addr) (lg cg : Nat) (Ay : Option Addr) (ly cy : Nat) (x1 v n o tn : Int) (At : Option Addr) (lt ct : Nat) (Ah : Option Addr) (lh ch : Nat) (Ae : Option Addr) (le ce : Nat) (Ab : Option Addr) (lb cb : Nat) (bs : List Int) (last : Bool) (b : Bool) (H : Hid (shapedB vs lg last 3 v n (zeroB o tn lt) lh le bs = b)) (w : World) (hv : VOk w Av lv cv vs) (hz : Zs w Ab lb cb bs) (hlg : lg ≤ maxLen) (hlh : lh ≤ maxLen) (hle : le ≤ maxLen) :
    Calls Tryz.prog 66 #[.agg #[.slice Av lv cv, .slice Ag lg cg, .slice Ay ly cy], .agg #[.int .i64 3, .int .i64 x1, .int .i64 v, .int .i64 n, .int .i64 o, .int .i64 tn, .slice At lt ct, .slice Ah lh ch, .slice Ae le ce, .slice Ab lb cb], .bool last] w fun e w' => e = .returned (.bool b) ∧ Below w.heap.size w w' := by
  have HV := Lib.hid hv
  have HZS := Lib.hid hz
  have HVL := Lib.hid hv.len
  have HLB := Lib.hid hz.len
  have hlvm : lv ≤ 9223372036854775807 := by have h1 := hv.cap; have h2 := hv.big; unfold maxLen at h2; omega
  have hlbm : lb ≤ 9223372036854775807 := by have h1 := hz.cap; have h2 := hz.big; unfold maxLen at h2; omega
  have hlgm : lg ≤ 9223372036854775807 := by unfold maxLen at hlg; omega
  have hlhm : lh ≤ 9223372036854775807 := by unfold maxLen at hlh; omega
  have hlem : le ≤ 9223372036854775807 := by unfold maxLen at hle; omega
  have hb1 := (Below.refl w.heap.size w).alloc (Nat.le_refl _) (.cells #[.slice Av lv cv, .slice Ag lg cg, .slice Ay ly cy] 26)
  have hb2 := hb1.alloc hb1.size (.cells #[.int .i64 3, .int .i64 x1, .int .i64 v, .int .i64 n, .int .i64 o, .int .i64 tn, .slice At lt ct, .slice Ah lh ch, .slice Ae le ce, .slice Ab lb cb] 56)
  have HB := Lib.hid hb2
  have HF := Lib.hid ((Cs.new w #[.slice Av lv cv, .slice Ag lg cg, .slice Ay ly cy] 26).alloc (.cells #[.int .i64 3, .int .i64 x1, .int .i64 v, .int .i64 n, .int .i64 o, .int .i64 tn, .slice At lt ct, .slice Ah lh ch, .slice Ae le ce, .slice Ab lb cb] 56))
  have HS := Lib.hid (Cs.new1 w (.cells #[.slice Av lv cv, .slice Ag lg cg, .slice Ay ly cy] 26) #[.int .i64 3, .int .i64 x1, .int .i64 v, .int .i64 n, .int .i64 o, .int .i64 tn, .slice At lt ct, .slice Ah lh ch, .slice Ae le ce, .slice Ab lb cb] 56)
  clear hv hz hlg hlh hle hb1 hb2
  go_enter Tryz.func66, Tryz.ntmps66
  go_upto_region 1 with fail
  obtain ⟨w1, hw1⟩ : ∃ w1, (w.alloc (.cells #[.slice Av lv cv, .slice Ag lg cg, .slice Ay ly cy] 26)).alloc (.cells #[.int .i64 3, .int .i64 x1, .int .i64 v, .int .i64 n, .int .i64 o, .int .i64 tn, .slice At lt ct, .slice Ah lh ch, .slice Ae le ce, .slice Ab lb cb] 56) = w1 := ⟨_, rfl⟩
  obtain ⟨p, hp⟩ : ∃ p, w.heap.size = p := ⟨_, rfl⟩
  rw [hw1] at HF HS HB
  have HB0 := HB
  rw [hp] at HF HS HB0
  rw [hw1, hp]
  clear hw1 hp
  have f0 := HF.out.at 0 _ rfl
  have f1 := HF.out.at 1 _ rfl
  have s0 := HS.out.at 0 _ rfl
  have s2 := HS.out.at 2 _ rfl
  have s3 := HS.out.at 3 _ rfl
  have s4 := HS.out.at 4 _ rfl
  have s5 := HS.out.at 5 _ rfl
  have s6 := HS.out.at 6 _ rfl
  have s7 := HS.out.at 7 _ rfl
  have s8 := HS.out.at 8 _ rfl
  have s9 := HS.out.at 9 _ rfl
  clear HB0
  by_cases hv : v = 0
  case neg =>
    have hnv := bne_of hv
    have hb : b = false := by rw [← H.out]; simp [HLB.out, shapedB, hv]
    subst hb
    clear H
    go_wp2_with (first
      | (go_at_call 91; refine (usesVar_b 3 false rfl _).mono ?_; rintro e w3 ⟨rfl, rfl⟩)
      | (go_at_call 92; refine (usesN_b 3 false rfl _).mono ?_; rintro e w3 ⟨rfl, rfl⟩)
      | (go_at_call 93; refine (usesTerm_b 3 true rfl _).mono ?_; rintro e w3 ⟨rfl, rfl⟩))
    go_ret
    exact ⟨rfl, HB.out⟩
  have hqv : (v != 0) = false := by rw [hv]; rfl
  subst hv
  by_cases hn : n = 0
  case neg =>
    have hnn := bne_of hn
    have hb : b = false := by rw [← H.out]; simp [HLB.out, shapedB, hn]
    subst hb
    clear H
    go_wp2_with (first
      | (go_at_call 91; refine (usesVar_b 3 false rfl _).mono ?_; rintro e w3 ⟨rfl, rfl⟩)
      | (go_at_call 92; refine (usesN_b 3 false rfl _).mono ?_; rintro e w3 ⟨rfl, rfl⟩)
      | (go_at_call 93; refine (usesTerm_b 3 true rfl _).mono ?_; rintro e w3 ⟨rfl, rfl⟩))
    go_ret
    exact ⟨rfl, HB.out⟩
  have hqn : (n != 0) = false := by rw [hn]; rfl
  subst hn
  by_cases hlb : lb = 0
  case neg =>
    have hplb : 0 < lb := by omega
    have hdlb : decide (0 < lb) = true := decide_eq_true hplb
    have hb : b = false := by rw [← H.out]; simp [HLB.out, shapedB, hlb]
    subst hb
    clear H
    go_wp2_with (first
      | (go_at_call 91; refine (usesVar_b 3 false rfl _).mono ?_; rintro e w3 ⟨rfl, rfl⟩)
      | (go_at_call 92; refine (usesN_b 3 false rfl _).mono ?_; rintro e w3 ⟨rfl, rfl⟩)
      | (go_at_call 93; refine (usesTerm_b 3 true rfl _).mono ?_; rintro e w3 ⟨rfl, rfl⟩))
    go_ret
    exact ⟨rfl, HB.out⟩
  subst hlb
  have hb : b = true := by rw [← H.out]; simp [HLB.out, shapedB]
  subst hb
  clear H
  go_wp2_with (first
    | (go_at_call 91; refine (usesVar_b 3 false rfl _).mono ?_; rintro e w3 ⟨rfl, rfl⟩)
    | (go_at_call 92; refine (usesN_b 3 false rfl _).mono ?_; rintro e w3 ⟨rfl, rfl⟩)
    | (go_at_call 93; refine (usesTerm_b 3 true rfl _).mono ?_; rintro e w3 ⟨rfl, rfl⟩))
  go_ret
  exact ⟨rfl, HB.out⟩

set_option maxRecDepth 100000 in
set_option maxHeartbeats 8000000 in
theorem shaped_4 (vs : List Vr) (Av : Option Addr) (lv cv : Nat) (Ag : Option Addr) (lg cg : Nat) (Ay : Option Addr) (ly cy : Nat) (x1 v n o tn : Int) (At : Option Addr) (lt ct : Nat) (Ah : Option Addr) (lh ch : Nat) (Ae : Option Addr) (le ce : Nat) (Ab : Option Addr) (lb cb : Nat) (bs : List Int) (last : Bool) (b : Bool) (H : Hid (shapedB vs lg last 4 v n (zeroB o tn lt) lh le bs = b)) (w : World) (hv : VOk w Av lv cv vs) (hz : Zs w Ab lb cb bs) (hlg : lg ≤ maxLen) (hlh : lh ≤ maxLen) (hle : le ≤ maxLen) :
    Calls Tryz.prog 66 #[.agg #[.slice Av lv cv, .slice Ag lg cg, .slice Ay ly cy], .agg #[.int .i64 4, .int .i64 x1, .int .i64 v, .int .i64 n, .int .i64 o, .int .i64 tn, .slice At lt ct, .slice Ah lh ch, .slice Ae le ce, .slice Ab lb cb], .bool last] w fun e w' => e = .returned (.bool b) ∧ Below w.heap.size w w' := by
  have HV := Lib.hid hv
  have HZS := Lib.hid hz
  have HVL := Lib.hid hv.len
  have HLB := Lib.hid hz.len
  have hlvm : lv ≤ 9223372036854775807 := by have h1 := hv.cap; have h2 := hv.big; unfold maxLen at h2; omega
  have hlbm : lb ≤ 9223372036854775807 := by have h1 := hz.cap; have h2 := hz.big; unfold maxLen at h2; omega
  have hlgm : lg ≤ 9223372036854775807 := by unfold maxLen at hlg; omega
  have hlhm : lh ≤ 9223372036854775807 := by unfold maxLen at hlh; omega
  have hlem : le ≤ 9223372036854775807 := by unfold maxLen at hle; omega
  have hb1 := (Below.refl w.heap.size w).alloc (Nat.le_refl _) (.cells #[.slice Av lv cv, .slice Ag lg cg, .slice Ay ly cy] 26)
  have hb2 := hb1.alloc hb1.size (.cells #[.int .i64 4, .int .i64 x1, .int .i64 v, .int .i64 n, .int .i64 o, .int .i64 tn, .slice At lt ct, .slice Ah lh ch, .slice Ae le ce, .slice Ab lb cb] 56)
  have HB := Lib.hid hb2
  have HF := Lib.hid ((Cs.new w #[.slice Av lv cv, .slice Ag lg cg, .slice Ay ly cy] 26).alloc (.cells #[.int .i64 4, .int .i64 x1, .int .i64 v, .int .i64 n, .int .i64 o, .int .i64 tn, .slice At lt ct, .slice Ah lh ch, .slice Ae le ce, .slice Ab lb cb] 56))
  have HS := Lib.hid (Cs.new1 w (.cells #[.slice Av lv cv, .slice Ag lg cg, .slice Ay ly cy] 26) #[.int .i64 4, .int .i64 x1, .int .i64 v, .int .i64 n, .int .i64 o, .int .i64 tn, .slice At lt ct, .slice Ah lh ch, .slice Ae le ce, .slice Ab lb cb] 56)
  clear hv hz hlg hlh hle hb1 hb2
  go_enter Tryz.func66, Tryz.ntmps66
  go_upto_region 1 with fail
  obtain ⟨w1, hw1⟩ : ∃ w1, (w.alloc (.cells #[.slice Av lv cv, .slice Ag lg cg, .slice Ay ly cy] 26)).alloc (.cells #[.int .i64 4, .int .i64 x1, .int .i64 v, .int .i64 n, .int .i64 o, .int .i64 tn, .slice At lt ct, .slice Ah lh ch, .slice Ae le ce, .slice Ab lb cb] 56) = w1 := ⟨_, rfl⟩
  obtain ⟨p, hp⟩ : ∃ p, w.heap.size = p := ⟨_, rfl⟩
  rw [hw1] at HF HS HB
  have HB0 := HB
  rw [hp] at HF HS HB0
  rw [hw1, hp]
  clear hw1 hp
  have f0 := HF.out.at 0 _ rfl
  have f1 := HF.out.at 1 _ rfl
  have s0 := HS.out.at 0 _ rfl
  have s2 := HS.out.at 2 _ rfl
  have s3 := HS.out.at 3 _ rfl
  have s4 := HS.out.at 4 _ rfl
  have s5 := HS.out.at 5 _ rfl
  have s6 := HS.out.at 6 _ rfl
  have s7 := HS.out.at 7 _ rfl
  have s8 := HS.out.at 8 _ rfl
  have s9 := HS.out.at 9 _ rfl
  clear HB0
  by_cases hv : v = 0
  case neg =>
    have hnv := bne_of hv
    have hb : b = false := by rw [← H.out]; simp [HLB.out, shapedB, hv]
    subst hb
    clear H
    go_wp2_with (first
      | (go_at_call 91; refine (usesVar_b 4 false rfl _).mono ?_; rintro e w3 ⟨rfl, rfl⟩)
      | (go_at_call 92; refine (usesN_b 4 true rfl _).mono ?_; rintro e w3 ⟨rfl, rfl⟩)
      | (go_at_call 93; refine (usesTerm_b 4 true rfl _).mono ?_; rintro e w3 ⟨rfl, rfl⟩))
    go_ret
    exact ⟨rfl, HB.out⟩
  have hqv : (v != 0) = false := by rw [hv]; rfl
  subst hv
  by_cases hle : le = 0
  case neg =>
    have hple : 0 < le := by omega
    have hdle : decide (0 < le) = true := decide_eq_true hple
    have hb : b = false := by rw [← H.out]; simp [HLB.out, shapedB, hle]
    subst hb
    clear H
    go_wp2_with (first
      | (go_at_call 91; refine (usesVar_b 4 false rfl _).mono ?_; rintro e w3 ⟨rfl, rfl⟩)
      | (go_at_call 92; refine (usesN_b 4 true rfl _).mono ?_; rintro e w3 ⟨rfl, rfl⟩)
      | (go_at_call 93; refine (usesTerm_b 4 true rfl _).mono ?_; rintro e w3 ⟨rfl, rfl⟩))
    go_ret
    exact ⟨rfl, HB.out⟩
  subst hle
  by_cases hlb : lb = 0
  case neg =>
    have hplb : 0 < lb := by omega
    have hdlb : decide (0 < lb) = true := decide_eq_true hplb
    have hb : b = false := by rw [← H.out]; simp [HLB.out, shapedB, hlb]
    subst hb
    clear H
    go_wp2_with (first
      | (go_at_call 91; refine (usesVar_b 4 false rfl _).mono ?_; rintro e w3 ⟨rfl, rfl⟩)
      | (go_at_call 92; refine (usesN_b 4 true rfl _).mono ?_; rintro e w3 ⟨rfl, rfl⟩)
      | (go_at_call 93; refine (usesTerm_b 4 true rfl _).mono ?_; rintro e w3 ⟨rfl, rfl⟩))
    go_ret
    exact ⟨rfl, HB.out⟩
  subst hlb
  have hb : b = true := by rw [← H.out]; simp [HLB.out, shapedB]
  subst hb
  clear H
  go_wp2_with (first
    | (go_at_call 91; refine (usesVar_b 4 false rfl _).mono ?_; rintro e w3 ⟨rfl, rfl⟩)
    | (go_at_call 92; refine (usesN_b 4 true rfl _).mono ?_; rintro e w3 ⟨rfl, rfl⟩)
    | (go_at_call 93; refine (usesTerm_b 4 true rfl _).mono ?_; rintro e w3 ⟨rfl, rfl⟩))
  go_ret
  exact ⟨rfl, HB.out⟩
end Go.Proofs.YtjpjmoejdkmglaaGreat
