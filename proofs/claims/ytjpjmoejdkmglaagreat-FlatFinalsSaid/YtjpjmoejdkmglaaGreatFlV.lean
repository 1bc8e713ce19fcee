/-
  The walk over numbered.
-/
import Derived.Test.YtjpjmoejdkmglaaGreatFlUd
namespace Go.Proofs.YtjpjmoejdkmglaaGreat
open Go.RowKit

/-- Are the numbers of a step in their ranges? -/
def numberedB (d c n : Int) (bs : List Int) : Bool :=
  decide (0 ≤ c) && (decide (c ≤ if d = 2 then 67108864 else 10000) && ((d != 4 || (decide (0 ≤ n) && decide (n ≤ 4096))) && (d != 6 || decide (bs.getD (bs.length - 1) 0 ≤ 67108864))))

set_option maxRecDepth 100000 in
set_option maxHeartbeats 8000000 in
theorem numbered_2 (x1 v n o tn : Int) (At : Option Addr) (lt ct : Nat) (Ah : Option Addr) (lh ch : Nat) (Ae : Option Addr) (le ce : Nat) (Ab : Option Addr) (lb cb : Nat) (bs : List Int) (b : Bool) (H : Hid (numberedB 2 x1 n bs = b)) (w : World) (hz : Zs w Ab lb cb bs) :
    Calls Tryz.prog 67 #[.agg #[.int .i64 2, .int .i64 x1, .int .i64 v, .int .i64 n, .int .i64 o, .int .i64 tn, .slice At lt ct, .slice Ah lh ch, .slice Ae le ce, .slice Ab lb cb]] w fun e w' => e = .returned (.bool b) ∧ Below w.heap.size w w' := by
  have HZS := Lib.hid hz
  have HLB := Lib.hid hz.len
  have hlbm : lb ≤ 9223372036854775807 := by have h1 := hz.cap; have h2 := hz.big; unfold maxLen at h2; omega
  have hb1 := (Below.refl w.heap.size w).alloc (Nat.le_refl _) (.cells #[.int .i64 2, .int .i64 x1, .int .i64 v, .int .i64 n, .int .i64 o, .int .i64 tn, .slice At lt ct, .slice Ah lh ch, .slice Ae le ce, .slice Ab lb cb] 56)
  have HB := Lib.hid hb1
  have HS := Lib.hid (Cs.new w #[.int .i64 2, .int .i64 x1, .int .i64 v, .int .i64 n, .int .i64 o, .int .i64 tn, .slice At lt ct, .slice Ah lh ch, .slice Ae le ce, .slice Ab lb cb] 56)
  clear hz hb1
  by_cases hc0 : x1 < 0
  case pos =>
    have hdc : decide (x1 < 0) = true := decide_eq_true hc0
    have hcn : ¬ 0 ≤ x1 := by omega
    have hb : b = false := by rw [← H.out]; simp [numberedB, hcn]
    subst hb
    clear H
    go_enter Tryz.func67, Tryz.ntmps67
    go_upto_region 1 with fail
    obtain ⟨w1, hw1⟩ : ∃ w1, w.alloc (.cells #[.int .i64 2, .int .i64 x1, .int .i64 v, .int .i64 n, .int .i64 o, .int .i64 tn, .slice At lt ct, .slice Ah lh ch, .slice Ae le ce, .slice Ab lb cb] 56) = w1 := ⟨_, rfl⟩
    obtain ⟨p, hp⟩ : ∃ p, w.heap.size = p := ⟨_, rfl⟩
    rw [hw1] at HS HB
    rw [hp] at HS
    rw [hw1, hp]
    clear hw1 hp
    have s0 := HS.out.at 0 _ rfl
    have s1 := HS.out.at 1 _ rfl
    have s3 := HS.out.at 3 _ rfl
    have s9 := HS.out.at 9 _ rfl
    go_wp2_with fail
    go_ret
    exact ⟨rfl, HB.out⟩
  have hdc : decide (x1 < 0) = false := decide_eq_false hc0
  have hcn : 0 ≤ x1 := by omega
  by_cases hc1 : 67108864 < x1
  case pos =>
    have hdm : decide (67108864 < x1) = true := decide_eq_true hc1
    have hcm : ¬ x1 ≤ 67108864 := by omega
    have hb : b = false := by rw [← H.out]; simp [numberedB, hcm]
    subst hb
    clear H
    go_enter Tryz.func67, Tryz.ntmps67
    go_upto_region 1 with fail
    obtain ⟨w1, hw1⟩ : ∃ w1, w.alloc (.cells #[.int .i64 2, .int .i64 x1, .int .i64 v, .int .i64 n, .int .i64 o, .int .i64 tn, .slice At lt ct, .slice Ah lh ch, .slice Ae le ce, .slice Ab lb cb] 56) = w1 := ⟨_, rfl⟩
    obtain ⟨p, hp⟩ : ∃ p, w.heap.size = p := ⟨_, rfl⟩
    rw [hw1] at HS HB
    rw [hp] at HS
    rw [hw1, hp]
    clear hw1 hp
    have s0 := HS.out.at 0 _ rfl
    have s1 := HS.out.at 1 _ rfl
    have s3 := HS.out.at 3 _ rfl
    have s9 := HS.out.at 9 _ rfl
    go_wp2_with fail
    go_ret
    exact ⟨rfl, HB.out⟩
  have hdm : decide (67108864 < x1) = false := decide_eq_false hc1
  have hcm : x1 ≤ 67108864 := by omega
  have hb : b = true := by rw [← H.out]; simp [numberedB, hcn, hcm]
  subst hb
  clear H
  go_enter Tryz.func67, Tryz.ntmps67
  go_upto_region 1 with fail
  obtain ⟨w1, hw1⟩ : ∃ w1, w.alloc (.cells #[.int .i64 2, .int .i64 x1, .int .i64 v, .int .i64 n, .int .i64 o, .int .i64 tn, .slice At lt ct, .slice Ah lh ch, .slice Ae le ce, .slice Ab lb cb] 56) = w1 := ⟨_, rfl⟩
  obtain ⟨p, hp⟩ : ∃ p, w.heap.size = p := ⟨_, rfl⟩
  rw [hw1] at HS HB
  rw [hp] at HS
  rw [hw1, hp]
  clear hw1 hp
  have s0 := HS.out.at 0 _ rfl
  have s1 := HS.out.at 1 _ rfl
  have s3 := HS.out.at 3 _ rfl
  have s9 := HS.out.at 9 _ rfl
  go_wp2_with fail
  go_ret
  exact ⟨rfl, HB.out⟩

set_option maxRecDepth 100000 in
set_option maxHeartbeats 8000000 in
theorem numbered_4 (x1 v n o tn : Int) (At : Option Addr) (lt ct : Nat) (Ah : Option Addr) (lh ch : Nat) (Ae : Option Addr) (le ce : Nat) (Ab : Option Addr) (lb cb : Nat) (bs : List Int) (b : Bool) (H : Hid (numberedB 4 x1 n bs = b)) (w : World) (hz : Zs w Ab lb cb bs) :
    Calls Tryz.prog 67 #[.agg #[.int .i64 4, .int .i64 x1, .int .i64 v, .int .i64 n, .int .i64 o, .int .i64 tn, .slice At lt ct, .slice Ah lh ch, .slice Ae le ce, .slice Ab lb cb]] w fun e w' => e = .returned (.bool b) ∧ Below w.heap.size w w' := by
  have HZS := Lib.hid hz
  have HLB := Lib.hid hz.len
  have hlbm : lb ≤ 9223372036854775807 := by have h1 := hz.cap; have h2 := hz.big; unfold maxLen at h2; omega
  have hb1 := (Below.refl w.heap.size w).alloc (Nat.le_refl _) (.cells #[.int .i64 4, .int .i64 x1, .int .i64 v, .int .i64 n, .int .i64 o, .int .i64 tn, .slice At lt ct, .slice Ah lh ch, .slice Ae le ce, .slice Ab lb cb] 56)
  have HB := Lib.hid hb1
  have HS := Lib.hid (Cs.new w #[.int .i64 4, .int .i64 x1, .int .i64 v, .int .i64 n, .int .i64 o, .int .i64 tn, .slice At lt ct, .slice Ah lh ch, .slice Ae le ce, .slice Ab lb cb] 56)
  clear hz hb1
  by_cases hc0 : x1 < 0
  case pos =>
    have hdc : decide (x1 < 0) = true := decide_eq_true hc0
    have hcn : ¬ 0 ≤ x1 := by omega
    have hb : b = false := by rw [← H.out]; simp [numberedB, hcn]
    subst hb
    clear H
    go_enter Tryz.func67, Tryz.ntmps67
    go_upto_region 1 with fail
    obtain ⟨w1, hw1⟩ : ∃ w1, w.alloc (.cells #[.int .i64 4, .int .i64 x1, .int .i64 v, .int .i64 n, .int .i64 o, .int .i64 tn, .slice At lt ct, .slice Ah lh ch, .slice Ae le ce, .slice Ab lb cb] 56) = w1 := ⟨_, rfl⟩
    obtain ⟨p, hp⟩ : ∃ p, w.heap.size = p := ⟨_, rfl⟩
    rw [hw1] at HS HB
    rw [hp] at HS
    rw [hw1, hp]
    clear hw1 hp
    have s0 := HS.out.at 0 _ rfl
    have s1 := HS.out.at 1 _ rfl
    have s3 := HS.out.at 3 _ rfl
    have s9 := HS.out.at 9 _ rfl
    go_wp2_with fail
    go_ret
    exact ⟨rfl, HB.out⟩
  have hdc : decide (x1 < 0) = false := decide_eq_false hc0
  have hcn : 0 ≤ x1 := by omega
  by_cases hc1 : 10000 < x1
  case pos =>
    have hdm : decide (10000 < x1) = true := decide_eq_true hc1
    have hcm : ¬ x1 ≤ 10000 := by omega
    have hb : b = false := by rw [← H.out]; simp [numberedB, hcm]
    subst hb
    clear H
    go_enter Tryz.func67, Tryz.ntmps67
    go_upto_region 1 with fail
    obtain ⟨w1, hw1⟩ : ∃ w1, w.alloc (.cells #[.int .i64 4, .int .i64 x1, .int .i64 v, .int .i64 n, .int .i64 o, .int .i64 tn, .slice At lt ct, .slice Ah lh ch, .slice Ae le ce, .slice Ab lb cb] 56) = w1 := ⟨_, rfl⟩
    obtain ⟨p, hp⟩ : ∃ p, w.heap.size = p := ⟨_, rfl⟩
    rw [hw1] at HS HB
    rw [hp] at HS
    rw [hw1, hp]
    clear hw1 hp
    have s0 := HS.out.at 0 _ rfl
    have s1 := HS.out.at 1 _ rfl
    have s3 := HS.out.at 3 _ rfl
    have s9 := HS.out.at 9 _ rfl
    go_wp2_with fail
    go_ret
    exact ⟨rfl, HB.out⟩
  have hdm : decide (10000 < x1) = false := decide_eq_false hc1
  have hcm : x1 ≤ 10000 := by omega
  by_cases hn0 : n < 0
  case pos =>
    have hdn : decide (n < 0) = true := decide_eq_true hn0
    have hnn : ¬ 0 ≤ n := by omega
    have hb : b = false := by rw [← H.out]; simp [numberedB, hnn]
    subst hb
    clear H
    go_enter Tryz.func67, Tryz.ntmps67
    go_upto_region 1 with fail
    obtain ⟨w1, hw1⟩ : ∃ w1, w.alloc (.cells #[.int .i64 4, .int .i64 x1, .int .i64 v, .int .i64 n, .int .i64 o, .int .i64 tn, .slice At lt ct, .slice Ah lh ch, .slice Ae le ce, .slice Ab lb cb] 56) = w1 := ⟨_, rfl⟩
    obtain ⟨p, hp⟩ : ∃ p, w.heap.size = p := ⟨_, rfl⟩
    rw [hw1] at HS HB
    rw [hp] at HS
    rw [hw1, hp]
    clear hw1 hp
    have s0 := HS.out.at 0 _ rfl
    have s1 := HS.out.at 1 _ rfl
    have s3 := HS.out.at 3 _ rfl
    have s9 := HS.out.at 9 _ rfl
    go_wp2_with fail
    go_ret
    exact ⟨rfl, HB.out⟩
  have hdn : decide (n < 0) = false := decide_eq_false hn0
  have hnn : 0 ≤ n := by omega
  by_cases hn1 : 4096 < n
  case pos =>
    have hdk : decide (4096 < n) = true := decide_eq_true hn1
    have hnk : ¬ n ≤ 4096 := by omega
    have hb : b = false := by rw [← H.out]; simp [numberedB, hnk]
    subst hb
    clear H
    go_enter Tryz.func67, Tryz.ntmps67
    go_upto_region 1 with fail
    obtain ⟨w1, hw1⟩ : ∃ w1, w.alloc (.cells #[.int .i64 4, .int .i64 x1, .int .i64 v, .int .i64 n, .int .i64 o, .int .i64 tn, .slice At lt ct, .slice Ah lh ch, .slice Ae le ce, .slice Ab lb cb] 56) = w1 := ⟨_, rfl⟩
    obtain ⟨p, hp⟩ : ∃ p, w.heap.size = p := ⟨_, rfl⟩
    rw [hw1] at HS HB
    rw [hp] at HS
    rw [hw1, hp]
    clear hw1 hp
    have s0 := HS.out.at 0 _ rfl
    have s1 := HS.out.at 1 _ rfl
    have s3 := HS.out.at 3 _ rfl
    have s9 := HS.out.at 9 _ rfl
    go_wp2_with fail
    go_ret
    exact ⟨rfl, HB.out⟩
  have hdk : decide (4096 < n) = false := decide_eq_false hn1
  have hnk : n ≤ 4096 := by omega
  have hb : b = true := by rw [← H.out]; simp [numberedB, hcn, hcm, hnn, hnk]
  subst hb
  clear H
  go_enter Tryz.func67, Tryz.ntmps67
  go_upto_region 1 with fail
  obtain ⟨w1, hw1⟩ : ∃ w1, w.alloc (.cells #[.int .i64 4, .int .i64 x1, .int .i64 v, .int .i64 n, .int .i64 o, .int .i64 tn, .slice At lt ct, .slice Ah lh ch, .slice Ae le ce, .slice Ab lb cb] 56) = w1 := ⟨_, rfl⟩
  obtain ⟨p, hp⟩ : ∃ p, w.heap.size = p := ⟨_, rfl⟩
  rw [hw1] at HS HB
  rw [hp] at HS
  rw [hw1, hp]
  clear hw1 hp
  have s0 := HS.out.at 0 _ rfl
  have s1 := HS.out.at 1 _ rfl
  have s3 := HS.out.at 3 _ rfl
  have s9 := HS.out.at 9 _ rfl
  go_wp2_with fail
  go_ret
  exact ⟨rfl, HB.out⟩

set_option maxRecDepth 100000 in
set_option maxHeartbeats 8000000 in
theorem numbered_6 (x1 v n o tn : Int) (At : Option Addr) (lt ct : Nat) (Ah : Option Addr) (lh ch : Nat) (Ae : Option Addr) (le ce : Nat) (Ab : Option Addr) (lb cb : Nat) (bs : List Int) (b : Bool) (H : Hid (numberedB 6 x1 n bs = b)) (w : World) (hz : Zs w Ab lb cb bs) (hne : (6 : Int) = 6 → 0 < lb) :
    Calls Tryz.prog 67 #[.agg #[.int .i64 6, .int .i64 x1, .int .i64 v, .int .i64 n, .int .i64 o, .int .i64 tn, .slice At lt ct, .slice Ah lh ch, .slice Ae le ce, .slice Ab lb cb]] w fun e w' => e = .returned (.bool b) ∧ Below w.heap.size w w' := by
  have HZS := Lib.hid hz
  have HLB := Lib.hid hz.len
  have hlbm : lb ≤ 9223372036854775807 := by have h1 := hz.cap; have h2 := hz.big; unfold maxLen at h2; omega
  have hb1 := (Below.refl w.heap.size w).alloc (Nat.le_refl _) (.cells #[.int .i64 6, .int .i64 x1, .int .i64 v, .int .i64 n, .int .i64 o, .int .i64 tn, .slice At lt ct, .slice Ah lh ch, .slice Ae le ce, .slice Ab lb cb] 56)
  have HB := Lib.hid hb1
  have HS := Lib.hid (Cs.new w #[.int .i64 6, .int .i64 x1, .int .i64 v, .int .i64 n, .int .i64 o, .int .i64 tn, .slice At lt ct, .slice Ah lh ch, .slice Ae le ce, .slice Ab lb cb] 56)
  clear hz hb1
  by_cases hc0 : x1 < 0
  case pos =>
    have hdc : decide (x1 < 0) = true := decide_eq_true hc0
    have hcn : ¬ 0 ≤ x1 := by omega
    have hb : b = false := by rw [← H.out]; simp [numberedB, hcn]
    subst hb
    clear H
    go_enter Tryz.func67, Tryz.ntmps67
    go_upto_region 1 with fail
    obtain ⟨w1, hw1⟩ : ∃ w1, w.alloc (.cells #[.int .i64 6, .int .i64 x1, .int .i64 v, .int .i64 n, .int .i64 o, .int .i64 tn, .slice At lt ct, .slice Ah lh ch, .slice Ae le ce, .slice Ab lb cb] 56) = w1 := ⟨_, rfl⟩
    obtain ⟨p, hp⟩ : ∃ p, w.heap.size = p := ⟨_, rfl⟩
    rw [hw1] at HS HB
    rw [hp] at HS
    rw [hw1, hp]
    clear hw1 hp
    have s0 := HS.out.at 0 _ rfl
    have s1 := HS.out.at 1 _ rfl
    have s3 := HS.out.at 3 _ rfl
    have s9 := HS.out.at 9 _ rfl
    go_wp2_with fail
    go_ret
    exact ⟨rfl, HB.out⟩
  have hdc : decide (x1 < 0) = false := decide_eq_false hc0
  have hcn : 0 ≤ x1 := by omega
  by_cases hc1 : 10000 < x1
  case pos =>
    have hdm : decide (10000 < x1) = true := decide_eq_true hc1
    have hcm : ¬ x1 ≤ 10000 := by omega
    have hb : b = false := by rw [← H.out]; simp [numberedB, hcm]
    subst hb
    clear H
    go_enter Tryz.func67, Tryz.ntmps67
    go_upto_region 1 with fail
    obtain ⟨w1, hw1⟩ : ∃ w1, w.alloc (.cells #[.int .i64 6, .int .i64 x1, .int .i64 v, .int .i64 n, .int .i64 o, .int .i64 tn, .slice At lt ct, .slice Ah lh ch, .slice Ae le ce, .slice Ab lb cb] 56) = w1 := ⟨_, rfl⟩
    obtain ⟨p, hp⟩ : ∃ p, w.heap.size = p := ⟨_, rfl⟩
    rw [hw1] at HS HB
    rw [hp] at HS
    rw [hw1, hp]
    clear hw1 hp
    have s0 := HS.out.at 0 _ rfl
    have s1 := HS.out.at 1 _ rfl
    have s3 := HS.out.at 3 _ rfl
    have s9 := HS.out.at 9 _ rfl
    go_wp2_with fail
    go_ret
    exact ⟨rfl, HB.out⟩
  have hdm : decide (10000 < x1) = false := decide_eq_false hc1
  have hcm : x1 ≤ 10000 := by omega
  have hlb0 : 0 < lb := hne rfl
  clear hne
  obtain ⟨j, hj⟩ : ∃ j, lb = j + 1 := ⟨lb - 1, by omega⟩
  have hwj : IntKind.i64.wrap ((lb : Int) - 1) = (j : Int) := by rw [show (lb : Int) - 1 = (j : Int) by omega]; exact IntWalk.i64_in _ (by omega)
  have hjl : (j : Int) < (lb : Int) := by omega
  obtain ⟨g, f, hA, hg, hc⟩ := (HZS.out.below HB.out).mem hlb0
  subst hA
  have cj := hc j (by omega)
  obtain ⟨x, hx⟩ : ∃ x, bs.getD j 0 = x := ⟨_, rfl⟩
  rw [hx] at cj
  have HX : Hid (bs.getD (bs.length - 1) 0 = x) := by show _ = _; rw [HLB.out, show lb - 1 = j by omega]; exact hx
  have HJ := Lib.hid hj
  clear hc hx hj
  go_enter Tryz.func67, Tryz.ntmps67
  go_upto_region 1 with fail
  obtain ⟨w1, hw1⟩ : ∃ w1, w.alloc (.cells #[.int .i64 6, .int .i64 x1, .int .i64 v, .int .i64 n, .int .i64 o, .int .i64 tn, .slice At lt ct, .slice Ah lh ch, .slice Ae le ce, .slice (some ⟨g, f, none⟩) lb cb] 56) = w1 := ⟨_, rfl⟩
  obtain ⟨p, hp⟩ : ∃ p, w.heap.size = p := ⟨_, rfl⟩
  rw [hw1] at HS HB
  rw [hp] at HS
  rw [hw1] at cj hg
  rw [hw1, hp]
  clear hw1 hp
  have s0 := HS.out.at 0 _ rfl
  have s1 := HS.out.at 1 _ rfl
  have s3 := HS.out.at 3 _ rfl
  have s9 := HS.out.at 9 _ rfl
  by_cases hx1 : 67108864 < x
  case pos =>
    have hb : b = false := by rw [← H.out]; unfold numberedB; rw [HX.out, decide_eq_false (show ¬ x ≤ 67108864 by omega)]; simp
    have hdx : decide (x ≤ 67108864) = false := decide_eq_false (by omega)
    subst hb
    clear H
    go_wp2_with fail
    go_ret
    exact ⟨rfl, HB.out⟩
  have hb : b = true := by rw [← H.out]; unfold numberedB; rw [HX.out, decide_eq_true (show x ≤ 67108864 by omega)]; simp [hcn, hcm]
  have hdx : decide (x ≤ 67108864) = true := decide_eq_true (by omega)
  subst hb
  clear H
  go_wp2_with fail
  go_ret
  exact ⟨rfl, HB.out⟩

set_option maxRecDepth 100000 in
set_option maxHeartbeats 8000000 in
theorem numbered_o (d x1 v n o tn : Int) (At : Option Addr) (lt ct : Nat) (Ah : Option Addr) (lh ch : Nat) (Ae : Option Addr) (le ce : Nat) (Ab : Option Addr) (lb cb : Nat) (bs : List Int) (hd : d ≠ 2 ∧ d ≠ 4 ∧ d ≠ 6) (b : Bool) (H : Hid (numberedB d x1 n bs = b)) (w : World) (hz : Zs w Ab lb cb bs) :
    Calls Tryz.prog 67 #[.agg #[.int .i64 d, .int .i64 x1, .int .i64 v, .int .i64 n, .int .i64 o, .int .i64 tn, .slice At lt ct, .slice Ah lh ch, .slice Ae le ce, .slice Ab lb cb]] w fun e w' => e = .returned (.bool b) ∧ Below w.heap.size w w' := by
  have HZS := Lib.hid hz
  have HLB := Lib.hid hz.len
  have hlbm : lb ≤ 9223372036854775807 := by have h1 := hz.cap; have h2 := hz.big; unfold maxLen at h2; omega
  have hb1 := (Below.refl w.heap.size w).alloc (Nat.le_refl _) (.cells #[.int .i64 d, .int .i64 x1, .int .i64 v, .int .i64 n, .int .i64 o, .int .i64 tn, .slice At lt ct, .slice Ah lh ch, .slice Ae le ce, .slice Ab lb cb] 56)
  have HB := Lib.hid hb1
  have HS := Lib.hid (Cs.new w #[.int .i64 d, .int .i64 x1, .int .i64 v, .int .i64 n, .int .i64 o, .int .i64 tn, .slice At lt ct, .slice Ah lh ch, .slice Ae le ce, .slice Ab lb cb] 56)
  clear hz hb1
  obtain ⟨hd2, hd4, hd6⟩ := hd
  have hb2 := beq_of hd2
  have hb4 := beq_of hd4
  have hn6 := bne_of hd6
  by_cases hc0 : x1 < 0
  case pos =>
    have hdc : decide (x1 < 0) = true := decide_eq_true hc0
    have hcn : ¬ 0 ≤ x1 := by omega
    have hb : b = false := by rw [← H.out]; simp [numberedB, hcn]
    subst hb
    clear H
    go_enter Tryz.func67, Tryz.ntmps67
    go_upto_region 1 with fail
    obtain ⟨w1, hw1⟩ : ∃ w1, w.alloc (.cells #[.int .i64 d, .int .i64 x1, .int .i64 v, .int .i64 n, .int .i64 o, .int .i64 tn, .slice At lt ct, .slice Ah lh ch, .slice Ae le ce, .slice Ab lb cb] 56) = w1 := ⟨_, rfl⟩
    obtain ⟨p, hp⟩ : ∃ p, w.heap.size = p := ⟨_, rfl⟩
    rw [hw1] at HS HB
    rw [hp] at HS
    rw [hw1, hp]
    clear hw1 hp
    have s0 := HS.out.at 0 _ rfl
    have s1 := HS.out.at 1 _ rfl
    have s3 := HS.out.at 3 _ rfl
    have s9 := HS.out.at 9 _ rfl
    go_wp2_with fail
    go_ret
    exact ⟨rfl, HB.out⟩
  have hdc : decide (x1 < 0) = false := decide_eq_false hc0
  have hcn : 0 ≤ x1 := by omega
  by_cases hc1 : 10000 < x1
  case pos =>
    have hdm : decide (10000 < x1) = true := decide_eq_true hc1
    have hcm : ¬ x1 ≤ 10000 := by omega
    have hb : b = false := by rw [← H.out]; simp [numberedB, hcm, hd2]
    subst hb
    clear H
    go_enter Tryz.func67, Tryz.ntmps67
    go_upto_region 1 with fail
    obtain ⟨w1, hw1⟩ : ∃ w1, w.alloc (.cells #[.int .i64 d, .int .i64 x1, .int .i64 v, .int .i64 n, .int .i64 o, .int .i64 tn, .slice At lt ct, .slice Ah lh ch, .slice Ae le ce, .slice Ab lb cb] 56) = w1 := ⟨_, rfl⟩
    obtain ⟨p, hp⟩ : ∃ p, w.heap.size = p := ⟨_, rfl⟩
    rw [hw1] at HS HB
    rw [hp] at HS
    rw [hw1, hp]
    clear hw1 hp
    have s0 := HS.out.at 0 _ rfl
    have s1 := HS.out.at 1 _ rfl
    have s3 := HS.out.at 3 _ rfl
    have s9 := HS.out.at 9 _ rfl
    go_wp2_with fail
    go_ret
    exact ⟨rfl, HB.out⟩
  have hdm : decide (10000 < x1) = false := decide_eq_false hc1
  have hcm : x1 ≤ 10000 := by omega
  have hb : b = true := by rw [← H.out]; simp [numberedB, hcn, hcm, hd2, hd4, hd6]
  subst hb
  clear H
  go_enter Tryz.func67, Tryz.ntmps67
  go_upto_region 1 with fail
  obtain ⟨w1, hw1⟩ : ∃ w1, w.alloc (.cells #[.int .i64 d, .int .i64 x1, .int .i64 v, .int .i64 n, .int .i64 o, .int .i64 tn, .slice At lt ct, .slice Ah lh ch, .slice Ae le ce, .slice Ab lb cb] 56) = w1 := ⟨_, rfl⟩
  obtain ⟨p, hp⟩ : ∃ p, w.heap.size = p := ⟨_, rfl⟩
  rw [hw1] at HS HB
  rw [hp] at HS
  rw [hw1, hp]
  clear hw1 hp
  have s0 := HS.out.at 0 _ rfl
  have s1 := HS.out.at 1 _ rfl
  have s3 := HS.out.at 3 _ rfl
  have s9 := HS.out.at 9 _ rfl
  go_wp2_with fail
  go_ret
  exact ⟨rfl, HB.out⟩

set_option maxRecDepth 100000 in
set_option maxHeartbeats 8000000 in
theorem numbered_b (d x1 v n o tn : Int) (At : Option Addr) (lt ct : Nat) (Ah : Option Addr) (lh ch : Nat) (Ae : Option Addr) (le ce : Nat) (Ab : Option Addr) (lb cb : Nat) (bs : List Int) (b : Bool) (H : Hid (numberedB d x1 n bs = b)) (w : World) (hz : Zs w Ab lb cb bs) (hne : (d : Int) = 6 → 0 < lb) :
    Calls Tryz.prog 67 #[.agg #[.int .i64 d, .int .i64 x1, .int .i64 v, .int .i64 n, .int .i64 o, .int .i64 tn, .slice At lt ct, .slice Ah lh ch, .slice Ae le ce, .slice Ab lb cb]] w fun e w' => e = .returned (.bool b) ∧ Below w.heap.size w w' := by
  by_cases h2 : d = 2
  · subst h2; exact numbered_2 x1 v n o tn At lt ct Ah lh ch Ae le ce Ab lb cb bs b H w hz
  by_cases h4 : d = 4
  · subst h4; exact numbered_4 x1 v n o tn At lt ct Ah lh ch Ae le ce Ab lb cb bs b H w hz
  by_cases h6 : d = 6
  · subst h6; exact numbered_6 x1 v n o tn At lt ct Ah lh ch Ae le ce Ab lb cb bs b H w hz hne
  exact numbered_o d x1 v n o tn At lt ct Ah lh ch Ae le ce Ab lb cb bs ⟨h2, h4, h6⟩ b H w hz
end Go.Proofs.YtjpjmoejdkmglaaGreat
