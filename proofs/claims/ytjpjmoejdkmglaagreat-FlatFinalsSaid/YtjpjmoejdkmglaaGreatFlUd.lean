/-
  The walk over shaped, parts.
-/
import Derived.Test.YtjpjmoejdkmglaaGreatFlUa
import Derived.Test.YtjpjmoejdkmglaaGreatFlUb
import Derived.Test.YtjpjmoejdkmglaaGreatFlUc
namespace Go.Proofs.YtjpjmoejdkmglaaGreat
open Go.RowKit

set_option maxRecDepth 100000 in
set_option maxHeartbeats 8000000 in
theorem shaped_out (vs : List Vr) (Av : Option Addr) (lv cv : Nat) (Ag : Option Addr) (lg cg : Nat) (Ay : Option Addr) (ly cy : Nat) (d x1 v n o tn : Int) (At : Option Addr) (lt ct : Nat) (Ah : Option Addr) (lh ch : Nat) (Ae : Option Addr) (le ce : Nat) (Ab : Option Addr) (lb cb : Nat) (bs : List Int) (last : Bool) (hd : d < 0 ∨ 6 < d) (b : Bool) (H : Hid (shapedB vs lg last d v n (zeroB o tn lt) lh le bs = b)) (w : World) (hv : VOk w Av lv cv vs) (hz : Zs w Ab lb cb bs) (hlg : lg ≤ maxLen) (hlh : lh ≤ maxLen) (hle : le ≤ maxLen) :
    Calls Tryz.prog 66 #[.agg #[.slice Av lv cv, .slice Ag lg cg, .slice Ay ly cy], .agg #[.int .i64 d, .int .i64 x1, .int .i64 v, .int .i64 n, .int .i64 o, .int .i64 tn, .slice At lt ct, .slice Ah lh ch, .slice Ae le ce, .slice Ab lb cb], .bool last] w fun e w' => e = .returned (.bool b) ∧ Below w.heap.size w w' := by
  have hb : b = false := by
    rw [← H.out]; unfold shapedB
    rw [if_neg (by omega), if_neg (by omega), if_neg (by omega), if_neg (by omega), if_neg (by omega), if_neg (by omega), if_neg (by omega)]
  subst hb
  clear H
  have HV := Lib.hid hv
  have HZS := Lib.hid hz
  have HVL := Lib.hid hv.len
  have HLB := Lib.hid hz.len
  have hlvm : lv ≤ 9223372036854775807 := by have h1 := hv.cap; have h2 := hv.big; unfold maxLen at h2; omega
  have hlbm : lb ≤ 9223372036854775807 := by have h1 := hz.cap; have h2 := hz.big; unfold maxLen at h2; omega
  have hlgm : lg ≤ 9223372036854775807 := by unfold maxLen at hlg; omega
  have hlhm : lh ≤ 9223372036854775807 := by unfold maxLen at hlh; omega
  have hlem : le ≤ 9223372036854775807 := by unfold maxLen at hle; omega
  have hb1 := (Below.refl w.heap.size w).alloc (Nat.le_refl _) (.cells #[.slice Av lv cv, .slice Ag lg cg, .slice Ay ly cy] 26)
  have hb2 := hb1.alloc hb1.size (.cells #[.int .i64 d, .int .i64 x1, .int .i64 v, .int .i64 n, .int .i64 o, .int .i64 tn, .slice At lt ct, .slice Ah lh ch, .slice Ae le ce, .slice Ab lb cb] 56)
  have HB := Lib.hid hb2
  have HF := Lib.hid ((Cs.new w #[.slice Av lv cv, .slice Ag lg cg, .slice Ay ly cy] 26).alloc (.cells #[.int .i64 d, .int .i64 x1, .int .i64 v, .int .i64 n, .int .i64 o, .int .i64 tn, .slice At lt ct, .slice Ah lh ch, .slice Ae le ce, .slice Ab lb cb] 56))
  have HS := Lib.hid (Cs.new1 w (.cells #[.slice Av lv cv, .slice Ag lg cg, .slice Ay ly cy] 26) #[.int .i64 d, .int .i64 x1, .int .i64 v, .int .i64 n, .int .i64 o, .int .i64 tn, .slice At lt ct, .slice Ah lh ch, .slice Ae le ce, .slice Ab lb cb] 56)
  clear hv hz hlg hlh hle hb1 hb2
  by_cases hd0 : d < 0
  · have hdd : decide (d < 0) = true := decide_eq_true hd0
    clear hd
    go_enter Tryz.func66, Tryz.ntmps66
    go_upto_region 1 with fail
    obtain ⟨w1, hw1⟩ : ∃ w1, (w.alloc (.cells #[.slice Av lv cv, .slice Ag lg cg, .slice Ay ly cy] 26)).alloc (.cells #[.int .i64 d, .int .i64 x1, .int .i64 v, .int .i64 n, .int .i64 o, .int .i64 tn, .slice At lt ct, .slice Ah lh ch, .slice Ae le ce, .slice Ab lb cb] 56) = w1 := ⟨_, rfl⟩
    obtain ⟨p, hp⟩ : ∃ p, w.heap.size = p := ⟨_, rfl⟩
    rw [hw1] at HF HS HB
    rw [hp] at HF HS
    rw [hw1, hp]
    clear hw1 hp
    have f0 := HF.out.at 0 _ rfl
    have f1 := HF.out.at 1 _ rfl
    have s0 := HS.out.at 0 _ rfl
    have s2 := HS.out.at 2 _ rfl
    have s3 := HS.out.at 3 _ rfl
    have s4 := HS.out.at 4 _ rfl
    have s5 := HS.out.at 5 _ rfl
    have s6 := HS.out.at 6 _ rfl
    have s7 := HS.out.at 7 _ rfl
    have s8 := HS.out.at 8 _ rfl
    have s9 := HS.out.at 9 _ rfl
    go_wp2_with fail
    go_ret
    exact ⟨rfl, HB.out⟩
  · have hdd : decide (d < 0) = false := decide_eq_false hd0
    have hd6 : 6 < d := by omega
    have hdd6 : decide (6 < d) = true := decide_eq_true hd6
    clear hd
    go_enter Tryz.func66, Tryz.ntmps66
    go_upto_region 1 with fail
    obtain ⟨w1, hw1⟩ : ∃ w1, (w.alloc (.cells #[.slice Av lv cv, .slice Ag lg cg, .slice Ay ly cy] 26)).alloc (.cells #[.int .i64 d, .int .i64 x1, .int .i64 v, .int .i64 n, .int .i64 o, .int .i64 tn, .slice At lt ct, .slice Ah lh ch, .slice Ae le ce, .slice Ab lb cb] 56) = w1 := ⟨_, rfl⟩
    obtain ⟨p, hp⟩ : ∃ p, w.heap.size = p := ⟨_, rfl⟩
    rw [hw1] at HF HS HB
    rw [hp] at HF HS
    rw [hw1, hp]
    clear hw1 hp
    have f0 := HF.out.at 0 _ rfl
    have f1 := HF.out.at 1 _ rfl
    have s0 := HS.out.at 0 _ rfl
    have s2 := HS.out.at 2 _ rfl
    have s3 := HS.out.at 3 _ rfl
    have s4 := HS.out.at 4 _ rfl
    have s5 := HS.out.at 5 _ rfl
    have s6 := HS.out.at 6 _ rfl
    have s7 := HS.out.at 7 _ rfl
    have s8 := HS.out.at 8 _ rfl
    have s9 := HS.out.at 9 _ rfl
    go_wp2_with fail
    go_ret
    exact ⟨rfl, HB.out⟩

set_option maxRecDepth 100000 in
set_option maxHeartbeats 8000000 in
theorem shaped_b (vs : List Vr) (Av : Option Addr) (lv cv : Nat) (Ag : Option Addr) (lg cg : Nat) (Ay : Option Addr) (ly cy : Nat) (d x1 v n o tn : Int) (At : Option Addr) (lt ct : Nat) (Ah : Option Addr) (lh ch : Nat) (Ae : Option Addr) (le ce : Nat) (Ab : Option Addr) (lb cb : Nat) (bs : List Int) (last : Bool) (b : Bool) (H : Hid (shapedB vs lg last d v n (zeroB o tn lt) lh le bs = b)) (w : World) (hv : VOk w Av lv cv vs) (hz : Zs w Ab lb cb bs) (hlg : lg ≤ maxLen) (hlh : lh ≤ maxLen) (hle : le ≤ maxLen) :
    Calls Tryz.prog 66 #[.agg #[.slice Av lv cv, .slice Ag lg cg, .slice Ay ly cy], .agg #[.int .i64 d, .int .i64 x1, .int .i64 v, .int .i64 n, .int .i64 o, .int .i64 tn, .slice At lt ct, .slice Ah lh ch, .slice Ae le ce, .slice Ab lb cb], .bool last] w fun e w' => e = .returned (.bool b) ∧ Below w.heap.size w w' := by
  by_cases hd : d < 0 ∨ 6 < d
  · exact shaped_out vs Av lv cv Ag lg cg Ay ly cy d x1 v n o tn At lt ct Ah lh ch Ae le ce Ab lb cb bs last hd b H w hv hz hlg hlh hle
  obtain rfl | rfl | rfl | rfl | rfl | rfl | rfl : d = 0 ∨ d = 1 ∨ d = 2 ∨ d = 3 ∨ d = 4 ∨ d = 5 ∨ d = 6 := by omega
  · exact shaped_0 vs Av lv cv Ag lg cg Ay ly cy x1 v n o tn At lt ct Ah lh ch Ae le ce Ab lb cb bs last b H w hv hz hlg hlh hle
  · exact shaped_1 vs Av lv cv Ag lg cg Ay ly cy x1 v n o tn At lt ct Ah lh ch Ae le ce Ab lb cb bs last b H w hv hz hlg hlh hle
  · exact shaped_2 vs Av lv cv Ag lg cg Ay ly cy x1 v n o tn At lt ct Ah lh ch Ae le ce Ab lb cb bs last b H w hv hz hlg hlh hle
  · exact shaped_3 vs Av lv cv Ag lg cg Ay ly cy x1 v n o tn At lt ct Ah lh ch Ae le ce Ab lb cb bs last b H w hv hz hlg hlh hle
  · exact shaped_4 vs Av lv cv Ag lg cg Ay ly cy x1 v n o tn At lt ct Ah lh ch Ae le ce Ab lb cb bs last b H w hv hz hlg hlh hle
  · exact shaped_5 vs Av lv cv Ag lg cg Ay ly cy x1 v n o tn At lt ct Ah lh ch Ae le ce Ab lb cb bs last b H w hv hz hlg hlh hle
  · exact shaped_6 vs Av lv cv Ag lg cg Ay ly cy x1 v n o tn At lt ct Ah lh ch Ae le ce Ab lb cb bs last b H w hv hz hlg hlh hle
end Go.Proofs.YtjpjmoejdkmglaaGreat
