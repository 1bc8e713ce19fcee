/-
  The walks over wordByte and isWord, the program's and the reference's.
-/
import Derived.Test.YtnipigninbeplaaDoorPA
import Derived.Test.YtnipigninbeplaaDoorFlAh
namespace Go.Proofs.YtnipigninbeplaaDoor
open Go.RowKit

set_option maxHeartbeats 2000000 in
theorem wordByte_b (c : UInt8) (b : Bool) (H : Hid (wordc c = b)) (w : World) :
    Calls Tryd.prog 70 #[.int .u8 (c.toNat : Int)] w fun e w' => e = .returned (.bool b) ∧ w = w' := by
  have hc : (97 ≤ (c.toNat : Int) ∧ (c.toNat : Int) ≤ 122) ∨ (c.toNat : Int) = 46 ∨ ((c.toNat : Int) < 48 ∧ (c.toNat : Int) ≠ 46) ∨ (48 ≤ (c.toNat : Int) ∧ (c.toNat : Int) ≤ 57) ∨ (57 < (c.toNat : Int) ∧ (c.toNat : Int) < 97 ∧ (c.toNat : Int) ≠ 95) ∨ (c.toNat : Int) = 95 ∨ 122 < (c.toNat : Int) := by omega
  rcases hc with hc | hc | hc | hc | hc | hc | hc
  · have hb : b = true := by rw [← H.out]; unfold wordc; simp; omega
    subst hb
    clear H
    have p0 : (97 : Int) ≤ (c.toNat : Int) := by omega
    have d0 : decide ((97 : Int) ≤ (c.toNat : Int)) = true := decide_eq_true p0
    have p1 : (c.toNat : Int) ≤ 122 := by omega
    have d1 : decide ((c.toNat : Int) ≤ 122) = true := decide_eq_true p1
    have p2 : (48 : Int) ≤ (c.toNat : Int) := by omega
    have d2 : decide ((48 : Int) ≤ (c.toNat : Int)) = true := decide_eq_true p2
    have p3 : ¬ (c.toNat : Int) ≤ 57 := by omega
    have d3 : decide ((c.toNat : Int) ≤ 57) = false := decide_eq_false p3
    have e46 : ((c.toNat : Int) == 46) = false := beq_of (by omega)
    have f46 : ((c.toNat : Int) != 46) = true := bne_of (by omega)
    have g46 : ¬ (c.toNat : Int) = 46 := by omega
    have e95 : ((c.toNat : Int) == 95) = false := beq_of (by omega)
    have f95 : ((c.toNat : Int) != 95) = true := bne_of (by omega)
    have g95 : ¬ (c.toNat : Int) = 95 := by omega
    clear hc
    go_enter Tryd.func70, Tryd.ntmps70
    go_wp2_with fail
    go_ret
    exact ⟨rfl, rfl⟩
  · have hb : b = true := by rw [← H.out]; unfold wordc; simp; omega
    subst hb
    clear H

    go_enter Tryd.func70, Tryd.ntmps70
    go_wp2_with fail
    go_ret
    exact ⟨rfl, rfl⟩
  · have hb : b = false := by rw [← H.out]; unfold wordc; simp; omega
    subst hb
    clear H
    have p0 : ¬ (97 : Int) ≤ (c.toNat : Int) := by omega
    have d0 : decide ((97 : Int) ≤ (c.toNat : Int)) = false := decide_eq_false p0
    have p1 : (c.toNat : Int) ≤ 122 := by omega
    have d1 : decide ((c.toNat : Int) ≤ 122) = true := decide_eq_true p1
    have p2 : ¬ (48 : Int) ≤ (c.toNat : Int) := by omega
    have d2 : decide ((48 : Int) ≤ (c.toNat : Int)) = false := decide_eq_false p2
    have p3 : (c.toNat : Int) ≤ 57 := by omega
    have d3 : decide ((c.toNat : Int) ≤ 57) = true := decide_eq_true p3
    have e46 : ((c.toNat : Int) == 46) = false := beq_of (by omega)
    have f46 : ((c.toNat : Int) != 46) = true := bne_of (by omega)
    have g46 : ¬ (c.toNat : Int) = 46 := by omega
    have e95 : ((c.toNat : Int) == 95) = false := beq_of (by omega)
    have f95 : ((c.toNat : Int) != 95) = true := bne_of (by omega)
    have g95 : ¬ (c.toNat : Int) = 95 := by omega
    clear hc
    go_enter Tryd.func70, Tryd.ntmps70
    go_wp2_with fail
    go_ret
    exact ⟨rfl, rfl⟩
  · have hb : b = true := by rw [← H.out]; unfold wordc; simp; omega
    subst hb
    clear H
    have p0 : ¬ (97 : Int) ≤ (c.toNat : Int) := by omega
    have d0 : decide ((97 : Int) ≤ (c.toNat : Int)) = false := decide_eq_false p0
    have p1 : (c.toNat : Int) ≤ 122 := by omega
    have d1 : decide ((c.toNat : Int) ≤ 122) = true := decide_eq_true p1
    have p2 : (48 : Int) ≤ (c.toNat : Int) := by omega
    have d2 : decide ((48 : Int) ≤ (c.toNat : Int)) = true := decide_eq_true p2
    have p3 : (c.toNat : Int) ≤ 57 := by omega
    have d3 : decide ((c.toNat : Int) ≤ 57) = true := decide_eq_true p3
    have e46 : ((c.toNat : Int) == 46) = false := beq_of (by omega)
    have f46 : ((c.toNat : Int) != 46) = true := bne_of (by omega)
    have g46 : ¬ (c.toNat : Int) = 46 := by omega
    have e95 : ((c.toNat : Int) == 95) = false := beq_of (by omega)
    have f95 : ((c.toNat : Int) != 95) = true := bne_of (by omega)
    have g95 : ¬ (c.toNat : Int) = 95 := by omega
    clear hc
    go_enter Tryd.func70, Tryd.ntmps70
    go_wp2_with fail
    go_ret
    exact ⟨rfl, rfl⟩
  · have hb : b = false := by rw [← H.out]; unfold wordc; simp; omega
    subst hb
    clear H
    have p0 : ¬ (97 : Int) ≤ (c.toNat : Int) := by omega
    have d0 : decide ((97 : Int) ≤ (c.toNat : Int)) = false := decide_eq_false p0
    have p1 : (c.toNat : Int) ≤ 122 := by omega
    have d1 : decide ((c.toNat : Int) ≤ 122) = true := decide_eq_true p1
    have p2 : (48 : Int) ≤ (c.toNat : Int) := by omega
    have d2 : decide ((48 : Int) ≤ (c.toNat : Int)) = true := decide_eq_true p2
    have p3 : ¬ (c.toNat : Int) ≤ 57 := by omega
    have d3 : decide ((c.toNat : Int) ≤ 57) = false := decide_eq_false p3
    have e46 : ((c.toNat : Int) == 46) = false := beq_of (by omega)
    have f46 : ((c.toNat : Int) != 46) = true := bne_of (by omega)
    have g46 : ¬ (c.toNat : Int) = 46 := by omega
    have e95 : ((c.toNat : Int) == 95) = false := beq_of (by omega)
    have f95 : ((c.toNat : Int) != 95) = true := bne_of (by omega)
    have g95 : ¬ (c.toNat : Int) = 95 := by omega
    clear hc
    go_enter Tryd.func70, Tryd.ntmps70
    go_wp2_with fail
    go_ret
    exact ⟨rfl, rfl⟩
  · have hb : b = true := by rw [← H.out]; unfold wordc; simp; omega
    subst hb
    clear H

    go_enter Tryd.func70, Tryd.ntmps70
    go_wp2_with fail
    go_ret
    exact ⟨rfl, rfl⟩
  · have hb : b = false := by rw [← H.out]; unfold wordc; simp; omega
    subst hb
    clear H
    have p0 : (97 : Int) ≤ (c.toNat : Int) := by omega
    have d0 : decide ((97 : Int) ≤ (c.toNat : Int)) = true := decide_eq_true p0
    have p1 : ¬ (c.toNat : Int) ≤ 122 := by omega
    have d1 : decide ((c.toNat : Int) ≤ 122) = false := decide_eq_false p1
    have p2 : (48 : Int) ≤ (c.toNat : Int) := by omega
    have d2 : decide ((48 : Int) ≤ (c.toNat : Int)) = true := decide_eq_true p2
    have p3 : ¬ (c.toNat : Int) ≤ 57 := by omega
    have d3 : decide ((c.toNat : Int) ≤ 57) = false := decide_eq_false p3
    have e46 : ((c.toNat : Int) == 46) = false := beq_of (by omega)
    have f46 : ((c.toNat : Int) != 46) = true := bne_of (by omega)
    have g46 : ¬ (c.toNat : Int) = 46 := by omega
    have e95 : ((c.toNat : Int) == 95) = false := beq_of (by omega)
    have f95 : ((c.toNat : Int) != 95) = true := bne_of (by omega)
    have g95 : ¬ (c.toNat : Int) = 95 := by omega
    clear hc
    go_enter Tryd.func70, Tryd.ntmps70
    go_wp2_with fail
    go_ret
    exact ⟨rfl, rfl⟩
set_option maxHeartbeats 2000000 in
theorem rwordByte_b (c : UInt8) (b : Bool) (H : Hid (wordc c = b)) (w : World) :
    Calls Tryd.prog 63 #[.int .u8 (c.toNat : Int)] w fun e w' => e = .returned (.bool b) ∧ w = w' := by
  have hc : (97 ≤ (c.toNat : Int) ∧ (c.toNat : Int) ≤ 122) ∨ (c.toNat : Int) = 46 ∨ ((c.toNat : Int) < 48 ∧ (c.toNat : Int) ≠ 46) ∨ (48 ≤ (c.toNat : Int) ∧ (c.toNat : Int) ≤ 57) ∨ (57 < (c.toNat : Int) ∧ (c.toNat : Int) < 97 ∧ (c.toNat : Int) ≠ 95) ∨ (c.toNat : Int) = 95 ∨ 122 < (c.toNat : Int) := by omega
  rcases hc with hc | hc | hc | hc | hc | hc | hc
  · have hb : b = true := by rw [← H.out]; unfold wordc; simp; omega
    subst hb
    clear H
    have p0 : (97 : Int) ≤ (c.toNat : Int) := by omega
    have d0 : decide ((97 : Int) ≤ (c.toNat : Int)) = true := decide_eq_true p0
    have p1 : (c.toNat : Int) ≤ 122 := by omega
    have d1 : decide ((c.toNat : Int) ≤ 122) = true := decide_eq_true p1
    have p2 : (48 : Int) ≤ (c.toNat : Int) := by omega
    have d2 : decide ((48 : Int) ≤ (c.toNat : Int)) = true := decide_eq_true p2
    have p3 : ¬ (c.toNat : Int) ≤ 57 := by omega
    have d3 : decide ((c.toNat : Int) ≤ 57) = false := decide_eq_false p3
    have e46 : ((c.toNat : Int) == 46) = false := beq_of (by omega)
    have f46 : ((c.toNat : Int) != 46) = true := bne_of (by omega)
    have g46 : ¬ (c.toNat : Int) = 46 := by omega
    have e95 : ((c.toNat : Int) == 95) = false := beq_of (by omega)
    have f95 : ((c.toNat : Int) != 95) = true := bne_of (by omega)
    have g95 : ¬ (c.toNat : Int) = 95 := by omega
    clear hc
    go_enter Tryd.func63, Tryd.ntmps63
    go_wp2_with fail
    go_ret
    exact ⟨rfl, rfl⟩
  · have hb : b = true := by rw [← H.out]; unfold wordc; simp; omega
    subst hb
    clear H

    go_enter Tryd.func63, Tryd.ntmps63
    go_wp2_with fail
    go_ret
    exact ⟨rfl, rfl⟩
  · have hb : b = false := by rw [← H.out]; unfold wordc; simp; omega
    subst hb
    clear H
    have p0 : ¬ (97 : Int) ≤ (c.toNat : Int) := by omega
    have d0 : decide ((97 : Int) ≤ (c.toNat : Int)) = false := decide_eq_false p0
    have p1 : (c.toNat : Int) ≤ 122 := by omega
    have d1 : decide ((c.toNat : Int) ≤ 122) = true := decide_eq_true p1
    have p2 : ¬ (48 : Int) ≤ (c.toNat : Int) := by omega
    have d2 : decide ((48 : Int) ≤ (c.toNat : Int)) = false := decide_eq_false p2
    have p3 : (c.toNat : Int) ≤ 57 := by omega
    have d3 : decide ((c.toNat : Int) ≤ 57) = true := decide_eq_true p3
    have e46 : ((c.toNat : Int) == 46) = false := beq_of (by omega)
    have f46 : ((c.toNat : Int) != 46) = true := bne_of (by omega)
    have g46 : ¬ (c.toNat : Int) = 46 := by omega
    have e95 : ((c.toNat : Int) == 95) = false := beq_of (by omega)
    have f95 : ((c.toNat : Int) != 95) = true := bne_of (by omega)
    have g95 : ¬ (c.toNat : Int) = 95 := by omega
    clear hc
    go_enter Tryd.func63, Tryd.ntmps63
    go_wp2_with fail
    go_ret
    exact ⟨rfl, rfl⟩
  · have hb : b = true := by rw [← H.out]; unfold wordc; simp; omega
    subst hb
    clear H
    have p0 : ¬ (97 : Int) ≤ (c.toNat : Int) := by omega
    have d0 : decide ((97 : Int) ≤ (c.toNat : Int)) = false := decide_eq_false p0
    have p1 : (c.toNat : Int) ≤ 122 := by omega
    have d1 : decide ((c.toNat : Int) ≤ 122) = true := decide_eq_true p1
    have p2 : (48 : Int) ≤ (c.toNat : Int) := by omega
    have d2 : decide ((48 : Int) ≤ (c.toNat : Int)) = true := decide_eq_true p2
    have p3 : (c.toNat : Int) ≤ 57 := by omega
    have d3 : decide ((c.toNat : Int) ≤ 57) = true := decide_eq_true p3
    have e46 : ((c.toNat : Int) == 46) = false := beq_of (by omega)
    have f46 : ((c.toNat : Int) != 46) = true := bne_of (by omega)
    have g46 : ¬ (c.toNat : Int) = 46 := by omega
    have e95 : ((c.toNat : Int) == 95) = false := beq_of (by omega)
    have f95 : ((c.toNat : Int) != 95) = true := bne_of (by omega)
    have g95 : ¬ (c.toNat : Int) = 95 := by omega
    clear hc
    go_enter Tryd.func63, Tryd.ntmps63
    go_wp2_with fail
    go_ret
    exact ⟨rfl, rfl⟩
  · have hb : b = false := by rw [← H.out]; unfold wordc; simp; omega
    subst hb
    clear H
    have p0 : ¬ (97 : Int) ≤ (c.toNat : Int) := by omega
    have d0 : decide ((97 : Int) ≤ (c.toNat : Int)) = false := decide_eq_false p0
    have p1 : (c.toNat : Int) ≤ 122 := by omega
    have d1 : decide ((c.toNat : Int) ≤ 122) = true := decide_eq_true p1
    have p2 : (48 : Int) ≤ (c.toNat : Int) := by omega
    have d2 : decide ((48 : Int) ≤ (c.toNat : Int)) = true := decide_eq_true p2
    have p3 : ¬ (c.toNat : Int) ≤ 57 := by omega
    have d3 : decide ((c.toNat : Int) ≤ 57) = false := decide_eq_false p3
    have e46 : ((c.toNat : Int) == 46) = false := beq_of (by omega)
    have f46 : ((c.toNat : Int) != 46) = true := bne_of (by omega)
    have g46 : ¬ (c.toNat : Int) = 46 := by omega
    have e95 : ((c.toNat : Int) == 95) = false := beq_of (by omega)
    have f95 : ((c.toNat : Int) != 95) = true := bne_of (by omega)
    have g95 : ¬ (c.toNat : Int) = 95 := by omega
    clear hc
    go_enter Tryd.func63, Tryd.ntmps63
    go_wp2_with fail
    go_ret
    exact ⟨rfl, rfl⟩
  · have hb : b = true := by rw [← H.out]; unfold wordc; simp; omega
    subst hb
    clear H

    go_enter Tryd.func63, Tryd.ntmps63
    go_wp2_with fail
    go_ret
    exact ⟨rfl, rfl⟩
  · have hb : b = false := by rw [← H.out]; unfold wordc; simp; omega
    subst hb
    clear H
    have p0 : (97 : Int) ≤ (c.toNat : Int) := by omega
    have d0 : decide ((97 : Int) ≤ (c.toNat : Int)) = true := decide_eq_true p0
    have p1 : ¬ (c.toNat : Int) ≤ 122 := by omega
    have d1 : decide ((c.toNat : Int) ≤ 122) = false := decide_eq_false p1
    have p2 : (48 : Int) ≤ (c.toNat : Int) := by omega
    have d2 : decide ((48 : Int) ≤ (c.toNat : Int)) = true := decide_eq_true p2
    have p3 : ¬ (c.toNat : Int) ≤ 57 := by omega
    have d3 : decide ((c.toNat : Int) ≤ 57) = false := decide_eq_false p3
    have e46 : ((c.toNat : Int) == 46) = false := beq_of (by omega)
    have f46 : ((c.toNat : Int) != 46) = true := bne_of (by omega)
    have g46 : ¬ (c.toNat : Int) = 46 := by omega
    have e95 : ((c.toNat : Int) == 95) = false := beq_of (by omega)
    have f95 : ((c.toNat : Int) != 95) = true := bne_of (by omega)
    have g95 : ¬ (c.toNat : Int) = 95 := by omega
    clear hc
    go_enter Tryd.func63, Tryd.ntmps63
    go_wp2_with fail
    go_ret
    exact ⟨rfl, rfl⟩
set_option maxHeartbeats 2000000 in
theorem isWord_b (s : ByteArray) (b : Bool) (H : Hid (isW s = b)) (w : World) :
    Calls Tryd.prog 85 #[.string s] w fun e w' => e = .returned (.bool b) ∧ w = w' := by
  cases h1 : (s.toList == [44]) <;> cases h2 : (s.toList == [60])
  all_goals
    have hb := H.out
    unfold isW at hb
    rw [h1, h2] at hb
    simp only [Bool.not_true, Bool.not_false, Bool.and_true, Bool.and_false] at hb
    subst hb
    clear H
    go_enter Tryd.func85, Tryd.ntmps85
    go_wp2_with fail
    go_ret
    exact ⟨rfl, rfl⟩
set_option maxHeartbeats 2000000 in
theorem risWord_b (s : ByteArray) (b : Bool) (H : Hid (isW s = b)) (w : World) :
    Calls Tryd.prog 64 #[.string s] w fun e w' => e = .returned (.bool b) ∧ w = w' := by
  cases h1 : (s.toList == [44]) <;> cases h2 : (s.toList == [60])
  all_goals
    have hb := H.out
    unfold isW at hb
    rw [h1, h2] at hb
    simp only [Bool.not_true, Bool.not_false, Bool.and_true, Bool.and_false] at hb
    subst hb
    clear H
    go_enter Tryd.func64, Tryd.ntmps64
    go_wp2_with fail
    go_ret
    exact ⟨rfl, rfl⟩
end Go.Proofs.YtnipigninbeplaaDoor
