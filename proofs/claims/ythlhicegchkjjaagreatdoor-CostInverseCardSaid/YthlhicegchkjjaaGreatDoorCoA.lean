/-
  The walks over the cost of a node, and over the models' small functions.
-/
import Derived.Test.YthlhicegchkjjaaGreatDoorCoP
import Derived.Test.YthlhicegchkjjaaGreatDoorEtA
import Derived.Test.YthlhicegchkjjaaGreatDoorShelf
import Derived.Handy
namespace Go.Proofs.YthlhicegchkjjaaGreatDoor
open Go.RowKit
/-- The world behind the entry of a function that takes a model. -/
def boxC (w : World) (C : CM) : World := w.alloc (.cells #[.int .i64 C.c0, .int .i64 C.c1, .int .i64 C.c2, .int .i64 C.c3, .int .i64 C.c4, .int .i64 C.c5, .int .i64 C.c6, .int .i64 C.c7, .int .i64 C.c8, .int .i64 C.c9, .int .i64 C.c10, .int .i64 C.c11, .int .i64 C.c12] 23)
theorem boxC_below (w : World) (C : CM) : Below w.heap.size w (boxC w C) := (Below.refl _ _).alloc (Nat.le_refl _) _
set_option maxHeartbeats 1000000 in
theorem node_b (C : CM) (o r : Int) (H : Hid (C.node o = r)) (w : World) :
    Calls Tryz.prog 58 #[.agg #[.int .i64 C.c0, .int .i64 C.c1, .int .i64 C.c2, .int .i64 C.c3, .int .i64 C.c4, .int .i64 C.c5, .int .i64 C.c6, .int .i64 C.c7, .int .i64 C.c8, .int .i64 C.c9, .int .i64 C.c10, .int .i64 C.c11, .int .i64 C.c12], .int .i64 o] w fun e w' => e = .returned (.int .i64 r) ∧ Below w.heap.size w w' := by
  by_cases h3 : o = 3
  · subst h3
    obtain rfl : C.c6 = r := by rw [← H.out]; simp [CM.node]
    clear H
    go_enter Tryz.func58, Tryz.ntmps58
    go_wp2_with fail
    go_ret
    exact ⟨rfl, boxC_below w C⟩
  by_cases h5 : o = 5
  · subst h5
    obtain rfl : C.c7 = r := by rw [← H.out]; simp [CM.node]
    clear H
    go_enter Tryz.func58, Tryz.ntmps58
    go_wp2_with fail
    go_ret
    exact ⟨rfl, boxC_below w C⟩
  by_cases h6 : o = 6
  · subst h6
    obtain rfl : C.c8 = r := by rw [← H.out]; simp [CM.node]
    clear H
    go_enter Tryz.func58, Tryz.ntmps58
    go_wp2_with fail
    go_ret
    exact ⟨rfl, boxC_below w C⟩
  by_cases h7 : o = 7
  · subst h7
    obtain rfl : C.c12 = r := by rw [← H.out]; simp [CM.node]
    clear H
    go_enter Tryz.func58, Tryz.ntmps58
    go_wp2_with fail
    go_ret
    exact ⟨rfl, boxC_below w C⟩
  by_cases h8 : o = 8
  · subst h8
    obtain rfl : C.c8 = r := by rw [← H.out]; simp [CM.node]
    clear H
    go_enter Tryz.func58, Tryz.ntmps58
    go_wp2_with fail
    go_ret
    exact ⟨rfl, boxC_below w C⟩
  by_cases h9 : o = 9
  · subst h9
    obtain rfl : C.c8 = r := by rw [← H.out]; simp [CM.node]
    clear H
    go_enter Tryz.func58, Tryz.ntmps58
    go_wp2_with fail
    go_ret
    exact ⟨rfl, boxC_below w C⟩
  by_cases h10 : o = 10
  · subst h10
    obtain rfl : C.c9 = r := by rw [← H.out]; simp [CM.node]
    clear H
    go_enter Tryz.func58, Tryz.ntmps58
    go_wp2_with fail
    go_ret
    exact ⟨rfl, boxC_below w C⟩
  by_cases h11 : o = 11
  · subst h11
    obtain rfl : C.c10 = r := by rw [← H.out]; simp [CM.node]
    clear H
    go_enter Tryz.func58, Tryz.ntmps58
    go_wp2_with fail
    go_ret
    exact ⟨rfl, boxC_below w C⟩
  by_cases h12 : o = 12
  · subst h12
    obtain rfl : C.c10 = r := by rw [← H.out]; simp [CM.node]
    clear H
    go_enter Tryz.func58, Tryz.ntmps58
    go_wp2_with fail
    go_ret
    exact ⟨rfl, boxC_below w C⟩
  by_cases h13 : o = 13
  · subst h13
    obtain rfl : C.c11 = r := by rw [← H.out]; simp [CM.node]
    clear H
    go_enter Tryz.func58, Tryz.ntmps58
    go_wp2_with fail
    go_ret
    exact ⟨rfl, boxC_below w C⟩
  by_cases h14 : o = 14
  · subst h14
    obtain rfl : C.c11 = r := by rw [← H.out]; simp [CM.node]
    clear H
    go_enter Tryz.func58, Tryz.ntmps58
    go_wp2_with fail
    go_ret
    exact ⟨rfl, boxC_below w C⟩
  by_cases h15 : o = 15
  · subst h15
    obtain rfl : C.c11 = r := by rw [← H.out]; simp [CM.node]
    clear H
    go_enter Tryz.func58, Tryz.ntmps58
    go_wp2_with fail
    go_ret
    exact ⟨rfl, boxC_below w C⟩
  by_cases h16 : o = 16
  · subst h16
    obtain rfl : C.c11 = r := by rw [← H.out]; simp [CM.node]
    clear H
    go_enter Tryz.func58, Tryz.ntmps58
    go_wp2_with fail
    go_ret
    exact ⟨rfl, boxC_below w C⟩
  by_cases h17 : o = 17
  · subst h17
    obtain rfl : C.c11 = r := by rw [← H.out]; simp [CM.node]
    clear H
    go_enter Tryz.func58, Tryz.ntmps58
    go_wp2_with fail
    go_ret
    exact ⟨rfl, boxC_below w C⟩
  by_cases h18 : o = 18
  · subst h18
    obtain rfl : C.c11 = r := by rw [← H.out]; simp [CM.node]
    clear H
    go_enter Tryz.func58, Tryz.ntmps58
    go_wp2_with fail
    go_ret
    exact ⟨rfl, boxC_below w C⟩
  by_cases h19 : o = 19
  · subst h19
    obtain rfl : C.c12 = r := by rw [← H.out]; simp [CM.node]
    clear H
    go_enter Tryz.func58, Tryz.ntmps58
    go_wp2_with fail
    go_ret
    exact ⟨rfl, boxC_below w C⟩
  by_cases h20 : o = 20
  · subst h20
    obtain rfl : C.c12 = r := by rw [← H.out]; simp [CM.node]
    clear H
    go_enter Tryz.func58, Tryz.ntmps58
    go_wp2_with fail
    go_ret
    exact ⟨rfl, boxC_below w C⟩
  by_cases h21 : o = 21
  · subst h21
    obtain rfl : C.c8 = r := by rw [← H.out]; simp [CM.node]
    clear H
    go_enter Tryz.func58, Tryz.ntmps58
    go_wp2_with fail
    go_ret
    exact ⟨rfl, boxC_below w C⟩
  by_cases h22 : o = 22
  · subst h22
    obtain rfl : C.c8 = r := by rw [← H.out]; simp [CM.node]
    clear H
    go_enter Tryz.func58, Tryz.ntmps58
    go_wp2_with fail
    go_ret
    exact ⟨rfl, boxC_below w C⟩
  by_cases h23 : o = 23
  · subst h23
    obtain rfl : C.c12 = r := by rw [← H.out]; simp [CM.node]
    clear H
    go_enter Tryz.func58, Tryz.ntmps58
    go_wp2_with fail
    go_ret
    exact ⟨rfl, boxC_below w C⟩
  by_cases h4 : o = 4
  · subst h4
    obtain rfl : 0 = r := by rw [← H.out]; simp [CM.node]
    clear H
    go_enter Tryz.func58, Tryz.ntmps58
    go_wp2_with fail
    go_ret
    exact ⟨rfl, boxC_below w C⟩
  obtain rfl : 0 = r := by
    rw [← H.out]; unfold CM.node
    rw [if_neg h3, if_neg h5, if_neg (by omega), if_neg (by omega), if_neg (by omega), if_neg (by omega), if_neg (by omega)]
  have hc : o < 3 ∨ 23 < o := by omega
  clear H h3 h5 h6 h7 h8 h9 h10 h11 h12 h13 h14 h15 h16 h17 h18 h19 h20 h21 h22 h23 h4
  rcases hc with hc | hc
  all_goals
    go_enter Tryz.func58, Tryz.ntmps58
    go_wp2_with fail
    go_ret
    exact ⟨rfl, boxC_below w C⟩
end Go.Proofs.YthlhicegchkjjaaGreatDoor
