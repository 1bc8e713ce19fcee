/-
  The walks over the models' lists and their checks.
-/
import Derived.Test.YthlhicegchkjjaaGreatDoorCoB
import Derived.StillTailTactics
namespace Go.Proofs.YthlhicegchkjjaaGreatDoor
open Go.RowKit
theorem forall13 {P : Nat → Prop} (h0 : P 0) (h1 : P 1) (h2 : P 2) (h3 : P 3) (h4 : P 4) (h5 : P 5) (h6 : P 6) (h7 : P 7) (h8 : P 8) (h9 : P 9) (h10 : P 10) (h11 : P 11) (h12 : P 12) : ∀ j, j < 13 → P j
  | 0, _ => h0 | 1, _ => h1 | 2, _ => h2 | 3, _ => h3 | 4, _ => h4 | 5, _ => h5 | 6, _ => h6 | 7, _ => h7 | 8, _ => h8 | 9, _ => h9 | 10, _ => h10 | 11, _ => h11 | 12, _ => h12 | n + 13, h => by omega
/-- A slice that reads as the entries of a model. -/
def LC (W : World) (v : Value) (C : CM) : Prop := ∃ g f cap, v = .slice (some ⟨g, f, none⟩) 13 cap ∧ g < W.heap.size ∧ ∀ j, j < 13 → W.cell? ⟨g, f + j, none⟩ = some (.int .i64 (C.get j))
theorem LC.next {W W' : World} {v : Value} {C : CM} (h : LC W v C) (hb : Below W.heap.size W W') : LC W' v C := by
  obtain ⟨g, f, cap, rfl, hg, hc⟩ := h
  exact ⟨g, f, cap, rfl, Nat.lt_of_lt_of_le hg hb.size, fun j hj => (hb.cell (p := ⟨g, _, none⟩) hg).trans (hc j hj)⟩
set_option maxHeartbeats 1000000 in
theorem rlist_b (C : CM) (w : World) :
    Calls Tryz.prog 13 #[.agg #[.int .i64 C.c0, .int .i64 C.c1, .int .i64 C.c2, .int .i64 C.c3, .int .i64 C.c4, .int .i64 C.c5, .int .i64 C.c6, .int .i64 C.c7, .int .i64 C.c8, .int .i64 C.c9, .int .i64 C.c10, .int .i64 C.c11, .int .i64 C.c12]] w fun e w' => (∃ v, e = .returned v ∧ LC w' v C) ∧ Below w.heap.size w w' := by
  go_enter Tryz.func13, Tryz.ntmps13
  go_wp2_with fail
  go_ret
  refine ⟨⟨_, rfl, _, _, _, rfl, ?_, forall13 ?_ ?_ ?_ ?_ ?_ ?_ ?_ ?_ ?_ ?_ ?_ ?_ ?_⟩, ?_⟩
  rotate_right
  · (repeat' (first | exact Below.refl _ _ | refine Below.drew ?_ | refine below_drewN ?_ _ | refine Below.alloc ?_ (by simp; try omega) _ | refine Below.setCell ?_ (by simp; try omega) _))
  all_goals simp [CM.get]
theorem arr_at (C : CM) : ∀ k : Nat, k < 13 → ∀ w, (Instr.index 49 (.agg #[.int .i64 C.c0, .int .i64 C.c1, .int .i64 C.c2, .int .i64 C.c3, .int .i64 C.c4, .int .i64 C.c5, .int .i64 C.c6, .int .i64 C.c7, .int .i64 C.c8, .int .i64 C.c9, .int .i64 C.c10, .int .i64 C.c11, .int .i64 C.c12]) (.int .i64 k)).run Tryz.prog w = .ok (.int .i64 (C.get k)) w :=
  forall13 (fun _ => by kernel_rfl) (fun _ => by kernel_rfl) (fun _ => by kernel_rfl) (fun _ => by kernel_rfl) (fun _ => by kernel_rfl) (fun _ => by kernel_rfl) (fun _ => by kernel_rfl) (fun _ => by kernel_rfl) (fun _ => by kernel_rfl) (fun _ => by kernel_rfl) (fun _ => by kernel_rfl) (fun _ => by kernel_rfl) (fun _ => by kernel_rfl)
set_option maxHeartbeats 1000000 in
theorem check_b (C : CM) (r : Int) (H : Hid (C.chk = r)) (w : World) :
    Calls Tryz.prog 19 #[.agg #[.int .i64 C.c0, .int .i64 C.c1, .int .i64 C.c2, .int .i64 C.c3, .int .i64 C.c4, .int .i64 C.c5, .int .i64 C.c6, .int .i64 C.c7, .int .i64 C.c8, .int .i64 C.c9, .int .i64 C.c10, .int .i64 C.c11, .int .i64 C.c12]] w fun e w' => e = .returned (.int .i64 r) ∧ Below w.heap.size w w' := by
  go_enter Tryz.func19, Tryz.ntmps19
  go_wp2_with fail
  refine (unpack_b C _).mono ?_
  rintro e w1 ⟨rfl, hb1⟩
  have HB := Lib.hid ((boxC_below w C).trans (hb1.mono (boxC_below w C).size))
  clear hb1
  go_wp2_with fail
  go_loop [7] (fun v => ∃ k : Nat, k ≤ 13 ∧ v = .int .i64 k ∧ Hid (∀ j, j < k → 0 ≤ C.get j ∧ C.get j ≤ 100)) (fun v => 13 - (intOf v).toNat)
  case atStart => exact ⟨0, by omega, rfl, fun j hj => absurd hj (by omega)⟩
  case round =>
    obtain ⟨k, hk, rfl, HK⟩ := hrel
    by_cases hlt : k < 13
    · have hi := arr_at C k hlt
      obtain ⟨x, hx⟩ : ∃ x, x = C.get k := ⟨_, rfl⟩
      rw [← hx] at hi
      by_cases h0 : x < 0
      · have hr : r = 3 := by rw [← H.out]; exact CM.chk_bad hlt (.inl (by rw [← hx]; exact h0))
        subst hr
        clear H HK hx
        go_wp2_with fail
        go_ret
        exact ⟨rfl, HB.out⟩
      by_cases h1 : 100 < x
      · have hr : r = 3 := by rw [← H.out]; exact CM.chk_bad hlt (.inr (by rw [← hx]; exact h1))
        subst hr
        clear H HK hx
        go_wp2_with fail
        go_ret
        exact ⟨rfl, HB.out⟩
      have HS : Hid (∀ j, j < k + 1 → 0 ≤ C.get j ∧ C.get j ≤ 100) := by
        intro j hj
        by_cases hjk : j = k
        · subst hjk; rw [← hx]; omega
        · exact HK.out j (by omega)
      clear HK hx
      have h0' : 0 ≤ x := by omega
      have h1' : x ≤ 100 := by omega
      go_wp2_with fail
      go_round
      case rel => exact ⟨k + 1, by omega, by go_num, HS⟩
      case measure => simp [intOf]; omega
    · obtain rfl : 13 = k := by omega
      have hr : r = 0 := by rw [← H.out]; exact CM.chk_ok HK.out
      subst hr
      clear H HK
      go_wp2_with fail
      go_ret
      exact ⟨rfl, HB.out⟩
set_option maxHeartbeats 1000000 in
theorem rcheckC_b (C : CM) (r : Int) (H : Hid (C.chk = r)) (w : World) :
    Calls Tryz.prog 10 #[.agg #[.int .i64 C.c0, .int .i64 C.c1, .int .i64 C.c2, .int .i64 C.c3, .int .i64 C.c4, .int .i64 C.c5, .int .i64 C.c6, .int .i64 C.c7, .int .i64 C.c8, .int .i64 C.c9, .int .i64 C.c10, .int .i64 C.c11, .int .i64 C.c12]] w fun e w' => e = .returned (.int .i64 r) ∧ Below w.heap.size w w' := by
  go_enter Tryz.func10, Tryz.ntmps10
  go_wp2_with fail
  refine (rlist_b C _).mono ?_
  rintro e w1 ⟨⟨v, rfl, g, f, cap, rfl, hg, hcell⟩, hb1⟩
  have HC := Lib.hid hcell
  have HB := Lib.hid ((boxC_below w C).trans (hb1.mono (boxC_below w C).size))
  clear hb1 hcell
  go_wp2_with fail
  go_loop [4] (fun v => ∃ k : Nat, k ≤ 13 ∧ v = .int .i64 k ∧ Hid (∀ j, j < k → 0 ≤ C.get j ∧ C.get j ≤ 100)) (fun v => 13 - (intOf v).toNat)
  case atStart => exact ⟨0, by omega, rfl, fun j hj => absurd hj (by omega)⟩
  case round =>
    obtain ⟨k, hk, rfl, HK⟩ := hrel
    by_cases hlt : k < 13
    · have hi := HC.out k hlt
      obtain ⟨x, hx⟩ : ∃ x, x = C.get k := ⟨_, rfl⟩
      rw [← hx] at hi
      by_cases h0 : x < 0
      · have hr : r = 3 := by rw [← H.out]; exact CM.chk_bad hlt (.inl (by rw [← hx]; exact h0))
        subst hr
        clear H HK hx
        go_wp2_with fail
        go_ret
        exact ⟨rfl, HB.out⟩
      by_cases h1 : 100 < x
      · have hr : r = 3 := by rw [← H.out]; exact CM.chk_bad hlt (.inr (by rw [← hx]; exact h1))
        subst hr
        clear H HK hx
        go_wp2_with fail
        go_ret
        exact ⟨rfl, HB.out⟩
      have HS : Hid (∀ j, j < k + 1 → 0 ≤ C.get j ∧ C.get j ≤ 100) := by
        intro j hj
        by_cases hjk : j = k
        · subst hjk; rw [← hx]; omega
        · exact HK.out j (by omega)
      clear HK hx
      have h0' : 0 ≤ x := by omega
      have h1' : x ≤ 100 := by omega
      go_wp2_with fail
      go_round
      case rel => exact ⟨k + 1, by omega, by go_num, HS⟩
      case measure => simp [intOf]; omega
    · obtain rfl : 13 = k := by omega
      have hr : r = 0 := by rw [← H.out]; exact CM.chk_ok HK.out
      subst hr
      clear H HK
      go_wp2_with fail
      go_ret
      exact ⟨rfl, HB.out⟩
end Go.Proofs.YthlhicegchkjjaaGreatDoor
