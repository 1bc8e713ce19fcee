/-
  The walks over the models' lists and their checks.
-/
import Derived.Test.YthlhicegchkjjaaCoB
import Derived.StillTailTactics
namespace Go.Proofs.Ythlhicegchkjjaa
open Go.RowKit

theorem forall13 {P : Nat → Prop} (h0 : P 0) (h1 : P 1) (h2 : P 2) (h3 : P 3) (h4 : P 4) (h5 : P 5) (h6 : P 6) (h7 : P 7) (h8 : P 8) (h9 : P 9) (h10 : P 10) (h11 : P 11) (h12 : P 12) : ∀ j, j < 13 → P j
  | 0, _ => h0 | 1, _ => h1 | 2, _ => h2 | 3, _ => h3 | 4, _ => h4 | 5, _ => h5 | 6, _ => h6 | 7, _ => h7 | 8, _ => h8 | 9, _ => h9 | 10, _ => h10 | 11, _ => h11 | 12, _ => h12 | n + 13, h => by omega
/-- A slice that reads as the entries of a model. -/
def LC (W : World) (v : Value) (C : CM) : Prop := ∃ g f cap, v = .slice (some ⟨g, f, none⟩) 13 cap ∧ g < W.heap.size ∧ ∀ j, j < 13 → W.cell? ⟨g, f + j, none⟩ = some (.int .i64 (C.get j))
theorem LC.next {W W' : World} {v : Value} {C : CM} (h : LC W v C) (hb : Below W.heap.size W W') : LC W' v C := by
  obtain ⟨g, f, cap, rfl, hg, hc⟩ := h
  exact ⟨g, f, cap, rfl, Nat.lt_of_lt_of_le hg hb.size, fun j hj => (hb.cell (p := ⟨g, _, none⟩) hg).trans (hc j hj)⟩
def CM.lst (C : CM) : List Int := [C.c0, C.c1, C.c2, C.c3, C.c4, C.c5, C.c6, C.c7, C.c8, C.c9, C.c10, C.c11, C.c12]
theorem CM.lst_get (C : CM) : ∀ j, j < 13 → C.lst.getD j 0 = C.get j := forall13 rfl rfl rfl rfl rfl rfl rfl rfl rfl rfl rfl rfl rfl
theorem CM.lst_val (C : CM) : ∀ j, j < 13 → (C.lst.map (Value.int .i64))[j]? = some (.int .i64 (C.get j)) := forall13 rfl rfl rfl rfl rfl rfl rfl rfl rfl rfl rfl rfl rfl
theorem own_LC {W : World} {B : Nat} {v : Value} {C : CM} (h : W.ownsRow B 3 1 v 13 (C.lst.map (Value.int .i64))) : LC W v C := by
  have h' := h
  rcases h.2 with ⟨_, h0⟩ | ⟨g, cap, cur, rfl, _, hh, _⟩
  · omega
  · refine ⟨g, 0, cap, rfl, lt_of_block hh, fun j hj => ?_⟩
    rw [Nat.zero_add, h'.cellAt j (by omega)]
    exact C.lst_val j hj
theorem alloc_CL (w : World) (C : CM) (T : TypeId) : ∀ j, j < 13 → (w.alloc (.cells #[.int .i64 C.c0, .int .i64 C.c1, .int .i64 C.c2, .int .i64 C.c3, .int .i64 C.c4, .int .i64 C.c5, .int .i64 C.c6, .int .i64 C.c7, .int .i64 C.c8, .int .i64 C.c9, .int .i64 C.c10, .int .i64 C.c11, .int .i64 C.c12] T)).cell? ⟨w.heap.size, 0 + j, none⟩ = some (.int .i64 (C.get j)) := by
  refine forall13 ?_ ?_ ?_ ?_ ?_ ?_ ?_ ?_ ?_ ?_ ?_ ?_ ?_ <;> simp [CM.get]

set_option maxHeartbeats 1000000 in
theorem rlist_b (C : CM) (w : World) :
    Calls Try.prog 26 #[.agg #[.int .i64 C.c0, .int .i64 C.c1, .int .i64 C.c2, .int .i64 C.c3, .int .i64 C.c4, .int .i64 C.c5, .int .i64 C.c6, .int .i64 C.c7, .int .i64 C.c8, .int .i64 C.c9, .int .i64 C.c10, .int .i64 C.c11, .int .i64 C.c12]] w fun e w' => (∃ v, e = .returned v ∧ LC w' v C) ∧ Below w.heap.size w w' := by
  go_enter Try.func26, Try.ntmps26
  go_wp2_with fail
  go_ret
  refine ⟨⟨_, rfl, _, _, _, rfl, ?_, forall13 ?_ ?_ ?_ ?_ ?_ ?_ ?_ ?_ ?_ ?_ ?_ ?_ ?_⟩, ?_⟩
  rotate_right
  · (repeat' (first | exact Below.refl _ _ | refine Below.drew ?_ | refine below_drewN ?_ _ | refine Below.alloc ?_ (by simp; try omega) _ | refine Below.setCell ?_ (by simp; try omega) _))
  all_goals simp [CM.get]

set_option maxHeartbeats 1000000 in
theorem list_b (C : CM) (w : World) :
    Calls Try.prog 25 #[.agg #[.int .i64 C.c0, .int .i64 C.c1, .int .i64 C.c2, .int .i64 C.c3, .int .i64 C.c4, .int .i64 C.c5, .int .i64 C.c6, .int .i64 C.c7, .int .i64 C.c8, .int .i64 C.c9, .int .i64 C.c10, .int .i64 C.c11, .int .i64 C.c12]] w fun e w' => (∃ v, e = .returned v ∧ LC w' v C) ∧ Below w.heap.size w w' := by
  go_enter Try.func25, Try.ntmps25
  go_wp2_with fail
  refine (unpack_b C _).mono ?_
  rintro e w1 ⟨rfl, hb1⟩
  have HB := Lib.hid ((boxC_below w C).trans (hb1.mono (boxC_below w C).size))
  clear hb1
  go_wp2_with fail
  refine (Try.slices_Clone_int w1.heap.size 0 13 13 C.lst _ (by simp [CM.lst]) (by omega) ?_).mono ?_
  · intro j hj
    have hj' : j < 13 := hj
    rw [CM.lst_get C j hj']
    exact alloc_CL w1 C _ j hj'
  rintro e w2 ⟨v, rfl, hown, _, hb2⟩
  have HC : Hid (LC w2 v C) := own_LC hown
  have HD : Hid (Below w.heap.size w w2) := Below.trans (by (repeat' (first | exact HB.out | refine Below.alloc ?_ (by have := HB.out.size; omega) _))) (hb2.mono (by have := HB.out.size; simp; omega))
  clear hown hb2
  go_wp2_with fail
  go_ret
  exact ⟨⟨_, rfl, HC.out⟩, HD.out⟩

theorem arr_at (C : CM) : ∀ k : Nat, k < 13 → ∀ w, (Instr.index 60 (.agg #[.int .i64 C.c0, .int .i64 C.c1, .int .i64 C.c2, .int .i64 C.c3, .int .i64 C.c4, .int .i64 C.c5, .int .i64 C.c6, .int .i64 C.c7, .int .i64 C.c8, .int .i64 C.c9, .int .i64 C.c10, .int .i64 C.c11, .int .i64 C.c12]) (.int .i64 k)).run Try.prog w = .ok (.int .i64 (C.get k)) w :=
  forall13 (fun _ => by kernel_rfl) (fun _ => by kernel_rfl) (fun _ => by kernel_rfl) (fun _ => by kernel_rfl) (fun _ => by kernel_rfl) (fun _ => by kernel_rfl) (fun _ => by kernel_rfl) (fun _ => by kernel_rfl) (fun _ => by kernel_rfl) (fun _ => by kernel_rfl) (fun _ => by kernel_rfl) (fun _ => by kernel_rfl) (fun _ => by kernel_rfl)

set_option maxHeartbeats 1000000 in
theorem check_b (C : CM) (r : Int) (H : Hid (C.chk = r)) (w : World) :
    Calls Try.prog 21 #[.agg #[.int .i64 C.c0, .int .i64 C.c1, .int .i64 C.c2, .int .i64 C.c3, .int .i64 C.c4, .int .i64 C.c5, .int .i64 C.c6, .int .i64 C.c7, .int .i64 C.c8, .int .i64 C.c9, .int .i64 C.c10, .int .i64 C.c11, .int .i64 C.c12]] w fun e w' => e = .returned (.int .i64 r) ∧ Below w.heap.size w w' := by
  go_enter Try.func21, Try.ntmps21
  go_wp2_with fail
  refine (unpack_b C _).mono ?_
  rintro e w1 ⟨rfl, hb1⟩
  have HB := Lib.hid ((boxC_below w C).trans (hb1.mono (boxC_below w C).size))
  clear hb1
  go_wp2_with fail
  go_loop [7] (fun v => ∃ k : Nat, k ≤ 13 ∧ v = .int .i64 k ∧ Hid (∀ j, j < k → 0 ≤ C.get j ∧ C.get j ≤ 100)) (fun v => 13 - (intOf v).toNat)
  case atStart => exact ⟨0, by omega, rfl, fun j hj => absurd hj (by omega)⟩
  case round =>
    obtain ⟨k, hk, rfl, HK⟩ := hrel
    by_cases hlt : k < 13
    · have hi := arr_at C k hlt
      obtain ⟨x, hx⟩ : ∃ x, x = C.get k := ⟨_, rfl⟩
      rw [← hx] at hi
      by_cases h0 : x < 0
      · have hr : r = 3 := by rw [← H.out]; exact CM.chk_bad hlt (.inl (by rw [← hx]; exact h0))
        subst hr
        clear H HK hx
        go_wp2_with fail
        go_ret
        exact ⟨rfl, HB.out⟩
      by_cases h1 : 100 < x
      · have hr : r = 3 := by rw [← H.out]; exact CM.chk_bad hlt (.inr (by rw [← hx]; exact h1))
        subst hr
        clear H HK hx
        go_wp2_with fail
        go_ret
        exact ⟨rfl, HB.out⟩
      have HS : Hid (∀ j, j < k + 1 → 0 ≤ C.get j ∧ C.get j ≤ 100) := by
        intro j hj
        by_cases hjk : j = k
        · subst hjk; rw [← hx]; omega
        · exact HK.out j (by omega)
      clear HK hx
      have h0' : 0 ≤ x := by omega
      have h1' : x ≤ 100 := by omega
      go_wp2_with fail
      go_round
      case rel => exact ⟨k + 1, by omega, by go_num, HS⟩
      case measure => simp [intOf]; omega
    · obtain rfl : 13 = k := by omega
      have hr : r = 0 := by rw [← H.out]; exact CM.chk_ok HK.out
      subst hr
      clear H HK
      go_wp2_with fail
      go_ret
      exact ⟨rfl, HB.out⟩

set_option maxHeartbeats 1000000 in
theorem rcheckC_b (C : CM) (r : Int) (H : Hid (C.chk = r)) (w : World) :
    Calls Try.prog 15 #[.agg #[.int .i64 C.c0, .int .i64 C.c1, .int .i64 C.c2, .int .i64 C.c3, .int .i64 C.c4, .int .i64 C.c5, .int .i64 C.c6, .int .i64 C.c7, .int .i64 C.c8, .int .i64 C.c9, .int .i64 C.c10, .int .i64 C.c11, .int .i64 C.c12]] w fun e w' => e = .returned (.int .i64 r) ∧ Below w.heap.size w w' := by
  go_enter Try.func15, Try.ntmps15
  go_wp2_with fail
  refine (rlist_b C _).mono ?_
  rintro e w1 ⟨⟨v, rfl, g, f, cap, rfl, hg, hcell⟩, hb1⟩
  have HC := Lib.hid hcell
  have HB := Lib.hid ((boxC_below w C).trans (hb1.mono (boxC_below w C).size))
  clear hb1 hcell
  go_wp2_with fail
  go_loop [4] (fun v => ∃ k : Nat, k ≤ 13 ∧ v = .int .i64 k ∧ Hid (∀ j, j < k → 0 ≤ C.get j ∧ C.get j ≤ 100)) (fun v => 13 - (intOf v).toNat)
  case atStart => exact ⟨0, by omega, rfl, fun j hj => absurd hj (by omega)⟩
  case round =>
    obtain ⟨k, hk, rfl, HK⟩ := hrel
    by_cases hlt : k < 13
    · have hi := HC.out k hlt
      obtain ⟨x, hx⟩ : ∃ x, x = C.get k := ⟨_, rfl⟩
      rw [← hx] at hi
      by_cases h0 : x < 0
      · have hr : r = 3 := by rw [← H.out]; exact CM.chk_bad hlt (.inl (by rw [← hx]; exact h0))
        subst hr
        clear H HK hx
        go_wp2_with fail
        go_ret
        exact ⟨rfl, HB.out⟩
      by_cases h1 : 100 < x
      · have hr : r = 3 := by rw [← H.out]; exact CM.chk_bad hlt (.inr (by rw [← hx]; exact h1))
        subst hr
        clear H HK hx
        go_wp2_with fail
        go_ret
        exact ⟨rfl, HB.out⟩
      have HS : Hid (∀ j, j < k + 1 → 0 ≤ C.get j ∧ C.get j ≤ 100) := by
        intro j hj
        by_cases hjk : j = k
        · subst hjk; rw [← hx]; omega
        · exact HK.out j (by omega)
      clear HK hx
      have h0' : 0 ≤ x := by omega
      have h1' : x ≤ 100 := by omega
      go_wp2_with fail
      go_round
      case rel => exact ⟨k + 1, by omega, by go_num, HS⟩
      case measure => simp [intOf]; omega
    · obtain rfl : 13 = k := by omega
      have hr : r = 0 := by rw [← H.out]; exact CM.chk_ok HK.out
      subst hr
      clear H HK
      go_wp2_with fail
      go_ret
      exact ⟨rfl, HB.out⟩
end Go.Proofs.Ythlhicegchkjjaa
