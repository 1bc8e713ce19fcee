/-
  The walks over the reference's Divide, Mod and Binary.
  The walk over the reference's Value.
-/
import Derived.Test.YtjpjmoejdkmglaaGreatJB
import Derived.Test.YtjpjmoejdkmglaaGreatFlQs
import Derived.Test.YtjpjmoejdkmglaaGreatFlL
namespace Go.Proofs.YtjpjmoejdkmglaaGreat
open Go.RowKit

set_option maxHeartbeats 1000000 in
theorem rdivide_b (a b r : Int) (H : Hid (divP a b = r)) (ha : -1048576 ≤ a) (ha' : a ≤ 1048576) (w : World) : Calls Tryz.prog 102 #[.int .i64 a, .int .i64 b] w fun e w' => e = .returned (.int .i64 r) ∧ w = w' := by
  by_cases hb : b = 0
  · subst hb
    have hr : r = 0 := by rw [← H.out]; unfold divP; rw [if_pos rfl]
    subst hr
    clear H
    go_enter Tryz.func102, Tryz.ntmps102
    go_wp2_with fail
    go_ret
    exact ⟨rfl, rfl⟩
  · have hb0 := beq_of hb
    have hr0 : r = if a.tmod b ≠ 0 ∧ ¬ (a < 0 ↔ b < 0) then a.tdiv b - 1 else a.tdiv b := by rw [← H.out]; unfold divP; rw [if_neg hb]
    have hq := tdiv_le a b ha ha'
    obtain ⟨q, hqq⟩ : ∃ q, a.tdiv b = q := ⟨_, rfl⟩
    obtain ⟨t, htt⟩ : ∃ t, a.tmod b = t := ⟨_, rfl⟩
    have hw : IntKind.i64.wrap q = q := by rw [← hqq]; exact IntWalk.i64_in _ (by omega)
    rw [hqq] at hq hr0
    rw [htt] at hr0
    clear H
    by_cases ht : t = 0
    · have hr : r = q := by rw [hr0, if_neg (by rintro ⟨h, _⟩; exact h ht)]
      have htd : (t != 0) = false := by rw [ht]; rfl
      subst hr
      clear hr0 ht
      go_enter Tryz.func102, Tryz.ntmps102
      go_wp2_with fail
      go_ret
      exact ⟨rfl, rfl⟩
    · have htd : (t != 0) = true := bne_of ht
      by_cases hs : a < 0 ↔ b < 0
      · have hr : r = q := by rw [hr0, if_neg (by rintro ⟨_, h⟩; exact h hs)]
        have hsd : (decide (a < 0) == decide (b < 0)) = true := by rw [beq_iff_eq]; exact decide_eq_decide.2 hs
        subst hr
        clear hr0 ht hs
        go_enter Tryz.func102, Tryz.ntmps102
        go_wp2_with fail
        go_ret
        exact ⟨rfl, rfl⟩
      · have hr : r = q - 1 := by rw [hr0, if_pos ⟨ht, hs⟩]
        have hsd : (decide (a < 0) == decide (b < 0)) = false := by
          rw [beq_eq_false_iff_ne]; intro e; exact hs (decide_eq_decide.1 e)
        subst hr
        clear hr0 ht hs
        go_enter Tryz.func102, Tryz.ntmps102
        go_wp2_with fail
        go_ret
        exact ⟨rfl, rfl⟩
set_option maxHeartbeats 1000000 in
theorem rmod_b (a b r : Int) (H : Hid (modP a b = r)) (ha : -1048576 ≤ a) (ha' : a ≤ 1048576) (hb : -1048576 ≤ b) (hb' : b ≤ 1048576) (w : World) : Calls Tryz.prog 103 #[.int .i64 a, .int .i64 b] w fun e w' => e = .returned (.int .i64 r) ∧ w = w' := by
  by_cases h0 : b = 0
  · subst h0
    have hr : r = 0 := by rw [← H.out]; unfold modP; rw [if_pos rfl]
    subst hr
    clear H
    go_enter Tryz.func103, Tryz.ntmps103
    go_wp2_with fail
    go_ret
    exact ⟨rfl, rfl⟩
  · have hb0 := beq_of h0
    obtain ⟨q, hq⟩ : ∃ q, divP a b = q := ⟨_, rfl⟩
    have hqb := div_bound a b ha ha'
    rw [hq] at hqb
    obtain ⟨p, hp⟩ : ∃ p, b * q = p := ⟨_, rfl⟩
    have hpb := mul_bound b q (by omega) (by omega) (by omega) (by omega)
    rw [hp] at hpb
    have hw1 : IntKind.i64.wrap p = p := IntWalk.i64_in _ (by omega)
    have hw2 : IntKind.i64.wrap (a - p) = a - p := IntWalk.i64_in _ (by omega)
    have hr : r = a - p := by rw [← H.out]; unfold modP; rw [if_neg h0, hq, hp]
    have HQ := Lib.hid hq
    subst hr
    clear H hq h0
    go_enter Tryz.func103, Tryz.ntmps103
    go_wp2_with fail
    go_at_call 102
    refine (rdivide_b a b q HQ ha ha' _).mono ?_
    rintro e w2 ⟨rfl, rfl⟩
    go_wp2_with fail
    go_ret
    exact ⟨rfl, rfl⟩
set_option maxHeartbeats 1000000 in
theorem rbin_add (a b r : Int) (H : Hid (binP 8 a b = r)) (ha : -1048576 ≤ a) (ha' : a ≤ 1048576) (hb : -1048576 ≤ b) (hb' : b ≤ 1048576) (w : World) : Calls Tryz.prog 85 #[.int .i64 8, .int .i64 a, .int .i64 b] w fun e w' => e = .returned (.int .i64 r) ∧ w = w' := by
  have hu : True := by have := ha; have := ha'; have := hb; have := hb'; trivial
  clear hu
  have hr : r = a + b := by rw [← H.out]; rfl
  subst hr
  clear H
  go_enter Tryz.func85, Tryz.ntmps85
  go_wp2_with fail
  go_ret
  exact ⟨rfl, rfl⟩
set_option maxHeartbeats 1000000 in
theorem rbin_sub (a b r : Int) (H : Hid (binP 9 a b = r)) (ha : -1048576 ≤ a) (ha' : a ≤ 1048576) (hb : -1048576 ≤ b) (hb' : b ≤ 1048576) (w : World) : Calls Tryz.prog 85 #[.int .i64 9, .int .i64 a, .int .i64 b] w fun e w' => e = .returned (.int .i64 r) ∧ w = w' := by
  have hu : True := by have := ha; have := ha'; have := hb; have := hb'; trivial
  clear hu
  have hr : r = a - b := by rw [← H.out]; rfl
  subst hr
  clear H
  go_enter Tryz.func85, Tryz.ntmps85
  go_wp2_with fail
  go_ret
  exact ⟨rfl, rfl⟩
set_option maxHeartbeats 1000000 in
theorem rbin_mul (a b r : Int) (H : Hid (binP 10 a b = r)) (ha : -1048576 ≤ a) (ha' : a ≤ 1048576) (hb : -1048576 ≤ b) (hb' : b ≤ 1048576) (w : World) : Calls Tryz.prog 85 #[.int .i64 10, .int .i64 a, .int .i64 b] w fun e w' => e = .returned (.int .i64 r) ∧ w = w' := by
  have hu : True := by have := ha; have := ha'; have := hb; have := hb'; trivial
  clear hu
  have hm := mul_bound a b (by omega) (by omega) (by omega) (by omega)
  have hw : IntKind.i64.wrap (a * b) = a * b := IntWalk.i64_in _ (by omega)
  clear hm
  have hr : r = a * b := by rw [← H.out]; rfl
  subst hr
  clear H
  go_enter Tryz.func85, Tryz.ntmps85
  go_wp2_with fail
  go_ret
  exact ⟨ret_int (by first | rfl | exact hw), rfl⟩
set_option maxHeartbeats 1000000 in
theorem rbin_div (a b r : Int) (H : Hid (binP 11 a b = r)) (ha : -1048576 ≤ a) (ha' : a ≤ 1048576) (hb : -1048576 ≤ b) (hb' : b ≤ 1048576) (w : World) : Calls Tryz.prog 85 #[.int .i64 11, .int .i64 a, .int .i64 b] w fun e w' => e = .returned (.int .i64 r) ∧ w = w' := by
  have hu : True := by have := ha; have := ha'; have := hb; have := hb'; trivial
  clear hu
  have H2 : Hid (divP a b = r) := H.out
  clear H
  go_enter Tryz.func85, Tryz.ntmps85
  go_wp2_with fail
  go_at_call 102
  refine (rdivide_b a b r H2 ha ha' _).mono ?_
  rintro e w2 ⟨rfl, rfl⟩
  go_wp2_with fail
  go_ret
  exact ⟨rfl, rfl⟩
set_option maxHeartbeats 1000000 in
theorem rbin_mod (a b r : Int) (H : Hid (binP 12 a b = r)) (ha : -1048576 ≤ a) (ha' : a ≤ 1048576) (hb : -1048576 ≤ b) (hb' : b ≤ 1048576) (w : World) : Calls Tryz.prog 85 #[.int .i64 12, .int .i64 a, .int .i64 b] w fun e w' => e = .returned (.int .i64 r) ∧ w = w' := by
  have hu : True := by have := ha; have := ha'; have := hb; have := hb'; trivial
  clear hu
  have H2 : Hid (modP a b = r) := H.out
  clear H
  go_enter Tryz.func85, Tryz.ntmps85
  go_wp2_with fail
  go_at_call 103
  refine (rmod_b a b r H2 ha ha' hb hb' _).mono ?_
  rintro e w2 ⟨rfl, rfl⟩
  go_wp2_with fail
  go_ret
  exact ⟨rfl, rfl⟩
set_option maxHeartbeats 1000000 in
theorem rbin_eq (a b r : Int) (H : Hid (binP 13 a b = r)) (ha : -1048576 ≤ a) (ha' : a ≤ 1048576) (hb : -1048576 ≤ b) (hb' : b ≤ 1048576) (w : World) : Calls Tryz.prog 85 #[.int .i64 13, .int .i64 a, .int .i64 b] w fun e w' => e = .returned (.int .i64 r) ∧ w = w' := by
  have hu : True := by have := ha; have := ha'; have := hb; have := hb'; trivial
  clear hu
  by_cases h : a = b
  · have hr : r = 1 := by rw [← H.out]; show flagP (decide (a = b)) = _; rw [decide_eq_true h]; rfl
    have hd : (a == b) = true := by rw [beq_iff_eq]; exact h
    have hd2 : (a != b) = false := by rw [h]; simp
    clear h
    subst hr
    clear H
    go_enter Tryz.func85, Tryz.ntmps85
    go_wp2_with fail
    go_at_call 84
    refine (rflag_b _ _).mono ?_
    rintro e w2 ⟨rfl, rfl⟩
    go_wp2_with fail
    go_ret
    exact ⟨rfl, rfl⟩
  · have hr : r = 0 := by rw [← H.out]; show flagP (decide (a = b)) = _; rw [decide_eq_false h]; rfl
    have hd := beq_of h
    have hd2 := bne_of h
    subst hr
    clear H
    go_enter Tryz.func85, Tryz.ntmps85
    go_wp2_with fail
    go_at_call 84
    refine (rflag_b _ _).mono ?_
    rintro e w2 ⟨rfl, rfl⟩
    go_wp2_with fail
    go_ret
    exact ⟨rfl, rfl⟩
set_option maxHeartbeats 1000000 in
theorem rbin_ne (a b r : Int) (H : Hid (binP 14 a b = r)) (ha : -1048576 ≤ a) (ha' : a ≤ 1048576) (hb : -1048576 ≤ b) (hb' : b ≤ 1048576) (w : World) : Calls Tryz.prog 85 #[.int .i64 14, .int .i64 a, .int .i64 b] w fun e w' => e = .returned (.int .i64 r) ∧ w = w' := by
  have hu : True := by have := ha; have := ha'; have := hb; have := hb'; trivial
  clear hu
  by_cases h : a = b
  · have hr : r = 0 := by rw [← H.out]; show flagP (!decide (a = b)) = _; rw [decide_eq_true h]; rfl
    have hd : (a == b) = true := by rw [beq_iff_eq]; exact h
    have hd2 : (a != b) = false := by rw [h]; simp
    clear h
    subst hr
    clear H
    go_enter Tryz.func85, Tryz.ntmps85
    go_wp2_with fail
    go_at_call 84
    refine (rflag_b _ _).mono ?_
    rintro e w2 ⟨rfl, rfl⟩
    go_wp2_with fail
    go_ret
    exact ⟨rfl, rfl⟩
  · have hr : r = 1 := by rw [← H.out]; show flagP (!decide (a = b)) = _; rw [decide_eq_false h]; rfl
    have hd := beq_of h
    have hd2 := bne_of h
    subst hr
    clear H
    go_enter Tryz.func85, Tryz.ntmps85
    go_wp2_with fail
    go_at_call 84
    refine (rflag_b _ _).mono ?_
    rintro e w2 ⟨rfl, rfl⟩
    go_wp2_with fail
    go_ret
    exact ⟨rfl, rfl⟩
set_option maxHeartbeats 1000000 in
theorem rbin_lt (a b r : Int) (H : Hid (binP 15 a b = r)) (ha : -1048576 ≤ a) (ha' : a ≤ 1048576) (hb : -1048576 ≤ b) (hb' : b ≤ 1048576) (w : World) : Calls Tryz.prog 85 #[.int .i64 15, .int .i64 a, .int .i64 b] w fun e w' => e = .returned (.int .i64 r) ∧ w = w' := by
  have hu : True := by have := ha; have := ha'; have := hb; have := hb'; trivial
  clear hu
  by_cases h : a < b
  · have hr : r = 1 := by rw [← H.out]; show flagP (decide (a < b)) = _; rw [decide_eq_true h]; rfl
    have hd : decide (a < b) = true := decide_eq_true h
    subst hr
    clear H
    go_enter Tryz.func85, Tryz.ntmps85
    go_wp2_with fail
    go_at_call 84
    refine (rflag_b _ _).mono ?_
    rintro e w2 ⟨rfl, rfl⟩
    go_wp2_with fail
    go_ret
    exact ⟨rfl, rfl⟩
  · have hr : r = 0 := by rw [← H.out]; show flagP (decide (a < b)) = _; rw [decide_eq_false h]; rfl
    have hd : decide (a < b) = false := decide_eq_false h
    subst hr
    clear H
    go_enter Tryz.func85, Tryz.ntmps85
    go_wp2_with fail
    go_at_call 84
    refine (rflag_b _ _).mono ?_
    rintro e w2 ⟨rfl, rfl⟩
    go_wp2_with fail
    go_ret
    exact ⟨rfl, rfl⟩
set_option maxHeartbeats 1000000 in
theorem rbin_le (a b r : Int) (H : Hid (binP 16 a b = r)) (ha : -1048576 ≤ a) (ha' : a ≤ 1048576) (hb : -1048576 ≤ b) (hb' : b ≤ 1048576) (w : World) : Calls Tryz.prog 85 #[.int .i64 16, .int .i64 a, .int .i64 b] w fun e w' => e = .returned (.int .i64 r) ∧ w = w' := by
  have hu : True := by have := ha; have := ha'; have := hb; have := hb'; trivial
  clear hu
  by_cases h : a ≤ b
  · have hr : r = 1 := by rw [← H.out]; show flagP (decide (a ≤ b)) = _; rw [decide_eq_true h]; rfl
    have hd : decide (a ≤ b) = true := decide_eq_true h
    subst hr
    clear H
    go_enter Tryz.func85, Tryz.ntmps85
    go_wp2_with fail
    go_at_call 84
    refine (rflag_b _ _).mono ?_
    rintro e w2 ⟨rfl, rfl⟩
    go_wp2_with fail
    go_ret
    exact ⟨rfl, rfl⟩
  · have hr : r = 0 := by rw [← H.out]; show flagP (decide (a ≤ b)) = _; rw [decide_eq_false h]; rfl
    have hd : decide (a ≤ b) = false := decide_eq_false h
    subst hr
    clear H
    go_enter Tryz.func85, Tryz.ntmps85
    go_wp2_with fail
    go_at_call 84
    refine (rflag_b _ _).mono ?_
    rintro e w2 ⟨rfl, rfl⟩
    go_wp2_with fail
    go_ret
    exact ⟨rfl, rfl⟩
set_option maxHeartbeats 1000000 in
theorem rbin_gt (a b r : Int) (H : Hid (binP 17 a b = r)) (ha : -1048576 ≤ a) (ha' : a ≤ 1048576) (hb : -1048576 ≤ b) (hb' : b ≤ 1048576) (w : World) : Calls Tryz.prog 85 #[.int .i64 17, .int .i64 a, .int .i64 b] w fun e w' => e = .returned (.int .i64 r) ∧ w = w' := by
  have hu : True := by have := ha; have := ha'; have := hb; have := hb'; trivial
  clear hu
  by_cases h : b < a
  · have hr : r = 1 := by rw [← H.out]; show flagP (decide (b < a)) = _; rw [decide_eq_true h]; rfl
    have hd : decide (b < a) = true := decide_eq_true h
    subst hr
    clear H
    go_enter Tryz.func85, Tryz.ntmps85
    go_wp2_with fail
    go_at_call 84
    refine (rflag_b _ _).mono ?_
    rintro e w2 ⟨rfl, rfl⟩
    go_wp2_with fail
    go_ret
    exact ⟨rfl, rfl⟩
  · have hr : r = 0 := by rw [← H.out]; show flagP (decide (b < a)) = _; rw [decide_eq_false h]; rfl
    have hd : decide (b < a) = false := decide_eq_false h
    subst hr
    clear H
    go_enter Tryz.func85, Tryz.ntmps85
    go_wp2_with fail
    go_at_call 84
    refine (rflag_b _ _).mono ?_
    rintro e w2 ⟨rfl, rfl⟩
    go_wp2_with fail
    go_ret
    exact ⟨rfl, rfl⟩
set_option maxHeartbeats 1000000 in
theorem rbin_ge (a b r : Int) (H : Hid (binP 18 a b = r)) (ha : -1048576 ≤ a) (ha' : a ≤ 1048576) (hb : -1048576 ≤ b) (hb' : b ≤ 1048576) (w : World) : Calls Tryz.prog 85 #[.int .i64 18, .int .i64 a, .int .i64 b] w fun e w' => e = .returned (.int .i64 r) ∧ w = w' := by
  have hu : True := by have := ha; have := ha'; have := hb; have := hb'; trivial
  clear hu
  by_cases h : b ≤ a
  · have hr : r = 1 := by rw [← H.out]; show flagP (decide (b ≤ a)) = _; rw [decide_eq_true h]; rfl
    have hd : decide (b ≤ a) = true := decide_eq_true h
    subst hr
    clear H
    go_enter Tryz.func85, Tryz.ntmps85
    go_wp2_with fail
    go_at_call 84
    refine (rflag_b _ _).mono ?_
    rintro e w2 ⟨rfl, rfl⟩
    go_wp2_with fail
    go_ret
    exact ⟨rfl, rfl⟩
  · have hr : r = 0 := by rw [← H.out]; show flagP (decide (b ≤ a)) = _; rw [decide_eq_false h]; rfl
    have hd : decide (b ≤ a) = false := decide_eq_false h
    subst hr
    clear H
    go_enter Tryz.func85, Tryz.ntmps85
    go_wp2_with fail
    go_at_call 84
    refine (rflag_b _ _).mono ?_
    rintro e w2 ⟨rfl, rfl⟩
    go_wp2_with fail
    go_ret
    exact ⟨rfl, rfl⟩
set_option maxHeartbeats 1000000 in
theorem rbin_and (a b r : Int) (H : Hid (binP 19 a b = r)) (ha : -1048576 ≤ a) (ha' : a ≤ 1048576) (hb : -1048576 ≤ b) (hb' : b ≤ 1048576) (w : World) : Calls Tryz.prog 85 #[.int .i64 19, .int .i64 a, .int .i64 b] w fun e w' => e = .returned (.int .i64 r) ∧ w = w' := by
  have hu : True := by have := ha; have := ha'; have := hb; have := hb'; trivial
  clear hu
  by_cases h1 : a = 0
  · by_cases h2 : b = 0
    · have hr : r = 0 := by rw [← H.out]; show flagP (!decide (a = 0) && !decide (b = 0)) = _; rw [decide_eq_true h1, decide_eq_true h2]; rfl
      have d1 : (a != 0) = false := by rw [h1]; rfl
      have d2 : (b != 0) = false := by rw [h2]; rfl
      clear h1 h2
      subst hr
      clear H
      go_enter Tryz.func85, Tryz.ntmps85
      go_wp2_with fail
      go_at_call 84
      refine (rflag_b _ _).mono ?_
      rintro e w2 ⟨rfl, rfl⟩
      go_wp2_with fail
      go_ret
      exact ⟨rfl, rfl⟩
    · have hr : r = 0 := by rw [← H.out]; show flagP (!decide (a = 0) && !decide (b = 0)) = _; rw [decide_eq_true h1, decide_eq_false h2]; rfl
      have d1 : (a != 0) = false := by rw [h1]; rfl
      have d2 := bne_of h2
      clear h1 h2
      subst hr
      clear H
      go_enter Tryz.func85, Tryz.ntmps85
      go_wp2_with fail
      go_at_call 84
      refine (rflag_b _ _).mono ?_
      rintro e w2 ⟨rfl, rfl⟩
      go_wp2_with fail
      go_ret
      exact ⟨rfl, rfl⟩
  · by_cases h2 : b = 0
    · have hr : r = 0 := by rw [← H.out]; show flagP (!decide (a = 0) && !decide (b = 0)) = _; rw [decide_eq_false h1, decide_eq_true h2]; rfl
      have d1 := bne_of h1
      have d2 : (b != 0) = false := by rw [h2]; rfl
      clear h1 h2
      subst hr
      clear H
      go_enter Tryz.func85, Tryz.ntmps85
      go_wp2_with fail
      go_at_call 84
      refine (rflag_b _ _).mono ?_
      rintro e w2 ⟨rfl, rfl⟩
      go_wp2_with fail
      go_ret
      exact ⟨rfl, rfl⟩
    · have hr : r = 1 := by rw [← H.out]; show flagP (!decide (a = 0) && !decide (b = 0)) = _; rw [decide_eq_false h1, decide_eq_false h2]; rfl
      have d1 := bne_of h1
      have d2 := bne_of h2
      clear h1 h2
      subst hr
      clear H
      go_enter Tryz.func85, Tryz.ntmps85
      go_wp2_with fail
      go_at_call 84
      refine (rflag_b _ _).mono ?_
      rintro e w2 ⟨rfl, rfl⟩
      go_wp2_with fail
      go_ret
      exact ⟨rfl, rfl⟩
set_option maxHeartbeats 1000000 in
theorem rbin_or (a b r : Int) (H : Hid (binP 20 a b = r)) (ha : -1048576 ≤ a) (ha' : a ≤ 1048576) (hb : -1048576 ≤ b) (hb' : b ≤ 1048576) (w : World) : Calls Tryz.prog 85 #[.int .i64 20, .int .i64 a, .int .i64 b] w fun e w' => e = .returned (.int .i64 r) ∧ w = w' := by
  have hu : True := by have := ha; have := ha'; have := hb; have := hb'; trivial
  clear hu
  by_cases h1 : a = 0
  · by_cases h2 : b = 0
    · have hr : r = 0 := by rw [← H.out]; show flagP (!decide (a = 0) || !decide (b = 0)) = _; rw [decide_eq_true h1, decide_eq_true h2]; rfl
      have d1 : (a != 0) = false := by rw [h1]; rfl
      have d2 : (b != 0) = false := by rw [h2]; rfl
      clear h1 h2
      subst hr
      clear H
      go_enter Tryz.func85, Tryz.ntmps85
      go_wp2_with fail
      go_at_call 84
      refine (rflag_b _ _).mono ?_
      rintro e w2 ⟨rfl, rfl⟩
      go_wp2_with fail
      go_ret
      exact ⟨rfl, rfl⟩
    · have hr : r = 1 := by rw [← H.out]; show flagP (!decide (a = 0) || !decide (b = 0)) = _; rw [decide_eq_true h1, decide_eq_false h2]; rfl
      have d1 : (a != 0) = false := by rw [h1]; rfl
      have d2 := bne_of h2
      clear h1 h2
      subst hr
      clear H
      go_enter Tryz.func85, Tryz.ntmps85
      go_wp2_with fail
      go_at_call 84
      refine (rflag_b _ _).mono ?_
      rintro e w2 ⟨rfl, rfl⟩
      go_wp2_with fail
      go_ret
      exact ⟨rfl, rfl⟩
  · by_cases h2 : b = 0
    · have hr : r = 1 := by rw [← H.out]; show flagP (!decide (a = 0) || !decide (b = 0)) = _; rw [decide_eq_false h1, decide_eq_true h2]; rfl
      have d1 := bne_of h1
      have d2 : (b != 0) = false := by rw [h2]; rfl
      clear h1 h2
      subst hr
      clear H
      go_enter Tryz.func85, Tryz.ntmps85
      go_wp2_with fail
      go_at_call 84
      refine (rflag_b _ _).mono ?_
      rintro e w2 ⟨rfl, rfl⟩
      go_wp2_with fail
      go_ret
      exact ⟨rfl, rfl⟩
    · have hr : r = 1 := by rw [← H.out]; show flagP (!decide (a = 0) || !decide (b = 0)) = _; rw [decide_eq_false h1, decide_eq_false h2]; rfl
      have d1 := bne_of h1
      have d2 := bne_of h2
      clear h1 h2
      subst hr
      clear H
      go_enter Tryz.func85, Tryz.ntmps85
      go_wp2_with fail
      go_at_call 84
      refine (rflag_b _ _).mono ?_
      rintro e w2 ⟨rfl, rfl⟩
      go_wp2_with fail
      go_ret
      exact ⟨rfl, rfl⟩

set_option maxHeartbeats 1000000 in
theorem rbin_min (a b r : Int) (H : Hid (binP 21 a b = r)) (w : World) : Calls Tryz.prog 85 #[.int .i64 21, .int .i64 a, .int .i64 b] w fun e w' => e = .returned (.int .i64 r) ∧ w = w' := by
  have HR : Hid (min a b = r) := H.out
  clear H
  go_enter Tryz.func85, Tryz.ntmps85
  go_wp2_with fail
  go_at_call 83
  refine (rleast_b a b r HR _).mono ?_
  rintro e w2 ⟨rfl, rfl⟩
  go_wp2_with fail
  go_ret
  exact ⟨rfl, rfl⟩

set_option maxHeartbeats 1000000 in
theorem rbin_max (a b r : Int) (H : Hid (binP 22 a b = r)) (w : World) : Calls Tryz.prog 85 #[.int .i64 22, .int .i64 a, .int .i64 b] w fun e w' => e = .returned (.int .i64 r) ∧ w = w' := by
  have HR : Hid (max a b = r) := H.out
  clear H
  go_enter Tryz.func85, Tryz.ntmps85
  go_wp2_with fail
  go_at_call 82
  refine (rmost_b a b r HR _).mono ?_
  rintro e w2 ⟨rfl, rfl⟩
  go_wp2_with fail
  go_ret
  exact ⟨rfl, rfl⟩

theorem rbinary_b (o a b r : Int) (ho : 8 ≤ o ∧ o ≤ 22) (H : Hid (binP o a b = r)) (ha : -1048576 ≤ a) (ha' : a ≤ 1048576) (hb : -1048576 ≤ b) (hb' : b ≤ 1048576) (w : World) : Calls Tryz.prog 85 #[.int .i64 o, .int .i64 a, .int .i64 b] w fun e w' => e = .returned (.int .i64 r) ∧ w = w' := by
  have hc : o = 8 ∨ o = 9 ∨ o = 10 ∨ o = 11 ∨ o = 12 ∨ o = 13 ∨ o = 14 ∨ o = 15 ∨ o = 16 ∨ o = 17 ∨ o = 18 ∨ o = 19 ∨ o = 20 ∨ o = 21 ∨ o = 22 := by omega
  rcases hc with rfl | rfl | rfl | rfl | rfl | rfl | rfl | rfl | rfl | rfl | rfl | rfl | rfl | rfl | rfl
  · exact rbin_add a b r H ha ha' hb hb' w
  · exact rbin_sub a b r H ha ha' hb hb' w
  · exact rbin_mul a b r H ha ha' hb hb' w
  · exact rbin_div a b r H ha ha' hb hb' w
  · exact rbin_mod a b r H ha ha' hb hb' w
  · exact rbin_eq a b r H ha ha' hb hb' w
  · exact rbin_ne a b r H ha ha' hb hb' w
  · exact rbin_lt a b r H ha ha' hb hb' w
  · exact rbin_le a b r H ha ha' hb hb' w
  · exact rbin_gt a b r H ha ha' hb hb' w
  · exact rbin_ge a b r H ha ha' hb hb' w
  · exact rbin_and a b r H ha ha' hb hb' w
  · exact rbin_or a b r H ha ha' hb hb' w
  · exact rbin_min a b r H w
  · exact rbin_max a b r H w

/-- Kid j of a term, where it lies, and what Value returns of it. -/
def RKid (w : World) (Ax : Option Addr) (lx cx g f j : Nat) (v o n : Int) (A : Option Addr) (l c : Nat) : Prop :=
  g < w.heap.size ∧ w.cell? ⟨g, f + j * 3, none⟩ = some (.int .i64 o) ∧ w.cell? ⟨g, f + j * 3 + 1, none⟩ = some (.int .i64 n) ∧ w.cell? ⟨g, f + j * 3 + 2, none⟩ = some (.slice A l c) ∧
    ∀ W, Below w.heap.size w W → Calls Tryz.prog 55 #[.slice Ax lx cx, .agg #[.int .i64 o, .int .i64 n, .slice A l c]] W fun e w' => e = .returned (.int .i64 v) ∧ Below W.heap.size W w'
theorem rkid_b (vs : List Vr) (inp : Bool) (vals : List Int) (Ax : Option Addr) (lx cx : Nat) (m : Nat) (IH : (∀ (o n : Int) (ks : List Tm) (l : Nat) (A : Option Addr) (c : Nat) (w : World) (r : Int), ks.length = l → Tm.cnt (.mk o n ks) ≤ m → TOk w A c ks → Zs w Ax lx cx vals → Hid (formedB vs inp (.mk o n ks) = true) → Hid ((rangedP vs (.mk o n ks)).isSome = true) → Hid (valueP vals (.mk o n ks) = r) → Calls Tryz.prog 55 #[.slice Ax lx cx, .agg #[.int .i64 o, .int .i64 n, .slice A l c]] w fun e w' => e = .returned (.int .i64 r) ∧ Below w.heap.size w w')) (ks : List Tm) (l : Nat) (g f c : Nat) (w : World) (hl : ks.length = l) (hm : Tm.cntL ks ≤ m) (ht : TOk w (some ⟨g, f, none⟩) c ks) (hz : Zs w Ax lx cx vals) (hf : ∀ i (hi : i < ks.length), formedB vs inp ks[i] = true) (hg : ∀ i (hi : i < ks.length), (rangedP vs ks[i]).isSome = true) :
    ∀ j, j < l → ∀ v, Hid ((valuesL vals ks).getD j 0 = v) → ∃ (o n : Int) (A : Option Addr) (l' c' : Nat), RKid w Ax lx cx g f j v o n A l' c' := by
  intro j hj v hv
  have hjk : j < ks.length := by omega
  obtain ⟨o', n', ks', g', f', A', c', hkid, hA, hgl, hok, k0, k1, k2⟩ := ht.kid j hjk
  cases hA
  refine ⟨o', n', A', ks'.length, c', hgl, k0, k1, k2, fun W hb => ?_⟩
  have h1 := hf j hjk
  have h2 := hg j hjk
  have h3 := valuesL_get vals ks j hjk
  have h4 := Tm.cntL_get ks j hjk
  rw [hkid] at h1 h2 h3 h4
  exact IH o' n' ks' _ A' c' W v rfl (by omega) (hok.below hb) (hz.below hb) (Lib.hid h1) (Lib.hid h2) (Lib.hid (h3.symm.trans hv.out))

set_option maxRecDepth 100000 in
set_option maxHeartbeats 8000000 in
theorem rvalue_any (vs : List Vr) (hvb : vB vs) (inp : Bool) (vals : List Int) (hva : valOk vs vals) (Ax : Option Addr) (lx cx : Nat) (m : Nat) : (∀ (o n : Int) (ks : List Tm) (l : Nat) (A : Option Addr) (c : Nat) (w : World) (r : Int), ks.length = l → Tm.cnt (.mk o n ks) ≤ m → TOk w A c ks → Zs w Ax lx cx vals → Hid (formedB vs inp (.mk o n ks) = true) → Hid ((rangedP vs (.mk o n ks)).isSome = true) → Hid (valueP vals (.mk o n ks) = r) → Calls Tryz.prog 55 #[.slice Ax lx cx, .agg #[.int .i64 o, .int .i64 n, .slice A l c]] w fun e w' => e = .returned (.int .i64 r) ∧ Below w.heap.size w w') := by
  induction m with
  | zero => intro o n ks l A c w r _ h; have := Tm.cnt_pos (.mk o n ks); omega
  | succ m ih =>
    intro o n ks l A c w r hl hm ht hz HFB HRG H
    have hml : Tm.cntL ks ≤ m := by simp only [Tm.cnt] at hm; omega
    have hff : formedN vs inp o n ks.length = true ∧ formedL vs inp ks = true := by
      have := HFB.out
      rw [formedB, Bool.and_eq_true] at this
      exact this
    have hf : ∀ i (hi : i < ks.length), formedB vs inp ks[i] = true := fun i hi => by
      cases hc : formedB vs inp ks[i]
      · rw [formedL_take vs inp ks i hi hc] at hff; cases hff.2
      · rfl
    have hgk : ∃ k, rangedL vs ks = some k := by
      have := HRG.out
      rw [rangedP] at this
      cases h : rangedL vs ks with
      | none => rw [h] at this; cases this
      | some k => exact ⟨k, rfl⟩
    obtain ⟨k, hk⟩ := hgk
    obtain ⟨hkl, hkg⟩ := rangedL_get ks k hk
    have hg : ∀ i (hi : i < ks.length), (rangedP vs ks[i]).isSome = true := fun i hi => by rw [hkg i hi]; rfl
    have HVB : Hid (∀ j, j < l → -1048576 ≤ (valuesL vals ks).getD j 0 ∧ (valuesL vals ks).getD j 0 ≤ 1048576) := fun j hj => by
      have hjk : j < ks.length := by omega
      have e1 := value_in hva inp _ ks[j] (Nat.le_refl _) (hf j hjk) _ (hkg j hjk)
      have e2 := (ranged_ok hvb _ ks[j] (Nat.le_refl _) _ (hkg j hjk)).2
      rw [valuesL_get vals ks j hjk]
      unfold inB at e2
      omega
    have HAD : Hid (0 < l → ∃ g f, A = some ⟨g, f, none⟩) := Lib.hid (fun h0 => by
      obtain ⟨_, _, _, g, f, _, _, _, hA, _⟩ := ht.kid 0 (by omega)
      exact ⟨g, f, hA⟩)
    have HFN : Hid (formedN vs inp o n l = true) := by show _ = _; rw [← hl]; exact hff.1
    have HVA := Lib.hid hva
    have HZ0 := Lib.hid hz
    have HL := Lib.hid hl
    have hlm : l ≤ 9223372036854775807 := by have h1 := ht.1; have h2 := ht.2.1; unfold maxLen at h2; omega
    have hxm : lx ≤ 9223372036854775807 := by have h1 := hz.cap; have h2 := hz.big; unfold maxLen at h2; omega
    have HKID : Hid (∀ g f, A = some ⟨g, f, none⟩ → ∀ j, j < l → ∀ v, Hid ((valuesL vals ks).getD j 0 = v) → ∃ (o n : Int) (A : Option Addr) (l' c' : Nat), RKid w Ax lx cx g f j v o n A l' c') := Lib.hid (fun g f e => by subst e; exact rkid_b vs inp vals Ax lx cx m ih ks l g f c w hl hml ht hz hf hg)
    have HB := Lib.hid ((Below.refl w.heap.size w).alloc (Nat.le_refl _) (.cells #[.int .i64 o, .int .i64 n, .slice A l c] 53))
    have HC := Lib.hid (Cs.new w #[.int .i64 o, .int .i64 n, .slice A l c] 53)
    clear hl ht hz hvb hva hff hf hg hk hkl hkg ih hml HFB HRG hm
    rcases kids_cases (formedN_kids HFN.out).1 with rfl | rfl | rfl | rfl | hop | rfl | rfl
    · have hr : r = n := by rw [← H.out, valueP]; rfl
      subst hr
      clear H
      go_enter Tryz.func55, Tryz.ntmps55
      go_upto_region 1 with fail
      obtain ⟨w1, hw1⟩ : ∃ w1, w.alloc (.cells #[.int .i64 0, .int .i64 r, .slice A l c] 53) = w1 := ⟨_, rfl⟩
      rw [hw1] at HB HC
      rw [hw1]
      clear hw1
      have d0 := HC.out.at 0 _ rfl
      have d1 := HC.out.at 1 _ rfl
      have d2 := HC.out.at 2 _ rfl
      go_wp2_with fail
      go_ret
      exact ⟨rfl, HB.out⟩
    · obtain ⟨q1, q2⟩ := (formedN_kids HFN.out).2.2.2 rfl
      obtain ⟨i, rfl⟩ : ∃ i : Nat, n = i := ⟨n.toNat, by omega⟩
      have hil : i < lx := by have h1 := HVA.out.1; have h2 := HZ0.out.len; omega
      have hr : r = vals.getD i 0 := by rw [← H.out, valueP]; rfl
      obtain ⟨g, f, hA, hg, hc⟩ := HZ0.out.mem (by omega)
      subst hA
      have hcell0 := hc i hil
      rw [← hr] at hcell0
      have HCL : Hid (∀ W, Below w.heap.size w W → W.cell? ⟨g, f + i, none⟩ = some (.int .i64 r)) := fun W h => (h.cell (p := ⟨g, _, none⟩) hg).trans hcell0
      have hil' : (i : Int) < (lx : Int) := by omega
      clear hc hr H hcell0
      go_enter Tryz.func55, Tryz.ntmps55
      go_upto_region 1 with fail
      obtain ⟨w1, hw1⟩ : ∃ w1, w.alloc (.cells #[.int .i64 24, .int .i64 (i : Nat), .slice A l c] 53) = w1 := ⟨_, rfl⟩
      rw [hw1] at HB HC
      rw [hw1]
      clear hw1
      have d0 := HC.out.at 0 _ rfl
      have d1 := HC.out.at 1 _ rfl
      have d2 := HC.out.at 2 _ rfl
      have hcell := HCL.out _ HB.out
      go_wp2_with fail
      go_ret
      exact ⟨rfl, HB.out⟩
    · have hl1 : 1 ≤ l := by have := (formedN_kids HFN.out).2.1; rw [show kidsP 6 = (1, 1) by decide] at this; simp only at this; omega
      obtain ⟨v0, hv0⟩ : ∃ v, (valuesL vals ks).getD 0 0 = v := ⟨_, rfl⟩
      have H0 := Lib.hid hv0
      have b0 := HVB.out 0 (by omega)
      rw [hv0] at b0
      obtain ⟨g, f, hAg⟩ := HAD.out (by omega)
      subst hAg
      have KID := Lib.hid (HKID.out g f rfl)
      have hl0 : (0 : Int) < (l : Int) := by omega
      have hl0n : 0 < l := by omega
      have hr : r = -v0 := by rw [← H.out, valueP, ← hv0]; rfl
      subst hr
      clear H hv0
      obtain ⟨o0, n0, A0, l0, c0, hk0⟩ := KID.out 0 (by omega) v0 H0
      have K0 : Hid (∀ W, Below w.heap.size w W → (W.cell? ⟨g, f, none⟩ = some (.int .i64 o0) ∧ W.cell? ⟨g, f + 1, none⟩ = some (.int .i64 n0) ∧ W.cell? ⟨g, f + 2, none⟩ = some (.slice A0 l0 c0))) := fun W h => ⟨(h.cell (p := ⟨g, _, none⟩) hk0.1).trans (by have := hk0.2.1; simpa using this), (h.cell (p := ⟨g, _, none⟩) hk0.1).trans (by have := hk0.2.2.1; simpa using this), (h.cell (p := ⟨g, _, none⟩) hk0.1).trans (by have := hk0.2.2.2.1; simpa using this)⟩
      have KC0 := Lib.hid hk0.2.2.2.2
      clear hk0
      go_enter Tryz.func55, Tryz.ntmps55
      go_upto_region 1 with fail
      obtain ⟨w1, hw1⟩ : ∃ w1, w.alloc (.cells #[.int .i64 6, .int .i64 n, .slice (some ⟨g, f, none⟩) l c] 53) = w1 := ⟨_, rfl⟩
      rw [hw1] at HB HC
      rw [hw1]
      clear hw1
      have d0 := HC.out.at 0 _ rfl
      have d1 := HC.out.at 1 _ rfl
      have d2 := HC.out.at 2 _ rfl
      obtain ⟨x0a, x0b, x0c⟩ := K0.out _ HB.out
      go_wp2_with fail
      go_at_call 55
      refine (KC0.out _ HB.out).mono ?_
      rintro e u1 ⟨rfl, hb⟩
      have HC1 := Lib.hid (HC.out.next hb)
      have HB1 := Lib.hid (HB.out.trans (hb.mono HB.out.size))
      clear hb HC HB d0 d1 d2
      have HC := HC1
      have HB := HB1
      clear HC1 HB1
      clear x0a x0b x0c
      go_wp2_with fail
      go_ret
      exact ⟨rfl, HB.out⟩
    · have hl1 : 1 ≤ l := by have := (formedN_kids HFN.out).2.1; rw [show kidsP 7 = (1, 1) by decide] at this; simp only at this; omega
      obtain ⟨v0, hv0⟩ : ∃ v, (valuesL vals ks).getD 0 0 = v := ⟨_, rfl⟩
      have H0 := Lib.hid hv0
      have b0 := HVB.out 0 (by omega)
      rw [hv0] at b0
      obtain ⟨g, f, hAg⟩ := HAD.out (by omega)
      subst hAg
      have KID := Lib.hid (HKID.out g f rfl)
      have hl0 : (0 : Int) < (l : Int) := by omega
      have hl0n : 0 < l := by omega
      have hr : r = flagP (decide (v0 = 0)) := by rw [← H.out, valueP, ← hv0]; rfl
      clear H hv0
      obtain ⟨o0, n0, A0, l0, c0, hk0⟩ := KID.out 0 (by omega) v0 H0
      have K0 : Hid (∀ W, Below w.heap.size w W → (W.cell? ⟨g, f, none⟩ = some (.int .i64 o0) ∧ W.cell? ⟨g, f + 1, none⟩ = some (.int .i64 n0) ∧ W.cell? ⟨g, f + 2, none⟩ = some (.slice A0 l0 c0))) := fun W h => ⟨(h.cell (p := ⟨g, _, none⟩) hk0.1).trans (by have := hk0.2.1; simpa using this), (h.cell (p := ⟨g, _, none⟩) hk0.1).trans (by have := hk0.2.2.1; simpa using this), (h.cell (p := ⟨g, _, none⟩) hk0.1).trans (by have := hk0.2.2.2.1; simpa using this)⟩
      have KC0 := Lib.hid hk0.2.2.2.2
      clear hk0
      by_cases hz : v0 = 0
      · have hd : (v0 == 0) = true := by rw [beq_iff_eq]; exact hz
        rw [decide_eq_true hz] at hr
        clear hz
        go_enter Tryz.func55, Tryz.ntmps55
        go_upto_region 1 with fail
        obtain ⟨w1, hw1⟩ : ∃ w1, w.alloc (.cells #[.int .i64 7, .int .i64 n, .slice (some ⟨g, f, none⟩) l c] 53) = w1 := ⟨_, rfl⟩
        rw [hw1] at HB HC
        rw [hw1]
        clear hw1
        have d0 := HC.out.at 0 _ rfl
        have d1 := HC.out.at 1 _ rfl
        have d2 := HC.out.at 2 _ rfl
        obtain ⟨x0a, x0b, x0c⟩ := K0.out _ HB.out
        go_wp2_with fail
        go_at_call 55
        refine (KC0.out _ HB.out).mono ?_
        rintro e u1 ⟨rfl, hb⟩
        have HC1 := Lib.hid (HC.out.next hb)
        have HB1 := Lib.hid (HB.out.trans (hb.mono HB.out.size))
        clear hb HC HB d0 d1 d2
        have HC := HC1
        have HB := HB1
        clear HC1 HB1
        clear x0a x0b x0c
        go_wp2_with fail
        go_at_call 84
        refine (rflag_b true _).mono ?_
        rintro e u2 ⟨rfl, rfl⟩
        go_wp2_with fail
        go_ret
        exact ⟨by rw [hr]; rfl, HB.out⟩
      · have hd := beq_of hz
        rw [decide_eq_false hz] at hr
        clear hz
        go_enter Tryz.func55, Tryz.ntmps55
        go_upto_region 1 with fail
        obtain ⟨w1, hw1⟩ : ∃ w1, w.alloc (.cells #[.int .i64 7, .int .i64 n, .slice (some ⟨g, f, none⟩) l c] 53) = w1 := ⟨_, rfl⟩
        rw [hw1] at HB HC
        rw [hw1]
        clear hw1
        have d0 := HC.out.at 0 _ rfl
        have d1 := HC.out.at 1 _ rfl
        have d2 := HC.out.at 2 _ rfl
        obtain ⟨x0a, x0b, x0c⟩ := K0.out _ HB.out
        go_wp2_with fail
        go_at_call 55
        refine (KC0.out _ HB.out).mono ?_
        rintro e u1 ⟨rfl, hb⟩
        have HC1 := Lib.hid (HC.out.next hb)
        have HB1 := Lib.hid (HB.out.trans (hb.mono HB.out.size))
        clear hb HC HB d0 d1 d2
        have HC := HC1
        have HB := HB1
        clear HC1 HB1
        clear x0a x0b x0c
        go_wp2_with fail
        go_at_call 84
        refine (rflag_b false _).mono ?_
        rintro e u2 ⟨rfl, rfl⟩
        go_wp2_with fail
        go_ret
        exact ⟨by rw [hr]; rfl, HB.out⟩
    · have hk2 : 1 < l := by
        obtain ⟨_, q2, q3, _⟩ := formedN_kids HFN.out
        rw [kids_two hop] at q2 q3
        simp only at q2 q3
        omega
      obtain ⟨v0, hv0⟩ : ∃ v, (valuesL vals ks).getD 0 0 = v := ⟨_, rfl⟩
      have H0 := Lib.hid hv0
      have b0 := HVB.out 0 (by omega)
      rw [hv0] at b0
      obtain ⟨v1, hv1⟩ : ∃ v, (valuesL vals ks).getD 1 0 = v := ⟨_, rfl⟩
      have H1 := Lib.hid hv1
      have b1 := HVB.out 1 (by omega)
      rw [hv1] at b1
      obtain ⟨g, f, hAg⟩ := HAD.out (by omega)
      subst hAg
      have KID := Lib.hid (HKID.out g f rfl)
      have hl0 : (0 : Int) < (l : Int) := by omega
      have hl0n : 0 < l := by omega
      have hl1 : (1 : Int) < (l : Int) := by omega
      have hr : binP o v0 v1 = r := by
        rw [← H.out, valueP, ← hv0, ← hv1]
        unfold nodeV
        rw [if_neg (by omega), if_neg (by omega), if_neg (by omega), if_neg (by omega), if_neg (by omega), if_neg (by omega)]
      have HR := Lib.hid hr
      have n0_ := beq_of (show o ≠ 0 by omega)
      have n24 := beq_of (show o ≠ 24 by omega)
      have n6 := beq_of (show o ≠ 6 by omega)
      have n7 := beq_of (show o ≠ 7 by omega)
      have n23 := beq_of (show o ≠ 23 by omega)
      have n25 := beq_of (show o ≠ 25 by omega)
      have HOP := Lib.hid hop
      clear H hv0 hv1 hr hop
      obtain ⟨o0, n0, A0, l0, c0, hk0⟩ := KID.out 0 (by omega) v0 H0
      have K0 : Hid (∀ W, Below w.heap.size w W → (W.cell? ⟨g, f, none⟩ = some (.int .i64 o0) ∧ W.cell? ⟨g, f + 1, none⟩ = some (.int .i64 n0) ∧ W.cell? ⟨g, f + 2, none⟩ = some (.slice A0 l0 c0))) := fun W h => ⟨(h.cell (p := ⟨g, _, none⟩) hk0.1).trans (by have := hk0.2.1; simpa using this), (h.cell (p := ⟨g, _, none⟩) hk0.1).trans (by have := hk0.2.2.1; simpa using this), (h.cell (p := ⟨g, _, none⟩) hk0.1).trans (by have := hk0.2.2.2.1; simpa using this)⟩
      have KC0 := Lib.hid hk0.2.2.2.2
      clear hk0
      obtain ⟨o1, n1, A1, l1, c1, hk1⟩ := KID.out 1 (by omega) v1 H1
      have K1 : Hid (∀ W, Below w.heap.size w W → (W.cell? ⟨g, f + 3, none⟩ = some (.int .i64 o1) ∧ W.cell? ⟨g, f + 4, none⟩ = some (.int .i64 n1) ∧ W.cell? ⟨g, f + 5, none⟩ = some (.slice A1 l1 c1))) := fun W h => ⟨(h.cell (p := ⟨g, _, none⟩) hk1.1).trans (by have := hk1.2.1; simpa using this), (h.cell (p := ⟨g, _, none⟩) hk1.1).trans (by have := hk1.2.2.1; simpa using this), (h.cell (p := ⟨g, _, none⟩) hk1.1).trans (by have := hk1.2.2.2.1; simpa using this)⟩
      have KC1 := Lib.hid hk1.2.2.2.2
      clear hk1
      go_enter Tryz.func55, Tryz.ntmps55
      go_upto_region 1 with fail
      obtain ⟨w1, hw1⟩ : ∃ w1, w.alloc (.cells #[.int .i64 o, .int .i64 n, .slice (some ⟨g, f, none⟩) l c] 53) = w1 := ⟨_, rfl⟩
      rw [hw1] at HB HC
      rw [hw1]
      clear hw1
      have d0 := HC.out.at 0 _ rfl
      have d1 := HC.out.at 1 _ rfl
      have d2 := HC.out.at 2 _ rfl
      go_upto_region 16 with fail
      clear d0 d1 d2
      have KP : Hid (∀ W, Below w1.heap.size w1 W → (W.cell? ⟨w.heap.size, 0, none⟩ = some (.int .i64 o) ∧ W.cell? ⟨w.heap.size, 2, none⟩ = some (.slice (some ⟨g, f, none⟩) l c) ∧ W.cell? ⟨g, f, none⟩ = some (.int .i64 o0) ∧ W.cell? ⟨g, f + 1, none⟩ = some (.int .i64 n0) ∧ W.cell? ⟨g, f + 2, none⟩ = some (.slice A0 l0 c0) ∧ W.cell? ⟨g, f + 3, none⟩ = some (.int .i64 o1) ∧ W.cell? ⟨g, f + 4, none⟩ = some (.int .i64 n1) ∧ W.cell? ⟨g, f + 5, none⟩ = some (.slice A1 l1 c1))) := fun W h => by
        have hw := HB.out.trans (h.mono HB.out.size)
        exact ⟨(HC.out.next h).at 0 _ rfl, (HC.out.next h).at 2 _ rfl, (K0.out _ hw).1, (K0.out _ hw).2.1, (K0.out _ hw).2.2, K1.out _ hw⟩
      go_region_held3 (fun W => W.cell? ⟨w.heap.size, 0, none⟩ = some (.int .i64 o) ∧ W.cell? ⟨w.heap.size, 2, none⟩ = some (.slice (some ⟨g, f, none⟩) l c) ∧ W.cell? ⟨g, f, none⟩ = some (.int .i64 o0) ∧ W.cell? ⟨g, f + 1, none⟩ = some (.int .i64 n0) ∧ W.cell? ⟨g, f + 2, none⟩ = some (.slice A0 l0 c0) ∧ W.cell? ⟨g, f + 3, none⟩ = some (.int .i64 o1) ∧ W.cell? ⟨g, f + 4, none⟩ = some (.int .i64 n1) ∧ W.cell? ⟨g, f + 5, none⟩ = some (.slice A1 l1 c1)) (first | with_reducible exact KP.out _ HD2.out | with_reducible exact KP.out _ HD1.out | exact KP.out _ (Below.refl _ _).drew) (first
        | (go_at_call 85; refine (rbinary_b o v0 v1 r HOP.out HR b0.1 b0.2 b1.1 b1.2 _).mono ?_; rintro e u3 ⟨rfl, rfl⟩)
        | (go_at_call 55; refine (KC1.out _ (HB.out.trans (HD1.out.mono HB.out.size))).mono ?_; rintro e u2 ⟨rfl, hb⟩; have HD2 := Lib.hid (HD1.out.trans (hb.mono HD1.out.size)); clear hb)
        | (go_at_call 55; refine (KC0.out _ (HB.out.trans ((Below.refl w1.heap.size w1).drew.mono HB.out.size))).mono ?_; rintro e u1 ⟨rfl, hb⟩; have HD1 := Lib.hid ((Below.refl w1.heap.size w1).drew.trans (hb.mono (Nat.le_refl _))); clear hb))
      have HB3 := Lib.hid (HB.out.trans (HD2.out.mono HB.out.size))
      clear HD1 HD2 KP HB HC
      go_wp2_with fail
      go_ret
      exact ⟨rfl, HB3.out⟩
    · have hl3 : 2 < l := by
        obtain ⟨_, q2, q3, _⟩ := formedN_kids HFN.out
        rw [show kidsP 23 = (3, 3) by decide] at q2 q3
        simp only at q2 q3
        omega
      obtain ⟨v0, hv0⟩ : ∃ v, (valuesL vals ks).getD 0 0 = v := ⟨_, rfl⟩
      have H0 := Lib.hid hv0
      have b0 := HVB.out 0 (by omega)
      rw [hv0] at b0
      obtain ⟨v1, hv1⟩ : ∃ v, (valuesL vals ks).getD 1 0 = v := ⟨_, rfl⟩
      have H1 := Lib.hid hv1
      have b1 := HVB.out 1 (by omega)
      rw [hv1] at b1
      obtain ⟨v2, hv2⟩ : ∃ v, (valuesL vals ks).getD 2 0 = v := ⟨_, rfl⟩
      have H2 := Lib.hid hv2
      have b2 := HVB.out 2 (by omega)
      rw [hv2] at b2
      obtain ⟨g, f, hAg⟩ := HAD.out (by omega)
      subst hAg
      have KID := Lib.hid (HKID.out g f rfl)
      have hl0 : (0 : Int) < (l : Int) := by omega
      have hl0n : 0 < l := by omega
      have hl1 : (1 : Int) < (l : Int) := by omega
      have hl2 : (2 : Int) < (l : Int) := by omega
      have hr : r = if v0 ≠ 0 then v1 else v2 := by rw [← H.out, valueP, ← hv0, ← hv1, ← hv2]; rfl
      clear H hv0 hv1 hv2
      obtain ⟨o0, n0, A0, l0, c0, hk0⟩ := KID.out 0 (by omega) v0 H0
      have K0 : Hid (∀ W, Below w.heap.size w W → (W.cell? ⟨g, f, none⟩ = some (.int .i64 o0) ∧ W.cell? ⟨g, f + 1, none⟩ = some (.int .i64 n0) ∧ W.cell? ⟨g, f + 2, none⟩ = some (.slice A0 l0 c0))) := fun W h => ⟨(h.cell (p := ⟨g, _, none⟩) hk0.1).trans (by have := hk0.2.1; simpa using this), (h.cell (p := ⟨g, _, none⟩) hk0.1).trans (by have := hk0.2.2.1; simpa using this), (h.cell (p := ⟨g, _, none⟩) hk0.1).trans (by have := hk0.2.2.2.1; simpa using this)⟩
      have KC0 := Lib.hid hk0.2.2.2.2
      clear hk0
      by_cases hz : v0 = 0
      · have hd : (v0 != 0) = false := by rw [hz]; rfl
        rw [if_neg (fun h => h hz)] at hr
        subst hr
        clear hz
        obtain ⟨o2, n2, A2, l2, c2, hk2⟩ := KID.out 2 (by omega) r H2
        have K2 : Hid (∀ W, Below w.heap.size w W → (W.cell? ⟨g, f + 6, none⟩ = some (.int .i64 o2) ∧ W.cell? ⟨g, f + 7, none⟩ = some (.int .i64 n2) ∧ W.cell? ⟨g, f + 8, none⟩ = some (.slice A2 l2 c2))) := fun W h => ⟨(h.cell (p := ⟨g, _, none⟩) hk2.1).trans (by have := hk2.2.1; simpa using this), (h.cell (p := ⟨g, _, none⟩) hk2.1).trans (by have := hk2.2.2.1; simpa using this), (h.cell (p := ⟨g, _, none⟩) hk2.1).trans (by have := hk2.2.2.2.1; simpa using this)⟩
        have KC2 := Lib.hid hk2.2.2.2.2
        clear hk2
        go_enter Tryz.func55, Tryz.ntmps55
        go_upto_region 1 with fail
        obtain ⟨w1, hw1⟩ : ∃ w1, w.alloc (.cells #[.int .i64 23, .int .i64 n, .slice (some ⟨g, f, none⟩) l c] 53) = w1 := ⟨_, rfl⟩
        rw [hw1] at HB HC
        rw [hw1]
        clear hw1
        have d0 := HC.out.at 0 _ rfl
        have d1 := HC.out.at 1 _ rfl
        have d2 := HC.out.at 2 _ rfl
        obtain ⟨x0a, x0b, x0c⟩ := K0.out _ HB.out
        go_wp2_with fail
        go_at_call 55
        refine (KC0.out _ HB.out).mono ?_
        rintro e u1 ⟨rfl, hb⟩
        have HC1 := Lib.hid (HC.out.next hb)
        have HB1 := Lib.hid (HB.out.trans (hb.mono HB.out.size))
        clear hb HC HB d0 d1 d2
        have HC := HC1
        have HB := HB1
        clear HC1 HB1
        clear x0a x0b x0c
        have d0 := HC.out.at 0 _ rfl
        have d1 := HC.out.at 1 _ rfl
        have d2 := HC.out.at 2 _ rfl
        obtain ⟨x2a, x2b, x2c⟩ := K2.out _ HB.out
        go_wp2_with fail
        go_at_call 55
        refine (KC2.out _ HB.out).mono ?_
        rintro e u2 ⟨rfl, hb⟩
        have HC2 := Lib.hid (HC.out.next hb)
        have HB2 := Lib.hid (HB.out.trans (hb.mono HB.out.size))
        clear hb HC HB d0 d1 d2
        have HC := HC2
        have HB := HB2
        clear HC2 HB2
        clear x2a x2b x2c
        go_wp2_with fail
        go_ret
        exact ⟨rfl, HB.out⟩
      · have hd := bne_of hz
        rw [if_pos hz] at hr
        subst hr
        clear hz
        obtain ⟨o1, n1, A1, l1, c1, hk1⟩ := KID.out 1 (by omega) r H1
        have K1 : Hid (∀ W, Below w.heap.size w W → (W.cell? ⟨g, f + 3, none⟩ = some (.int .i64 o1) ∧ W.cell? ⟨g, f + 4, none⟩ = some (.int .i64 n1) ∧ W.cell? ⟨g, f + 5, none⟩ = some (.slice A1 l1 c1))) := fun W h => ⟨(h.cell (p := ⟨g, _, none⟩) hk1.1).trans (by have := hk1.2.1; simpa using this), (h.cell (p := ⟨g, _, none⟩) hk1.1).trans (by have := hk1.2.2.1; simpa using this), (h.cell (p := ⟨g, _, none⟩) hk1.1).trans (by have := hk1.2.2.2.1; simpa using this)⟩
        have KC1 := Lib.hid hk1.2.2.2.2
        clear hk1
        go_enter Tryz.func55, Tryz.ntmps55
        go_upto_region 1 with fail
        obtain ⟨w1, hw1⟩ : ∃ w1, w.alloc (.cells #[.int .i64 23, .int .i64 n, .slice (some ⟨g, f, none⟩) l c] 53) = w1 := ⟨_, rfl⟩
        rw [hw1] at HB HC
        rw [hw1]
        clear hw1
        have d0 := HC.out.at 0 _ rfl
        have d1 := HC.out.at 1 _ rfl
        have d2 := HC.out.at 2 _ rfl
        obtain ⟨x0a, x0b, x0c⟩ := K0.out _ HB.out
        go_wp2_with fail
        go_at_call 55
        refine (KC0.out _ HB.out).mono ?_
        rintro e u1 ⟨rfl, hb⟩
        have HC1 := Lib.hid (HC.out.next hb)
        have HB1 := Lib.hid (HB.out.trans (hb.mono HB.out.size))
        clear hb HC HB d0 d1 d2
        have HC := HC1
        have HB := HB1
        clear HC1 HB1
        clear x0a x0b x0c
        have d0 := HC.out.at 0 _ rfl
        have d1 := HC.out.at 1 _ rfl
        have d2 := HC.out.at 2 _ rfl
        obtain ⟨x1a, x1b, x1c⟩ := K1.out _ HB.out
        go_wp2_with fail
        go_at_call 55
        refine (KC1.out _ HB.out).mono ?_
        rintro e u2 ⟨rfl, hb⟩
        have HC2 := Lib.hid (HC.out.next hb)
        have HB2 := Lib.hid (HB.out.trans (hb.mono HB.out.size))
        clear hb HC HB d0 d1 d2
        have HC := HC2
        have HB := HB2
        clear HC2 HB2
        clear x1a x1b x1c
        go_wp2_with fail
        go_ret
        exact ⟨rfl, HB.out⟩
    · have hl2 : 2 ≤ l ∧ l ≤ 33 := by
        obtain ⟨_, q2, q3, _⟩ := formedN_kids HFN.out
        rw [show kidsP 25 = (2, 33) by decide] at q2 q3
        simp only at q2 q3
        omega
      obtain ⟨v0, hv0⟩ : ∃ v, (valuesL vals ks).getD 0 0 = v := ⟨_, rfl⟩
      have H0 := Lib.hid hv0
      have b0 := HVB.out 0 (by omega)
      rw [hv0] at b0
      obtain ⟨g, f, hAg⟩ := HAD.out (by omega)
      subst hAg
      have KID := Lib.hid (HKID.out g f rfl)
      have hl0 : (0 : Int) < (l : Int) := by omega
      have hl0n : 0 < l := by omega
      obtain ⟨cl, hcl⟩ : ∃ x, clampP v0 0 ((l : Int) - 2) = x := ⟨_, rfl⟩
      have hclb : 0 ≤ cl ∧ cl ≤ (l : Int) - 2 := by rw [← hcl]; unfold clampP; omega
      have hcl2 : (if v0 < 0 then 0 else if (l : Int) - 2 < v0 then (l : Int) - 2 else v0) = cl := by
        rw [← hcl]; unfold clampP; split
        · omega
        split <;> omega
      obtain ⟨j, hj⟩ : ∃ j : Nat, 1 + cl = (j : Int) := ⟨(1 + cl).toNat, by omega⟩
      have hjl : j < l := by omega
      have hr : (valuesL vals ks).getD j 0 = r := by
        rw [← H.out, valueP]
        show _ = (valuesL vals ks).getD (1 + clampP ((valuesL vals ks).getD 0 0) 0 (((valuesL vals ks).length : Int) - 2)).toNat 0
        rw [valuesL_len, HL.out, hv0, hcl, hj, Int.toNat_natCast]
      have HR := Lib.hid hr
      have HCL := Lib.hid hcl2
      have hwj : IntKind.i64.wrap (1 + cl) = (j : Int) := by rw [← hj]; exact IntWalk.i64_in _ (by omega)
      have hwl : IntKind.i64.wrap ((l : Int) - 2) = (l : Int) - 2 := IntWalk.i64_in _ (by omega)
      have hjl' : (j : Int) < (l : Int) := by omega
      have hj0 : (0 : Int) ≤ (j : Int) := by omega
      clear H hv0 hr hcl hcl2 hj hclb
      obtain ⟨o0, n0, A0, l0, c0, hk0⟩ := KID.out 0 (by omega) v0 H0
      have K0 : Hid (∀ W, Below w.heap.size w W → (W.cell? ⟨g, f, none⟩ = some (.int .i64 o0) ∧ W.cell? ⟨g, f + 1, none⟩ = some (.int .i64 n0) ∧ W.cell? ⟨g, f + 2, none⟩ = some (.slice A0 l0 c0))) := fun W h => ⟨(h.cell (p := ⟨g, _, none⟩) hk0.1).trans (by have := hk0.2.1; simpa using this), (h.cell (p := ⟨g, _, none⟩) hk0.1).trans (by have := hk0.2.2.1; simpa using this), (h.cell (p := ⟨g, _, none⟩) hk0.1).trans (by have := hk0.2.2.2.1; simpa using this)⟩
      have KC0 := Lib.hid hk0.2.2.2.2
      clear hk0
      obtain ⟨o1, n1, A1, l1, c1, hk1⟩ := KID.out j (hjl) r HR
      have K1 : Hid (∀ W, Below w.heap.size w W → (W.cell? ⟨g, f + j * 3, none⟩ = some (.int .i64 o1) ∧ W.cell? ⟨g, f + j * 3 + 1, none⟩ = some (.int .i64 n1) ∧ W.cell? ⟨g, f + j * 3 + 2, none⟩ = some (.slice A1 l1 c1))) := fun W h => ⟨(h.cell (p := ⟨g, _, none⟩) hk1.1).trans (by have := hk1.2.1; exact this), (h.cell (p := ⟨g, _, none⟩) hk1.1).trans (by have := hk1.2.2.1; exact this), (h.cell (p := ⟨g, _, none⟩) hk1.1).trans (by have := hk1.2.2.2.1; exact this)⟩
      have KC1 := Lib.hid hk1.2.2.2.2
      clear hk1
      go_enter Tryz.func55, Tryz.ntmps55
      go_upto_region 1 with fail
      obtain ⟨w1, hw1⟩ : ∃ w1, w.alloc (.cells #[.int .i64 25, .int .i64 n, .slice (some ⟨g, f, none⟩) l c] 53) = w1 := ⟨_, rfl⟩
      rw [hw1] at HB HC
      rw [hw1]
      clear hw1
      have d0 := HC.out.at 0 _ rfl
      have d1 := HC.out.at 1 _ rfl
      have d2 := HC.out.at 2 _ rfl
      go_upto_region 15 with fail
      clear d0 d1 d2
      have KP : Hid (∀ W, Below w1.heap.size w1 W → (W.cell? ⟨w.heap.size, 2, none⟩ = some (.slice (some ⟨g, f, none⟩) l c) ∧ W.cell? ⟨g, f, none⟩ = some (.int .i64 o0) ∧ W.cell? ⟨g, f + 1, none⟩ = some (.int .i64 n0) ∧ W.cell? ⟨g, f + 2, none⟩ = some (.slice A0 l0 c0) ∧ W.cell? ⟨g, f + j * 3, none⟩ = some (.int .i64 o1) ∧ W.cell? ⟨g, f + j * 3 + 1, none⟩ = some (.int .i64 n1) ∧ W.cell? ⟨g, f + j * 3 + 2, none⟩ = some (.slice A1 l1 c1))) := fun W h => by
        have hw := HB.out.trans (h.mono HB.out.size)
        exact ⟨(HC.out.next h).at 2 _ rfl, (K0.out _ hw).1, (K0.out _ hw).2.1, (K0.out _ hw).2.2, K1.out _ hw⟩
      go_region_held3 (fun W => W.cell? ⟨w.heap.size, 2, none⟩ = some (.slice (some ⟨g, f, none⟩) l c) ∧ W.cell? ⟨g, f, none⟩ = some (.int .i64 o0) ∧ W.cell? ⟨g, f + 1, none⟩ = some (.int .i64 n0) ∧ W.cell? ⟨g, f + 2, none⟩ = some (.slice A0 l0 c0) ∧ W.cell? ⟨g, f + j * 3, none⟩ = some (.int .i64 o1) ∧ W.cell? ⟨g, f + j * 3 + 1, none⟩ = some (.int .i64 n1) ∧ W.cell? ⟨g, f + j * 3 + 2, none⟩ = some (.slice A1 l1 c1)) (first | with_reducible exact KP.out _ HD2.out | with_reducible exact KP.out _ HD1.out | exact KP.out _ (Below.refl _ _).drew) (first
        | (go_at_call 57; refine (rheld_b v0 0 ((l : Int) - 2) cl HCL _).mono ?_; rintro e u3 ⟨rfl, rfl⟩)
        | (go_at_call 55; refine (KC1.out _ (HB.out.trans (HD1.out.mono HB.out.size))).mono ?_; rintro e u2 ⟨rfl, hb⟩; have HD2 := Lib.hid (HD1.out.trans (hb.mono HD1.out.size)); clear hb)
        | (go_at_call 55; refine (KC0.out _ (HB.out.trans ((Below.refl w1.heap.size w1).drew.mono HB.out.size))).mono ?_; rintro e u1 ⟨rfl, hb⟩; have HD1 := Lib.hid ((Below.refl w1.heap.size w1).drew.trans (hb.mono (Nat.le_refl _))); clear hb))
      have HB3 := Lib.hid (HB.out.trans (HD2.out.mono HB.out.size))
      clear HD1 HD2 KP HB HC
      go_wp2_with fail
      go_ret
      exact ⟨rfl, HB3.out⟩
end Go.Proofs.YtjpjmoejdkmglaaGreat
