/-
  The walks over the report's name, its code, and over inside.
-/
import Derived.Test.YthlhicegchkjjaaGreatDoorEtG
namespace Go.Proofs.YthlhicegchkjjaaGreatDoor
open Go.RowKit
set_option maxHeartbeats 400000 in
theorem nameb (R : Nat) (n d : Int) (bf bn bm ok b : Bool) (s : ByteArray) (HS : Hid (Lx.isNameB s.data.toList = ok)) (hz : s.size ≤ maxLen) (H : Hid ((bn || !ok) = b)) (w : World) (hm : ML w) (h : Rep w R n d bf bn bm) :
    Calls Tryz.prog 96 #[.pointer (some ⟨R, 0, none⟩), .string s] w fun e w' => e = .returned (.tuple #[]) ∧ Only R w w' ∧ w.heap.size = w'.heap.size ∧ Rep w' R n d bf b bm := by
  have KH := Lib.hid h
  have HM := Lib.hid hm
  have HZ := Lib.hid hz
  obtain ⟨hr, c0, c1, c2, c3, c4, f0, f1, f2, f3, f4⟩ := h
  have hb := H.out
  clear H hm hz
  cases bn
  · cases ok
    all_goals
      simp only [Bool.not_true, Bool.not_false, Bool.or_true, Bool.or_false] at hb
      subst hb
      go_enter Tryz.func96, Tryz.ntmps96
      go_wp2_with fail
      refine (sname_b s _ HS _ HZ.out HM.out).mono ?_
      rintro e w' ⟨rfl, rfl⟩
      go_wp2_with fail
      go_returns
      exact ⟨rfl, Only.set R 3 w _, by simp, KH.out.set3 _⟩
  · simp only [Bool.true_or] at hb
    subst hb
    clear HS
    go_enter Tryz.func96, Tryz.ntmps96
    go_wp2_with fail
    go_returns
    exact ⟨rfl, Only.set R 3 w _, by simp, KH.out.set3 _⟩
set_option maxHeartbeats 400000 in
theorem code_b (R : Nat) (n d r : Int) (bf bn bm : Bool) (H : Hid (vcode n d (!bf) (!bn) (!bm) = r)) (w : World) (h : Rep w R n d bf bn bm) :
    Calls Tryz.prog 74 #[.pointer (some ⟨R, 0, none⟩)] w fun e w' => e = .returned (.int .i64 r) ∧ w = w' := by
  obtain ⟨hr, c0, c1, c2, c3, c4, f0, f1, f2, f3, f4⟩ := h
  by_cases h1 : 1024 < n
  · have hr : r = 4 := by have := H.out; simp only [vcode] at this; rw [if_pos (.inl h1)] at this; exact this.symm
    subst hr
    clear H
    go_enter Tryz.func74, Tryz.ntmps74
    go_wp2_with fail
    go_ret
    exact ⟨rfl, rfl⟩
  by_cases h2 : 12 < d
  · have hr : r = 4 := by have := H.out; simp only [vcode] at this; rw [if_pos (.inr h2)] at this; exact this.symm
    subst hr
    clear H
    go_enter Tryz.func74, Tryz.ntmps74
    go_wp2_with fail
    go_ret
    exact ⟨rfl, rfl⟩
  have hr := H.out
  simp only [vcode] at hr
  rw [if_neg (by omega)] at hr
  clear H
  cases bf
  · cases bn
    · cases bm
      all_goals
        simp only [Bool.not_true, Bool.not_false, if_true, Bool.false_eq_true, if_false] at hr
        subst hr
        go_enter Tryz.func74, Tryz.ntmps74
        go_wp2_with fail
        go_ret
        exact ⟨rfl, rfl⟩
    · simp only [Bool.not_true, Bool.not_false, if_true, Bool.false_eq_true, if_false] at hr
      subst hr
      go_enter Tryz.func74, Tryz.ntmps74
      go_wp2_with fail
      go_ret
      exact ⟨rfl, rfl⟩
  · simp only [Bool.not_true, Bool.false_eq_true, if_false] at hr
    subst hr
    go_enter Tryz.func74, Tryz.ntmps74
    go_wp2_with fail
    go_ret
    exact ⟨rfl, rfl⟩
set_option maxHeartbeats 400000 in
theorem inside_b (n a z : Int) (b : Bool) (H : Hid ((decide (a ≤ n) && decide (n ≤ z)) = b)) (w : World) :
    Calls Tryz.prog 98 #[.int .i64 n, .int .i64 a, .int .i64 z] w fun e w' => e = .returned (.bool b) ∧ w = w' := by
  have hb := H.out
  clear H
  by_cases h1 : a ≤ n
  · by_cases h2 : n ≤ z
    · simp only [h1, h2, decide_true, Bool.and_self] at hb
      subst hb
      go_enter Tryz.func98, Tryz.ntmps98
      go_wp2_with fail
      go_ret
      exact ⟨rfl, rfl⟩
    · simp only [h1, h2, decide_true, decide_false, Bool.and_false] at hb
      subst hb
      have h3 : z < n := by omega
      go_enter Tryz.func98, Tryz.ntmps98
      go_wp2_with fail
      go_ret
      exact ⟨rfl, rfl⟩
  · simp only [h1, decide_false, Bool.false_and] at hb
    subst hb
    have h3 : n < a := by omega
    go_enter Tryz.func98, Tryz.ntmps98
    go_wp2_with fail
    go_ret
    exact ⟨rfl, rfl⟩
end Go.Proofs.YthlhicegchkjjaaGreatDoor
