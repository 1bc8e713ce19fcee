/-
  The walks over kids and formed, of the program and of the reference.
-/
import Derived.Test.YtjpjmoejdkmglaaGreatProg
import Derived.Test.YtjpjmoejdkmglaaGreatFl
import Derived.Test.YtjpjmoejdkmglaaGreatCs
import Derived.WalkSpells
import Derived.WalkLawsBesides
import Derived.BigQuiet
import Derived.Deep.QuietTactic
import Derived.Deep.Cut
import Derived.Deep.RegionHeld3
import Derived.Outline
import Derived.Handy
namespace Go.Proofs.YtjpjmoejdkmglaaGreat
open Go.RowKit

theorem ret_bool {a b : Bool} (h : a = b) : Ending.returned (.bool a) = .returned (.bool b) := by rw [h]
theorem ret_int {k : IntKind} {a b : Int} (h : a = b) : Ending.returned (.int k a) = .returned (.int k b) := by rw [h]
theorem below_drewN {B : Nat} {a w : World} (h : Below B a w) (q : Nat) : Below B a (w.drewN q) := ⟨h.os, h.tape, h.output, h.size, h.block⟩
theorem Cs.drewN {W : World} {b : Nat} {vs : List Value} (h : Cs W b vs) (q : Nat) : Cs (W.drewN q) b vs := h.next (below_drewN (Below.refl _ _) q)
theorem Cs.new1 (W : World) (o : Obj) (cs : Array Value) (T : TypeId) : Cs ((W.alloc o).alloc (.cells cs T)) (W.heap.size + 1) cs.toList := by
  have := Cs.new (W.alloc o) cs T
  rwa [show (W.alloc o).heap.size = W.heap.size + 1 by simp] at this
theorem bne_of {a b : Int} (h : a ≠ b) : (a != b) = true := by rw [bne_iff_ne]; exact h
theorem bne_self (a : Int) : (a != a) = false := by simp
theorem beq_of {a b : Int} (h : a ≠ b) : (a == b) = false := by rw [beq_eq_false_iff_ne]; exact h

/-- The least and the greatest number of kids of an operator, or -1. -/
def kidsP (o : Int) : Int × Int :=
  if o = 0 ∨ o = 24 then (0, 0) else if o = 6 ∨ o = 7 then (1, 1) else if 8 ≤ o ∧ o ≤ 22 then (2, 2) else if o = 23 then (3, 3) else if o = 25 then (2, 33) else (-1, -1)

set_option maxHeartbeats 1000000 in
theorem kids_b (o : Int) (R : Int × Int) (H : Hid (kidsP o = R)) (w : World) :
    Calls Tryz.prog 105 #[.int .i64 o] w fun e w' => e = .returned (.tuple #[.int .i64 R.1, .int .i64 R.2]) ∧ w = w' := by
  by_cases h0 : o = 0
  · subst h0
    have hR : R = (0, 0) := by rw [← H.out]; unfold kidsP; decide
    subst hR
    clear H
    go_enter Tryz.func105, Tryz.ntmps105
    go_wp2_with fail
    go_returns
    exact ⟨rfl, rfl⟩
  by_cases h24 : o = 24
  · subst h24
    have hR : R = (0, 0) := by rw [← H.out]; unfold kidsP; decide
    subst hR
    clear H
    go_enter Tryz.func105, Tryz.ntmps105
    go_wp2_with fail
    go_returns
    exact ⟨rfl, rfl⟩
  by_cases h6 : o = 6
  · subst h6
    have hR : R = (1, 1) := by rw [← H.out]; unfold kidsP; decide
    subst hR
    clear H
    go_enter Tryz.func105, Tryz.ntmps105
    go_wp2_with fail
    go_returns
    exact ⟨rfl, rfl⟩
  by_cases h7 : o = 7
  · subst h7
    have hR : R = (1, 1) := by rw [← H.out]; unfold kidsP; decide
    subst hR
    clear H
    go_enter Tryz.func105, Tryz.ntmps105
    go_wp2_with fail
    go_returns
    exact ⟨rfl, rfl⟩
  have q0 := beq_of h0
  have q24 := beq_of h24
  have q6 := beq_of h6
  have q7 := beq_of h7
  by_cases h8 : 8 ≤ o ∧ o ≤ 22
  · have d8 : decide (8 ≤ o) = true := decide_eq_true h8.1
    have d22 : decide (o ≤ 22) = true := decide_eq_true h8.2
    have e8 := h8.1
    have e22 := h8.2
    have hR : R = (2, 2) := by rw [← H.out]; unfold kidsP; rw [if_neg (by omega), if_neg (by omega), if_pos h8]
    clear h8 h0 h24 h6 h7
    subst hR
    clear H
    go_enter Tryz.func105, Tryz.ntmps105
    go_wp2_with fail
    go_returns
    exact ⟨rfl, rfl⟩
  by_cases h23 : o = 23
  · subst h23
    clear h0 h24 h6 h7 h8
    have hR : R = (3, 3) := by rw [← H.out]; unfold kidsP; decide
    subst hR
    clear H
    go_enter Tryz.func105, Tryz.ntmps105
    go_wp2_with fail
    go_returns
    exact ⟨rfl, rfl⟩
  by_cases h25 : o = 25
  · subst h25
    clear h0 h24 h6 h7 h8 h23
    have hR : R = (2, 33) := by rw [← H.out]; unfold kidsP; decide
    subst hR
    clear H
    go_enter Tryz.func105, Tryz.ntmps105
    go_wp2_with fail
    go_returns
    exact ⟨rfl, rfl⟩
  have q23 := beq_of h23
  have q25 := beq_of h25
  have hR : R = (-1, -1) := by rw [← H.out]; unfold kidsP; rw [if_neg (by omega), if_neg (by omega), if_neg h8, if_neg h23, if_neg h25]
  subst hR
  clear H
  by_cases d8 : 8 ≤ o
  · have e8 : decide (8 ≤ o) = true := decide_eq_true d8
    have d22 : decide (o ≤ 22) = false := decide_eq_false (by omega)
    have d22' : 22 < o := by omega
    clear h0 h24 h6 h7 h8 h23 h25
    go_enter Tryz.func105, Tryz.ntmps105
    go_wp2_with fail
    go_returns
    exact ⟨rfl, rfl⟩
  · have e8 : decide (8 ≤ o) = false := decide_eq_false d8
    have e8' : o < 8 := by omega
    clear h0 h24 h6 h7 h8 h23 h25
    go_enter Tryz.func105, Tryz.ntmps105
    go_wp2_with fail
    go_returns
    exact ⟨rfl, rfl⟩

mutual
/-- Has a term the right operators, kids and numbers? -/
def formedB (vs : List Vr) (inp : Bool) : Tm → Bool
  | .mk o n ks => formedN vs inp o n ks.length && formedL vs inp ks
def formedL (vs : List Vr) (inp : Bool) : List Tm → Bool
  | [] => true
  | k :: ks => formedB vs inp k && formedL vs inp ks
/-- A node. -/
def formedN (vs : List Vr) (inp : Bool) (o n : Int) (l : Nat) : Bool :=
  decide (0 ≤ (kidsP o).1) && (decide ((kidsP o).1 ≤ (l : Int)) && (decide ((l : Int) ≤ (kidsP o).2) && (if o = 0 then true else if o = 24 then decide (0 ≤ n) && (decide (n < (vs.length : Int)) && !(inp && decide (((vs[n.toNat]?).map Vr.kind).getD 1 = 0))) else decide (n = 0))))
end
theorem formedL_take (vs : List Vr) (inp : Bool) (ks : List Tm) (i : Nat) (h : i < ks.length) (h2 : formedB vs inp ks[i] = false) : formedL vs inp ks = false := by
  induction ks generalizing i with
  | nil => simp at h
  | cons k ks ih =>
    cases i with
    | zero => simp only [formedL]; rw [show (k :: ks)[0] = k from rfl] at h2; rw [h2]; rfl
    | succ i => simp only [formedL]; rw [ih i (by simpa using h) (by simpa using h2)]; simp
theorem formedL_all (vs : List Vr) (inp : Bool) (ks : List Tm) (h : ∀ i (hi : i < ks.length), formedB vs inp ks[i] = true) : formedL vs inp ks = true := by
  induction ks with
  | nil => rfl
  | cons k ks ih =>
    simp only [formedL]
    rw [show formedB vs inp k = true from h 0 (by simp), ih fun i hi => by have := h (i + 1) (by simpa using hi); simpa using this]
    rfl
end Go.Proofs.YtjpjmoejdkmglaaGreat
