/-
  Cost models, and what expressions cost in them; no program is in sight here.
-/
import Derived.Test.YthlhicegchkjjaaGreatDoorEtP
namespace Go.Proofs.YthlhicegchkjjaaGreatDoor
structure CM where
  (c0 c1 c2 c3 c4 c5 c6 c7 c8 c9 c10 c11 c12 : Int)
namespace CM
def get (C : CM) : Nat → Int
  | 0 => C.c0 | 1 => C.c1 | 2 => C.c2 | 3 => C.c3 | 4 => C.c4 | 5 => C.c5 | 6 => C.c6 | 7 => C.c7 | 8 => C.c8 | 9 => C.c9 | 10 => C.c10 | 11 => C.c11 | 12 => C.c12 | _ => 0
/-- Every entry is in its range. -/
def ok (C : CM) : Prop := ∀ j, j < 13 → 0 ≤ C.get j ∧ C.get j ≤ 100
instance (C : CM) : Decidable C.ok := by unfold ok; infer_instance
/-- The code of a model. -/
def chk (C : CM) : Int := if C.ok then 0 else 3
theorem chk_bad {C : CM} {j : Nat} (hj : j < 13) (h : C.get j < 0 ∨ 100 < C.get j) : C.chk = 3 := by
  unfold chk
  rw [if_neg]
  intro hk
  have := hk j hj
  omega
theorem chk_ok {C : CM} (h : ∀ j, j < 13 → 0 ≤ C.get j ∧ C.get j ≤ 100) : C.chk = 0 := if_pos h
theorem chk_cases (C : CM) : (C.chk = 0 ∧ C.ok) ∨ C.chk = 3 := by
  unfold chk
  by_cases h : C.ok
  · exact .inl ⟨if_pos h, h⟩
  · exact .inr (if_neg h)
/-- The cost of a node alone. -/
def node (C : CM) (o : Int) : Int :=
  if o = 3 then C.c6 else if o = 5 then C.c7 else if o = 6 ∨ o = 8 ∨ o = 9 ∨ o = 21 ∨ o = 22 then C.c8 else if o = 10 then C.c9 else if o = 11 ∨ o = 12 then C.c10 else
  if 13 ≤ o ∧ o ≤ 18 then C.c11 else if o = 7 ∨ o = 19 ∨ o = 20 ∨ o = 23 then C.c12 else 0
theorem node_range {C : CM} (h : C.ok) (o : Int) : 0 ≤ C.node o ∧ C.node o ≤ 100 := by
  have h6 := h 6 (by omega); have h7 := h 7 (by omega); have h8 := h 8 (by omega); have h9 := h 9 (by omega); have h10 := h 10 (by omega); have h11 := h 11 (by omega); have h12 := h 12 (by omega)
  simp only [get] at h6 h7 h8 h9 h10 h11 h12
  unfold node
  repeat' split
  all_goals omega
mutual
/-- The cost of an expression. -/
def sum (C : CM) : ET → Int
  | .mk o _ _ ks => C.node o + sumL C ks
def sumL (C : CM) : List ET → Int
  | [] => 0
  | k :: ks => sum C k + sumL C ks
end
theorem sumL_app (C : CM) (a b : List ET) : C.sumL (a ++ b) = C.sumL a + C.sumL b := by
  induction a with
  | nil => simp [sumL]
  | cons k a ih => simp only [List.cons_append, sumL, ih]; omega
mutual
theorem sum_range {C : CM} (h : C.ok) : ∀ e : ET, 0 ≤ C.sum e ∧ C.sum e ≤ 100 * (ET.cnt e : Int)
  | .mk o _ _ ks => by
    have h1 := node_range h o
    have h2 := sumL_range h ks
    simp only [sum, ET.cnt]
    omega
theorem sumL_range {C : CM} (h : C.ok) : ∀ ks : List ET, 0 ≤ C.sumL ks ∧ C.sumL ks ≤ 100 * (ET.cntL ks : Int)
  | [] => by simp [sumL, ET.cntL]
  | k :: ks => by
    have h1 := sum_range h k
    have h2 := sumL_range h ks
    simp only [sumL, ET.cntL]
    omega
end
/-- The code of expressions: that of the first that is not in order. -/
def codes : List ET → Int
  | [] => 0
  | e :: es => if ET.check e = 0 then codes es else (ET.check e : Int)
theorem codes_app (a b : List ET) : codes (a ++ b) = if codes a = 0 then codes b else codes a := by
  induction a with
  | nil => simp [codes]
  | cons e a ih =>
    by_cases h : ET.check e = 0
    · simp [codes, h, ih]
    · simp [codes, h]
/-- The code of a model and expressions. -/
def wf (C : CM) (es : List ET) : Int := if C.chk = 0 then codes es else 3
def opPlace (o : Int) : Bool := decide (o = 3 ∨ o = 4 ∨ o = 5)
/-- The code of a model, a place, further expressions, and a number of scalars. -/
def asg (C : CM) (n : Int) (p : ET) (es : List ET) : Int := if wf C (p :: es) = 0 then (if opPlace p.op then (if n < 0 ∨ 32 < n then 3 else 0) else 1) else wf C (p :: es)
end CM
end Go.Proofs.YthlhicegchkjjaaGreatDoor
