/-
  What a name is; no program is in sight here.
-/
import Derived.WalkKit
import Derived.Lib.Hide
namespace Go.Proofs.YtnipigninbeplaaDoor
open Go.RowKit

theorem toList_nil_iff (s : ByteArray) : (s.toList = []) ↔ s.size = 0 := by
  rw [ByteArray.toList_eq, ← List.length_eq_zero_iff]; simp
/-- May the byte c stand at place k of a name? -/
def okc (k : Nat) (c : UInt8) : Prop := (97 ≤ c.toNat ∧ c.toNat ≤ 122) ∨ (k ≠ 0 ∧ ((48 ≤ c.toNat ∧ c.toNat ≤ 57) ∨ c.toNat = 46 ∨ c.toNat = 95))
instance (k : Nat) (c : UInt8) : Decidable (okc k c) := by unfold okc; infer_instance
/-- Is a text a name? -/
def nameB (s : ByteArray) : Bool := decide (1 ≤ s.size) && (decide (s.size ≤ 40) && decide (∀ k (h : k < s.size), okc k s[k]))
theorem nameB_bad {s : ByteArray} {k : Nat} (h : k < s.size) (hb : ¬ okc k s[k]) : nameB s = false := by
  unfold nameB
  rw [decide_eq_false (fun hx : (∀ k (h : k < s.size), okc k s[k]) => hb (hx k h))]
  simp
end Go.Proofs.YtnipigninbeplaaDoor
