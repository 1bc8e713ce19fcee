/-
  Small helps for walks: equations of results, worlds, comparisons; no function of the program is in sight here.
-/
import Derived.Test.YtnipigninbeplaaDoorProg
import Derived.Test.YtnipigninbeplaaDoorCs
import Derived.WalkSpells
import Derived.WalkLawsBesides
import Derived.BigQuiet
import Derived.Deep.QuietTactic
import Derived.Deep.Cut
import Derived.Deep.RegionHeld3
import Derived.Outline
import Derived.Handy
namespace Go.Proofs.YtnipigninbeplaaDoor
open Go.RowKit

theorem ret_bool {a b : Bool} (h : a = b) : Ending.returned (.bool a) = .returned (.bool b) := by rw [h]
theorem ret_int {k : IntKind} {a b : Int} (h : a = b) : Ending.returned (.int k a) = .returned (.int k b) := by rw [h]
theorem below_drewN {B : Nat} {a w : World} (h : Below B a w) (q : Nat) : Below B a (w.drewN q) := ⟨h.os, h.tape, h.output, h.size, h.block⟩
theorem Cs.drewN {W : World} {b : Nat} {vs : List Value} (h : Cs W b vs) (q : Nat) : Cs (W.drewN q) b vs := h.next (below_drewN (Below.refl _ _) q)
theorem Cs.new1 (W : World) (o : Obj) (cs : Array Value) (T : TypeId) : Cs ((W.alloc o).alloc (.cells cs T)) (W.heap.size + 1) cs.toList := by
  have := Cs.new (W.alloc o) cs T
  rwa [show (W.alloc o).heap.size = W.heap.size + 1 by simp] at this
theorem bne_of {a b : Int} (h : a ≠ b) : (a != b) = true := by rw [bne_iff_ne]; exact h
theorem bne_self (a : Int) : (a != a) = false := by simp
theorem beq_of {a b : Int} (h : a ≠ b) : (a == b) = false := by rw [beq_eq_false_iff_ne]; exact h
end Go.Proofs.YtnipigninbeplaaDoor
