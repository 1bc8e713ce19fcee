/-
  The walks over the reference's functions that count an expression's nodes and its depth, and what is left of a number.
-/
import Derived.Test.YthlhicegchkjjaaGreatDoorProg
import Derived.Test.YthlhicegchkjjaaGreatDoorEt
import Derived.WalkSpells
import Derived.WalkLawsBesides
import Derived.BigQuiet
import Derived.Deep.QuietTactic
import Derived.Outline
namespace Go.Proofs.YthlhicegchkjjaaGreatDoor
open Go.RowKit
theorem ret_bool {a b : Bool} (h : a = b) : Ending.returned (.bool a) = .returned (.bool b) := by rw [h]
theorem below_drewN {B : Nat} {a w : World} (h : Below B a w) (q : Nat) : Below B a (w.drewN q) := ⟨h.os, h.tape, h.output, h.size, h.block⟩
/-- The world behind the entry of a function that takes an expression: its parameter lies in a block of its own. -/
def boxed (w : World) (o n : Int) (s : ByteArray) (A : Option Addr) (l c : Nat) : World := w.alloc (.cells #[.int .i64 o, .int .i64 n, .string s, .slice A l c] 44)
theorem boxed_below (w : World) (o n : Int) (s : ByteArray) (A : Option Addr) (l c : Nat) : Below w.heap.size w (boxed w o n s A l c) := (Below.refl _ _).alloc (Nat.le_refl _) _
theorem boxed_cells {w wr : World} {o n : Int} {s : ByteArray} {A : Option Addr} {l c : Nat} (hb : Below (boxed w o n s A l c).heap.size (boxed w o n s A l c) wr) :
    wr.cell? ⟨w.heap.size, 0, none⟩ = some (.int .i64 o) ∧ wr.cell? ⟨w.heap.size, 1, none⟩ = some (.int .i64 n) ∧ wr.cell? ⟨w.heap.size, 2, none⟩ = some (.string s) ∧ wr.cell? ⟨w.heap.size, 3, none⟩ = some (.slice A l c) := by
  have h : ∀ i, wr.cell? ⟨w.heap.size, i, none⟩ = (boxed w o n s A l c).cell? ⟨w.heap.size, i, none⟩ := fun i => hb.cell (p := ⟨w.heap.size, i, none⟩) (by simp [boxed])
  rw [h, h, h, h]
  simp [boxed]
theorem boxed_to {w wr : World} {o n : Int} {s : ByteArray} {A : Option Addr} {l c : Nat} (hb : Below (boxed w o n s A l c).heap.size (boxed w o n s A l c) wr) : Below w.heap.size w wr :=
  (boxed_below w o n s A l c).trans (hb.mono (boxed_below w o n s A l c).size)
end Go.Proofs.YthlhicegchkjjaaGreatDoor
