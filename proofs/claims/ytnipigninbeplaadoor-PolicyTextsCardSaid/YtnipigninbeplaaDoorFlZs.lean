/-
  Lists of integers in memory; no program is in sight here.
-/
import Derived.WalkKit
import Derived.Lib.Hide
namespace Go.Proofs.YtnipigninbeplaaDoor
open Go.RowKit

/-- A list of integers. -/
structure Zs (W : World) (A : Option Addr) (l c : Nat) (zs : List Int) : Prop where
  len : zs.length = l
  cap : l ≤ c
  big : c ≤ maxLen
  mem : 0 < l → ∃ g f, A = some ⟨g, f, none⟩ ∧ g < W.heap.size ∧ ∀ j, j < l → W.cell? ⟨g, f + j, none⟩ = some (.int .i64 (zs.getD j 0))
theorem Zs.below {W W' : World} {A : Option Addr} {l c : Nat} {zs : List Int} (h : Zs W A l c zs) (hb : Below W.heap.size W W') : Zs W' A l c zs :=
  ⟨h.len, h.cap, h.big, fun h0 => by
    obtain ⟨g, f, h1, h2, h3⟩ := h.mem h0
    exact ⟨g, f, h1, Nat.lt_of_lt_of_le h2 hb.size, fun j hj => (hb.cell (p := ⟨g, _, none⟩) h2).trans (h3 j hj)⟩⟩
theorem Zs.nil (W : World) : Zs W none 0 0 [] := ⟨rfl, Nat.le_refl _, Nat.zero_le _, fun h => absurd h (by omega)⟩
end Go.Proofs.YtnipigninbeplaaDoor
