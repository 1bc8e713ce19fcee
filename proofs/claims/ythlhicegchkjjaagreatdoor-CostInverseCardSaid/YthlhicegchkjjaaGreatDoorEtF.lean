/-
  The walk over the reference's CheckExpr.
-/
import Derived.Test.YthlhicegchkjjaaGreatDoorEtE
namespace Go.Proofs.YthlhicegchkjjaaGreatDoor
open Go.RowKit
/-- An expression's own block behind which the world only grows. -/
def Boxd (w W : World) (o n : Int) (s : ByteArray) (A : Option Addr) (l c : Nat) : Prop := Below w.heap.size w W ∧ w.heap.size < W.heap.size ∧ W.cell? ⟨w.heap.size, 0, none⟩ = some (.int .i64 o) ∧ W.cell? ⟨w.heap.size, 1, none⟩ = some (.int .i64 n) ∧ W.cell? ⟨w.heap.size, 2, none⟩ = some (.string s) ∧ W.cell? ⟨w.heap.size, 3, none⟩ = some (.slice A l c)
theorem Boxd.next {w W W' : World} {o n : Int} {s : ByteArray} {A : Option Addr} {l c : Nat} (h : Boxd w W o n s A l c) (hb : Below W.heap.size W W') : Boxd w W' o n s A l c := by
  obtain ⟨h0, h1, h2, h3, h4, h5⟩ := h
  have hc : ∀ i, W'.cell? ⟨w.heap.size, i, none⟩ = W.cell? ⟨w.heap.size, i, none⟩ := fun i => hb.cell (p := ⟨w.heap.size, i, none⟩) h1
  have hz := hb.size
  exact ⟨h0.trans (hb.mono (by omega)), by omega, by rw [hc]; exact h2, by rw [hc]; exact h3, by rw [hc]; exact h4, by rw [hc]; exact h5⟩
theorem Boxd.drew {w W : World} {o n : Int} {s : ByteArray} {A : Option Addr} {l c : Nat} (h : Boxd w W o n s A l c) : Boxd w W.drew o n s A l c := h.next (Below.refl _ _).drew
theorem Boxd.eok {w W : World} {o n : Int} {s : ByteArray} {A : Option Addr} {l c : Nat} {ks : List ET} (h : Boxd w W o n s A l c) (hE : EOk w s A c ks) : EOk W s A c ks := hE.below h.1
end Go.Proofs.YthlhicegchkjjaaGreatDoor
