/-
  The walk over the reference's cost of an expression.
-/
import Derived.Test.YthlhicegchkjjaaGreatDoorCoC
import Derived.Test.YthlhicegchkjjaaGreatDoorEtJ
namespace Go.Proofs.YthlhicegchkjjaaGreatDoor
open Go.RowKit
/-- The entries of a model in block b. -/
def CIn (W : World) (b : Nat) (C : CM) : Prop := W.cell? ⟨b, 0, none⟩ = some (.int .i64 C.c0) ∧ W.cell? ⟨b, 1, none⟩ = some (.int .i64 C.c1) ∧ W.cell? ⟨b, 2, none⟩ = some (.int .i64 C.c2) ∧ W.cell? ⟨b, 3, none⟩ = some (.int .i64 C.c3) ∧ W.cell? ⟨b, 4, none⟩ = some (.int .i64 C.c4) ∧ W.cell? ⟨b, 5, none⟩ = some (.int .i64 C.c5) ∧ W.cell? ⟨b, 6, none⟩ = some (.int .i64 C.c6) ∧ W.cell? ⟨b, 7, none⟩ = some (.int .i64 C.c7) ∧ W.cell? ⟨b, 8, none⟩ = some (.int .i64 C.c8) ∧ W.cell? ⟨b, 9, none⟩ = some (.int .i64 C.c9) ∧ W.cell? ⟨b, 10, none⟩ = some (.int .i64 C.c10) ∧ W.cell? ⟨b, 11, none⟩ = some (.int .i64 C.c11) ∧ W.cell? ⟨b, 12, none⟩ = some (.int .i64 C.c12)
theorem CIn.mk {W W' : World} {b : Nat} {C : CM} (h : CIn W b C) (hc : ∀ i, W'.cell? ⟨b, i, none⟩ = W.cell? ⟨b, i, none⟩) : CIn W' b C := by
  unfold CIn at h ⊢
  simp only [hc]
  exact h
/-- A model's own block, an expression's own block behind it, behind which the world only grows. -/
structure Bx (w W : World) (C : CM) (o n : Int) (s : ByteArray) (A : Option Addr) (l c : Nat) : Prop where
  below : Below w.heap.size w W
  size : w.heap.size + 1 < W.heap.size
  cc : CIn W w.heap.size C
  e0 : W.cell? ⟨w.heap.size + 1, 0, none⟩ = some (.int .i64 o)
  e1 : W.cell? ⟨w.heap.size + 1, 1, none⟩ = some (.int .i64 n)
  e2 : W.cell? ⟨w.heap.size + 1, 2, none⟩ = some (.string s)
  e3 : W.cell? ⟨w.heap.size + 1, 3, none⟩ = some (.slice A l c)
theorem Bx.next {w W W' : World} {C : CM} {o n : Int} {s : ByteArray} {A : Option Addr} {l c : Nat} (h : Bx w W C o n s A l c) (hb : Below W.heap.size W W') : Bx w W' C o n s A l c := by
  obtain ⟨h0, h1, h2, h3, h4, h5, h6⟩ := h
  have hc : ∀ i, W'.cell? ⟨w.heap.size, i, none⟩ = W.cell? ⟨w.heap.size, i, none⟩ := fun i => hb.cell (p := ⟨w.heap.size, i, none⟩) (by show w.heap.size < _; omega)
  have hd : ∀ i, W'.cell? ⟨w.heap.size + 1, i, none⟩ = W.cell? ⟨w.heap.size + 1, i, none⟩ := fun i => hb.cell (p := ⟨w.heap.size + 1, i, none⟩) h1
  have hz := hb.size
  exact ⟨h0.trans (hb.mono (by omega)), by omega, h2.mk hc, by rw [hd]; exact h3, by rw [hd]; exact h4, by rw [hd]; exact h5, by rw [hd]; exact h6⟩
theorem Bx.drew {w W : World} {C : CM} {o n : Int} {s : ByteArray} {A : Option Addr} {l c : Nat} (h : Bx w W C o n s A l c) : Bx w W.drew C o n s A l c := h.next (Below.refl _ _).drew
theorem Bx.eok {w W : World} {C : CM} {o n : Int} {s : ByteArray} {A : Option Addr} {l c : Nat} {ks : List ET} (h : Bx w W C o n s A l c) (hE : EOk w s A c ks) : EOk W s A c ks := hE.below h.below
theorem bx (w : World) (C : CM) (o n : Int) (s : ByteArray) (A : Option Addr) (l c : Nat) : Bx w (boxed (boxC w C) o n s A l c) C o n s A l c := by
  refine ⟨?_, by simp [boxed, boxC], ?_, ?_, ?_, ?_, ?_⟩
  · unfold boxed boxC; (repeat' (first | exact Below.refl _ _ | refine Below.alloc ?_ (by simp) _))
  · unfold CIn boxed boxC
    refine ⟨?_, ?_, ?_, ?_, ?_, ?_, ?_, ?_, ?_, ?_, ?_, ?_, ?_⟩ <;> simp
  all_goals unfold boxed boxC; simp
/-- A kid's cells. -/
structure Kx (W : World) (g p : Nat) (o n : Int) (s : ByteArray) (A : Option Addr) (l c : Nat) : Prop where
  lt : g < W.heap.size
  k0 : W.cell? ⟨g, p, none⟩ = some (.int .i64 o)
  k1 : W.cell? ⟨g, p + 1, none⟩ = some (.int .i64 n)
  k2 : W.cell? ⟨g, p + 2, none⟩ = some (.string s)
  k3 : W.cell? ⟨g, p + 3, none⟩ = some (.slice A l c)
theorem Kx.next {W W' : World} {g p : Nat} {o n : Int} {s : ByteArray} {A : Option Addr} {l c : Nat} (h : Kx W g p o n s A l c) (hb : Below W.heap.size W W') : Kx W' g p o n s A l c := by
  obtain ⟨h0, h1, h2, h3, h4⟩ := h
  have hc : ∀ i, W'.cell? ⟨g, i, none⟩ = W.cell? ⟨g, i, none⟩ := fun i => hb.cell (p := ⟨g, i, none⟩) h0
  have hz := hb.size
  exact ⟨by omega, by rw [hc]; exact h1, by rw [hc]; exact h2, by rw [hc]; exact h3, by rw [hc]; exact h4⟩
theorem Kx.drew {W : World} {g p : Nat} {o n : Int} {s : ByteArray} {A : Option Addr} {l c : Nat} (h : Kx W g p o n s A l c) : Kx W.drew g p o n s A l c := h.next (Below.refl _ _).drew
end Go.Proofs.YthlhicegchkjjaaGreatDoor
