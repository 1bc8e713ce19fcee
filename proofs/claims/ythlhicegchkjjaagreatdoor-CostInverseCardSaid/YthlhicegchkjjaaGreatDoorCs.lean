/-
  Blocks of memory that are known cell by cell; no program is in sight here.
-/
import Derived.WalkKit
import Derived.Lib.Hide
import Derived.Deep.RegionHeld
namespace Go.Proofs.YthlhicegchkjjaaGreatDoor
open Go.RowKit
/-- Block b begins with these values, and may be written. -/
structure Cs (W : World) (b : Nat) (vs : List Value) : Prop where
  lt : b < W.heap.size
  cell : ∀ j u, vs[j]? = some u → W.cell? ⟨b, j, none⟩ = some u
  free : ∀ j, W.frozen? ⟨b, j, none⟩ = false
theorem Cs.new (W : World) (cs : Array Value) (T : TypeId) : Cs (W.alloc (.cells cs T)) W.heap.size cs.toList := by
  refine ⟨by simp, fun j u hu => ?_, fun j => ?_⟩
  · rw [World.cell?_alloc_new]; simpa using hu
  · go_simp
theorem Cs.next {W W' : World} {b : Nat} {vs : List Value} (h : Cs W b vs) (hb : Below W.heap.size W W') : Cs W' b vs :=
  ⟨Nat.lt_of_lt_of_le h.lt hb.size, fun j u hu => (hb.cell (p := ⟨b, j, none⟩) h.lt).trans (h.cell j u hu), fun j => (hb.frozen (p := ⟨b, j, none⟩) h.lt).trans (h.free j)⟩
theorem Cs.alloc {W : World} {b : Nat} {vs : List Value} (h : Cs W b vs) (o : Obj) : Cs (W.alloc o) b vs := h.next ((Below.refl _ _).alloc (Nat.le_refl _) _)
theorem Cs.drew {W : World} {b : Nat} {vs : List Value} (h : Cs W b vs) : Cs W.drew b vs := h.next (Below.refl _ _).drew
theorem Cs.other {W : World} {b : Nat} {vs : List Value} (h : Cs W b vs) {p : Addr} (hp : p.block ≠ b) (v : Value) : Cs (W.setCell p v) b vs :=
  ⟨by simpa using h.lt, fun j u hu => (World.cell?_setCell_far W p ⟨b, j, none⟩ v hp).trans (h.cell j u hu), fun j => by rw [World.frozen?_setCell]; exact h.free j⟩
theorem Cs.set {W : World} {b : Nat} {vs : List Value} (h : Cs W b vs) (i : Nat) (v : Value) (hi : i < vs.length) : Cs (W.setCell ⟨b, i, none⟩ v) b (vs.set i v) := by
  refine ⟨by simpa using h.lt, fun j u hu => ?_, fun j => by rw [World.frozen?_setCell]; exact h.free j⟩
  by_cases hj : j = i
  · subst hj
    rw [List.getElem?_set_self hi] at hu
    have := h.cell j _ (List.getElem?_eq_getElem hi)
    rw [World.cell?_setCell_same W ⟨b, j, none⟩ v this]
    exact hu
  · rw [List.getElem?_set_ne (fun e => hj e.symm)] at hu
    rw [World.cell?_setCell_other W ⟨b, i, none⟩ ⟨b, j, none⟩ v (by intro e; injection e with _ e2; exact hj e2.symm)]
    exact h.cell j u hu
theorem Cs.at {W : World} {b : Nat} {vs : List Value} (h : Cs W b vs) (j : Nat) (u : Value) (hu : vs[j]? = some u) : W.cell? ⟨b, j, none⟩ = some u := h.cell j u hu
theorem Cs.of4 {W : World} {b : Nat} {v0 v1 v2 v3 : Value} (hb : b < W.heap.size) (h0 : W.cell? ⟨b, 0, none⟩ = some v0) (h1 : W.cell? ⟨b, 1, none⟩ = some v1) (h2 : W.cell? ⟨b, 2, none⟩ = some v2) (h3 : W.cell? ⟨b, 3, none⟩ = some v3) (hf : ∀ j, W.frozen? ⟨b, j, none⟩ = false) : Cs W b [v0, v1, v2, v3] := by
  refine ⟨hb, fun j u hu => ?_, hf⟩
  match j, hu with
  | 0, hu => simp at hu; subst hu; exact h0
  | 1, hu => simp at hu; subst hu; exact h1
  | 2, hu => simp at hu; subst hu; exact h2
  | 3, hu => simp at hu; subst hu; exact h3
theorem Cs.of8 {W : World} {b : Nat} {v0 v1 v2 v3 v4 v5 v6 v7 : Value} (hb : b < W.heap.size) (h0 : W.cell? ⟨b, 0, none⟩ = some v0) (h1 : W.cell? ⟨b, 1, none⟩ = some v1) (h2 : W.cell? ⟨b, 2, none⟩ = some v2) (h3 : W.cell? ⟨b, 3, none⟩ = some v3) (h4 : W.cell? ⟨b, 4, none⟩ = some v4) (h5 : W.cell? ⟨b, 5, none⟩ = some v5) (h6 : W.cell? ⟨b, 6, none⟩ = some v6) (h7 : W.cell? ⟨b, 7, none⟩ = some v7) (hf : ∀ j, W.frozen? ⟨b, j, none⟩ = false) : Cs W b [v0, v1, v2, v3, v4, v5, v6, v7] := by
  refine ⟨hb, fun j u hu => ?_, hf⟩
  match j, hu with
  | 0, hu => simp at hu; subst hu; exact h0
  | 1, hu => simp at hu; subst hu; exact h1
  | 2, hu => simp at hu; subst hu; exact h2
  | 3, hu => simp at hu; subst hu; exact h3
  | 4, hu => simp at hu; subst hu; exact h4
  | 5, hu => simp at hu; subst hu; exact h5
  | 6, hu => simp at hu; subst hu; exact h6
  | 7, hu => simp at hu; subst hu; exact h7
end Go.Proofs.YthlhicegchkjjaaGreatDoor
