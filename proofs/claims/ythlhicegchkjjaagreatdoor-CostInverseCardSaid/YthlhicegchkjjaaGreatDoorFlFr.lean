/-
  Worlds that agree but at some blocks; no program is in sight here.
-/
import Derived.Test.YthlhicegchkjjaaGreatDoorCs
namespace Go.Proofs.YthlhicegchkjjaaGreatDoor
open Go.RowKit

/-- But for the blocks of S all that was there is as it was. -/
structure Fr (S : Nat → Prop) (w w' : World) : Prop where
  os : w'.os = w.os
  tape : w'.tape = w.tape
  output : w'.output = w.output
  size : w.heap.size ≤ w'.heap.size
  block : ∀ k, k < w.heap.size → ¬ S k → w'.heap[k]? = w.heap[k]?
theorem Fr.refl (S : Nat → Prop) (w : World) : Fr S w w := ⟨rfl, rfl, rfl, Nat.le_refl _, fun _ _ _ => rfl⟩
theorem Fr.trans {S : Nat → Prop} {a b c : World} (h : Fr S a b) (k : Fr S b c) : Fr S a c :=
  ⟨k.os.trans h.os, k.tape.trans h.tape, k.output.trans h.output, Nat.le_trans h.size k.size, fun i hi hs => (k.block i (Nat.lt_of_lt_of_le hi h.size) hs).trans (h.block i hi hs)⟩
theorem Fr.of {S : Nat → Prop} {a b : World} (h : Below a.heap.size a b) : Fr S a b := ⟨h.os, h.tape, h.output, h.size, fun k hk _ => h.block k hk⟩
theorem Fr.alloc {S : Nat → Prop} {a b : World} (h : Fr S a b) (o : Obj) : Fr S a (b.alloc o) := h.trans (Fr.of ((Below.refl _ _).alloc (Nat.le_refl _) o))
theorem Fr.drew {S : Nat → Prop} {a b : World} (h : Fr S a b) : Fr S a b.drew := h.trans (Fr.of (Below.refl _ _).drew)
theorem Fr.setCell {S : Nat → Prop} {a b : World} (h : Fr S a b) {p : Addr} (hp : S p.block) (u : Value) : Fr S a (b.setCell p u) :=
  h.trans ⟨rfl, rfl, rfl, by simp [World.setCell], fun k _ hs => Below.heap_setCell _ _ _ _ (fun e => hs (e ▸ hp))⟩
theorem Fr.cell {S : Nat → Prop} {w w' : World} (h : Fr S w w') {p : Addr} (hp : p.block < w.heap.size) (hs : ¬ S p.block) : w'.cell? p = w.cell? p := World.cell?_of_block (w := w) (h.block p.block hp hs)
theorem Fr.frozen {S : Nat → Prop} {w w' : World} (h : Fr S w w') {p : Addr} (hp : p.block < w.heap.size) (hs : ¬ S p.block) : w'.frozen? p = w.frozen? p := World.frozen?_of_block (w := w) (h.block p.block hp hs)
/-- What lies below B and outside of S stays. -/
theorem Fr.below {S : Nat → Prop} {w0 w w' : World} {B : Nat} (h : Fr S w w') (hb : Below B w0 w) (hs : ∀ k, S k → B ≤ k) (hB : B ≤ w.heap.size) : Below B w0 w' :=
  hb.trans ⟨h.os, h.tape, h.output, h.size, fun k hk => h.block k (by omega) (fun e => by have := hs k e; omega)⟩
theorem Cs.fr {S : Nat → Prop} {w w' : World} {b : Nat} {vs : List Value} (h : Cs w b vs) (hf : Fr S w w') (hs : ¬ S b) : Cs w' b vs :=
  ⟨Nat.lt_of_lt_of_le h.lt hf.size, fun j u hu => (hf.cell (p := ⟨b, j, none⟩) h.lt hs).trans (h.cell j u hu), fun j => (hf.frozen (p := ⟨b, j, none⟩) h.lt hs).trans (h.free j)⟩
end Go.Proofs.YthlhicegchkjjaaGreatDoor
