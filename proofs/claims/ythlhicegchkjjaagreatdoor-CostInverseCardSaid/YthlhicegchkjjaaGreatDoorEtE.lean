/-
  The walks over the reference's size of an expression, its verdict, and CheckExpr.
-/
import Derived.Test.YthlhicegchkjjaaGreatDoorEtD
import Derived.Deep.RegionWith
import Derived.Deep.RegionHeld3
namespace Go.Proofs.YthlhicegchkjjaaGreatDoor
open Go.RowKit
def vcode (a b : Int) (f nm nu : Bool) : Int := if 1024 < a ∨ 12 < b then 4 else if f then (if nm then (if nu then 0 else 3) else 7) else 1
/-- Three new blocks: a size, an expression, a result. -/
structure Laid (w W : World) (t : Int) (o n : Int) (s : ByteArray) (A : Option Addr) (l c : Nat) : Prop where
  below : Below w.heap.size w W
  room : w.heap.size + 3 ≤ W.heap.size
  s0 : W.cell? ⟨w.heap.size, 0, none⟩ = some (.int .i64 t)
  s1 : W.cell? ⟨w.heap.size, 1, none⟩ = some (.int .i64 0)
  sf : W.frozen? ⟨w.heap.size, 0, none⟩ = false
  e0 : W.cell? ⟨w.heap.size + 1, 0, none⟩ = some (.int .i64 o)
  e1 : W.cell? ⟨w.heap.size + 1, 1, none⟩ = some (.int .i64 n)
  e2 : W.cell? ⟨w.heap.size + 1, 2, none⟩ = some (.string s)
  e3 : W.cell? ⟨w.heap.size + 1, 3, none⟩ = some (.slice A l c)
  r0 : W.cell? ⟨w.heap.size + 1 + 1, 0, none⟩ = some (.int .i64 0)
  r1 : W.cell? ⟨w.heap.size + 1 + 1, 1, none⟩ = some (.int .i64 0)
  rf : W.frozen? ⟨w.heap.size + 1 + 1, 0, none⟩ = false
  rg : W.frozen? ⟨w.heap.size + 1 + 1, 1, none⟩ = false
theorem Laid.next {w W W' : World} {t o n : Int} {s : ByteArray} {A : Option Addr} {l c : Nat} (h : Laid w W t o n s A l c) (hb : Below W.heap.size W W') : Laid w W' t o n s A l c := by
  have hr := h.room
  have hz := hb.size
  have hc : ∀ k i, k < W.heap.size → W'.cell? ⟨k, i, none⟩ = W.cell? ⟨k, i, none⟩ := fun k i hk => hb.cell (p := ⟨k, i, none⟩) hk
  have hf : ∀ k i, k < W.heap.size → W'.frozen? ⟨k, i, none⟩ = W.frozen? ⟨k, i, none⟩ := fun k i hk => hb.frozen (p := ⟨k, i, none⟩) hk
  refine ⟨h.below.trans (hb.mono (by omega)), by omega, ?_, ?_, ?_, ?_, ?_, ?_, ?_, ?_, ?_, ?_, ?_⟩
  · rw [hc _ _ (by omega)]; exact h.s0
  · rw [hc _ _ (by omega)]; exact h.s1
  · rw [hf _ _ (by omega)]; exact h.sf
  · rw [hc _ _ (by omega)]; exact h.e0
  · rw [hc _ _ (by omega)]; exact h.e1
  · rw [hc _ _ (by omega)]; exact h.e2
  · rw [hc _ _ (by omega)]; exact h.e3
  · rw [hc _ _ (by omega)]; exact h.r0
  · rw [hc _ _ (by omega)]; exact h.r1
  · rw [hf _ _ (by omega)]; exact h.rf
  · rw [hf _ _ (by omega)]; exact h.rg
theorem Laid.drew {w W : World} {t o n : Int} {s : ByteArray} {A : Option Addr} {l c : Nat} (h : Laid w W t o n s A l c) : Laid w W.drew t o n s A l c := h.next (Below.refl _ _).drew
theorem vcode_check (e : ET) : vcode (ET.cnt e) (ET.dep e) (ET.formB e) (ET.namesB e) (ET.numsB e) = (ET.check e : Int) := by
  simp only [vcode, ET.check]
  by_cases h : 1024 < ET.cnt e ∨ 12 < ET.dep e
  · rw [if_pos h, if_pos (by omega)]; rfl
  · rw [if_neg h, if_neg (by omega)]
    cases ET.formB e <;> cases ET.namesB e <;> cases ET.numsB e <;> rfl
end Go.Proofs.YthlhicegchkjjaaGreatDoor
