/-
  Texts of cost models: the walk over the reference's Of.
-/
import Derived.Test.YthlhicegchkjjaaGreatDoorCoC
import Derived.BigRegion
import Derived.Deep.RegionHeld3
import Derived.Handy
namespace Go.Proofs.YthlhicegchkjjaaGreatDoor
open Go.RowKit

set_option maxRecDepth 100000 in
set_option maxHeartbeats 4000000 in
theorem of_b (C : CM) (v : Value) (w : World) (h : LC w v C) :
    Calls Tryz.prog 28 #[v] w fun e w' => e = .returned (.agg #[.int .i64 C.c0, .int .i64 C.c1, .int .i64 C.c2, .int .i64 C.c3, .int .i64 C.c4, .int .i64 C.c5, .int .i64 C.c6, .int .i64 C.c7, .int .i64 C.c8, .int .i64 C.c9, .int .i64 C.c10, .int .i64 C.c11, .int .i64 C.c12]) ∧ Below w.heap.size w w' := by
  obtain ⟨g, f, cap, rfl, hg, hc⟩ := h
  have k0 := hc 0 (by omega)
  have k1 := hc 1 (by omega)
  have k2 := hc 2 (by omega)
  have k3 := hc 3 (by omega)
  have k4 := hc 4 (by omega)
  have k5 := hc 5 (by omega)
  have k6 := hc 6 (by omega)
  have k7 := hc 7 (by omega)
  have k8 := hc 8 (by omega)
  have k9 := hc 9 (by omega)
  have k10 := hc 10 (by omega)
  have k11 := hc 11 (by omega)
  have k12 := hc 12 (by omega)
  simp only [CM.get, Nat.add_zero] at k0 k1 k2 k3 k4 k5 k6 k7 k8 k9 k10 k11 k12
  clear hc
  go_enter Tryz.func28, Tryz.ntmps28
  go_wp2_with fail
  have hne : ¬ w.heap.size = g := by omega
  go_region_held3 (fun W => W.cell? ⟨g, f, none⟩ = some (.int .i64 C.c0) ∧ W.cell? ⟨g, f + 1, none⟩ = some (.int .i64 C.c1) ∧ W.cell? ⟨g, f + 2, none⟩ = some (.int .i64 C.c2) ∧ W.cell? ⟨g, f + 3, none⟩ = some (.int .i64 C.c3) ∧ W.cell? ⟨g, f + 4, none⟩ = some (.int .i64 C.c4) ∧ W.cell? ⟨g, f + 5, none⟩ = some (.int .i64 C.c5) ∧ W.cell? ⟨g, f + 6, none⟩ = some (.int .i64 C.c6) ∧ W.cell? ⟨g, f + 7, none⟩ = some (.int .i64 C.c7) ∧ W.cell? ⟨g, f + 8, none⟩ = some (.int .i64 C.c8) ∧ W.cell? ⟨g, f + 9, none⟩ = some (.int .i64 C.c9) ∧ W.cell? ⟨g, f + 10, none⟩ = some (.int .i64 C.c10) ∧ W.cell? ⟨g, f + 11, none⟩ = some (.int .i64 C.c11) ∧ W.cell? ⟨g, f + 12, none⟩ = some (.int .i64 C.c12)) (go_keep) (fail)
  go_wp2_with fail
  go_returns
  refine ⟨rfl, ?_⟩
  (repeat' (first | exact Below.refl _ _ | refine Below.drew ?_ | refine below_drewN ?_ _ | refine Below.alloc ?_ (by simp; try omega) _ | refine Below.setCell ?_ (by simp; try omega) _))
end Go.Proofs.YthlhicegchkjjaaGreatDoor
