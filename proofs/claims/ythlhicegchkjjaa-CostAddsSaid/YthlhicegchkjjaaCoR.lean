/-
  The walks over the reference's Of and Default, and over slices.Equal at two lists of entries.
-/
import Derived.Test.YthlhicegchkjjaaCoM
import Derived.StillTailTactics
import Derived.BigRegion
import Derived.Laws.StructEq
namespace Go.Proofs.Ythlhicegchkjjaa
open Go.RowKit

set_option maxRecDepth 100000 in
set_option maxHeartbeats 4000000 in
theorem of_b (C : CM) (v : Value) (w : World) (h : LC w v C) :
    Calls Try.prog 45 #[v] w fun e w' => e = .returned (.agg #[.int .i64 C.c0, .int .i64 C.c1, .int .i64 C.c2, .int .i64 C.c3, .int .i64 C.c4, .int .i64 C.c5, .int .i64 C.c6, .int .i64 C.c7, .int .i64 C.c8, .int .i64 C.c9, .int .i64 C.c10, .int .i64 C.c11, .int .i64 C.c12]) ∧ Below w.heap.size w w' := by
  obtain ⟨g, f, cap, rfl, hg, hc⟩ := h
  have k0 := hc 0 (by omega)
  have k1 := hc 1 (by omega)
  have k2 := hc 2 (by omega)
  have k3 := hc 3 (by omega)
  have k4 := hc 4 (by omega)
  have k5 := hc 5 (by omega)
  have k6 := hc 6 (by omega)
  have k7 := hc 7 (by omega)
  have k8 := hc 8 (by omega)
  have k9 := hc 9 (by omega)
  have k10 := hc 10 (by omega)
  have k11 := hc 11 (by omega)
  have k12 := hc 12 (by omega)
  simp only [CM.get, Nat.add_zero] at k0 k1 k2 k3 k4 k5 k6 k7 k8 k9 k10 k11 k12
  clear hc
  go_enter Try.func45, Try.ntmps45
  go_wp2_with fail
  have hne : ¬ w.heap.size = g := by omega
  go_region_held3 (fun W => W.cell? ⟨g, f, none⟩ = some (.int .i64 C.c0) ∧ W.cell? ⟨g, f + 1, none⟩ = some (.int .i64 C.c1) ∧ W.cell? ⟨g, f + 2, none⟩ = some (.int .i64 C.c2) ∧ W.cell? ⟨g, f + 3, none⟩ = some (.int .i64 C.c3) ∧ W.cell? ⟨g, f + 4, none⟩ = some (.int .i64 C.c4) ∧ W.cell? ⟨g, f + 5, none⟩ = some (.int .i64 C.c5) ∧ W.cell? ⟨g, f + 6, none⟩ = some (.int .i64 C.c6) ∧ W.cell? ⟨g, f + 7, none⟩ = some (.int .i64 C.c7) ∧ W.cell? ⟨g, f + 8, none⟩ = some (.int .i64 C.c8) ∧ W.cell? ⟨g, f + 9, none⟩ = some (.int .i64 C.c9) ∧ W.cell? ⟨g, f + 10, none⟩ = some (.int .i64 C.c10) ∧ W.cell? ⟨g, f + 11, none⟩ = some (.int .i64 C.c11) ∧ W.cell? ⟨g, f + 12, none⟩ = some (.int .i64 C.c12)) (go_keep) (fail)
  go_wp2_with fail
  go_returns
  refine ⟨rfl, ?_⟩
  (repeat' (first | exact Below.refl _ _ | refine Below.drew ?_ | refine below_drewN ?_ _ | refine Below.alloc ?_ (by simp; try omega) _ | refine Below.setCell ?_ (by simp; try omega) _))

set_option maxHeartbeats 4000000 in
theorem rdefault_b (w : World) :
    Calls Try.prog 23 #[] w fun e w' => e = .returned (.agg #[.int .i64 1, .int .i64 1, .int .i64 1, .int .i64 2, .int .i64 1, .int .i64 1, .int .i64 0, .int .i64 1, .int .i64 1, .int .i64 3, .int .i64 8, .int .i64 1, .int .i64 1]) ∧ Below w.heap.size w w' := by
  go_enter Try.func23, Try.ntmps23
  go_wp2_with fail
  refine (of_b ⟨1, 1, 1, 2, 1, 1, 0, 1, 1, 3, 8, 1, 1⟩ (.slice (some ⟨w.heap.size + 1, 0, none⟩) 13 13) _ ⟨_, _, _, rfl, by simp, ?_⟩).mono ?_
  · refine forall13 ?_ ?_ ?_ ?_ ?_ ?_ ?_ ?_ ?_ ?_ ?_ ?_ ?_ <;> simp [CM.get]
  rintro e w2 ⟨rfl, hb⟩
  have c0 : w2.cell? ⟨w.heap.size, 0, none⟩ = some (.int .i64 0) := (hb.cell (p := ⟨w.heap.size, 0, none⟩) (by simp; omega)).trans (by simp)
  have f0 : w2.frozen? ⟨w.heap.size, 0, none⟩ = false := (hb.frozen (p := ⟨w.heap.size, 0, none⟩) (by simp; omega)).trans (by simp)
  have c1 : w2.cell? ⟨w.heap.size, 1, none⟩ = some (.int .i64 0) := (hb.cell (p := ⟨w.heap.size, 1, none⟩) (by simp; omega)).trans (by simp)
  have f1 : w2.frozen? ⟨w.heap.size, 1, none⟩ = false := (hb.frozen (p := ⟨w.heap.size, 1, none⟩) (by simp; omega)).trans (by simp)
  have c2 : w2.cell? ⟨w.heap.size, 2, none⟩ = some (.int .i64 0) := (hb.cell (p := ⟨w.heap.size, 2, none⟩) (by simp; omega)).trans (by simp)
  have f2 : w2.frozen? ⟨w.heap.size, 2, none⟩ = false := (hb.frozen (p := ⟨w.heap.size, 2, none⟩) (by simp; omega)).trans (by simp)
  have c3 : w2.cell? ⟨w.heap.size, 3, none⟩ = some (.int .i64 0) := (hb.cell (p := ⟨w.heap.size, 3, none⟩) (by simp; omega)).trans (by simp)
  have f3 : w2.frozen? ⟨w.heap.size, 3, none⟩ = false := (hb.frozen (p := ⟨w.heap.size, 3, none⟩) (by simp; omega)).trans (by simp)
  have c4 : w2.cell? ⟨w.heap.size, 4, none⟩ = some (.int .i64 0) := (hb.cell (p := ⟨w.heap.size, 4, none⟩) (by simp; omega)).trans (by simp)
  have f4 : w2.frozen? ⟨w.heap.size, 4, none⟩ = false := (hb.frozen (p := ⟨w.heap.size, 4, none⟩) (by simp; omega)).trans (by simp)
  have c5 : w2.cell? ⟨w.heap.size, 5, none⟩ = some (.int .i64 0) := (hb.cell (p := ⟨w.heap.size, 5, none⟩) (by simp; omega)).trans (by simp)
  have f5 : w2.frozen? ⟨w.heap.size, 5, none⟩ = false := (hb.frozen (p := ⟨w.heap.size, 5, none⟩) (by simp; omega)).trans (by simp)
  have c6 : w2.cell? ⟨w.heap.size, 6, none⟩ = some (.int .i64 0) := (hb.cell (p := ⟨w.heap.size, 6, none⟩) (by simp; omega)).trans (by simp)
  have f6 : w2.frozen? ⟨w.heap.size, 6, none⟩ = false := (hb.frozen (p := ⟨w.heap.size, 6, none⟩) (by simp; omega)).trans (by simp)
  have c7 : w2.cell? ⟨w.heap.size, 7, none⟩ = some (.int .i64 0) := (hb.cell (p := ⟨w.heap.size, 7, none⟩) (by simp; omega)).trans (by simp)
  have f7 : w2.frozen? ⟨w.heap.size, 7, none⟩ = false := (hb.frozen (p := ⟨w.heap.size, 7, none⟩) (by simp; omega)).trans (by simp)
  have c8 : w2.cell? ⟨w.heap.size, 8, none⟩ = some (.int .i64 0) := (hb.cell (p := ⟨w.heap.size, 8, none⟩) (by simp; omega)).trans (by simp)
  have f8 : w2.frozen? ⟨w.heap.size, 8, none⟩ = false := (hb.frozen (p := ⟨w.heap.size, 8, none⟩) (by simp; omega)).trans (by simp)
  have c9 : w2.cell? ⟨w.heap.size, 9, none⟩ = some (.int .i64 0) := (hb.cell (p := ⟨w.heap.size, 9, none⟩) (by simp; omega)).trans (by simp)
  have f9 : w2.frozen? ⟨w.heap.size, 9, none⟩ = false := (hb.frozen (p := ⟨w.heap.size, 9, none⟩) (by simp; omega)).trans (by simp)
  have c10 : w2.cell? ⟨w.heap.size, 10, none⟩ = some (.int .i64 0) := (hb.cell (p := ⟨w.heap.size, 10, none⟩) (by simp; omega)).trans (by simp)
  have f10 : w2.frozen? ⟨w.heap.size, 10, none⟩ = false := (hb.frozen (p := ⟨w.heap.size, 10, none⟩) (by simp; omega)).trans (by simp)
  have c11 : w2.cell? ⟨w.heap.size, 11, none⟩ = some (.int .i64 0) := (hb.cell (p := ⟨w.heap.size, 11, none⟩) (by simp; omega)).trans (by simp)
  have f11 : w2.frozen? ⟨w.heap.size, 11, none⟩ = false := (hb.frozen (p := ⟨w.heap.size, 11, none⟩) (by simp; omega)).trans (by simp)
  have c12 : w2.cell? ⟨w.heap.size, 12, none⟩ = some (.int .i64 0) := (hb.cell (p := ⟨w.heap.size, 12, none⟩) (by simp; omega)).trans (by simp)
  have f12 : w2.frozen? ⟨w.heap.size, 12, none⟩ = false := (hb.frozen (p := ⟨w.heap.size, 12, none⟩) (by simp; omega)).trans (by simp)
  have hz : w.heap.size < w2.heap.size := by have := hb.size; simp at this; omega
  have HB : Hid (Below w.heap.size w w2) := Below.trans (((Below.refl _ _).alloc (Nat.le_refl _) _).alloc (by simp) _) (hb.mono (by simp; omega))
  clear hb
  go_wp2_with fail
  refine bodyPost_ret (v := .agg #[.int .i64 1, .int .i64 1, .int .i64 1, .int .i64 2, .int .i64 1, .int .i64 1, .int .i64 0, .int .i64 1, .int .i64 1, .int .i64 3, .int .i64 8, .int .i64 1, .int .i64 1]) (by simp [results, Try.results23, go_sem, c0, c1, c2, c3, c4, c5, c6, c7, c8, c9, c10, c11, c12]) rfl ⟨rfl, ?_⟩
  iterate 13 (refine Below.setCell ?_ (by simp) _)
  exact HB.out
theorem eqList_b (C : CM) (v v' : Value) (w : World) (h : LC w v C) (h' : LC w v' C) :
    Calls Try.prog 24 #[v, v'] w fun e w' => e = .returned (.bool true) ∧ ∃ q, w' = w.drewN q := by
  obtain ⟨g, f, cap, rfl, hg, hc⟩ := h
  obtain ⟨g', f', cap', rfl, hg', hc'⟩ := h'
  refine (Try.slices_Equal_int g f 13 cap g' f' 13 cap' C.lst C.lst w (by simp [CM.lst]) (by simp [CM.lst]) (by omega) (by omega) (fun j hj => ?_) (fun j hj => ?_)).mono ?_
  · have hj' : j < 13 := hj
    rw [CM.lst_get C j hj']; exact hc j hj'
  · have hj' : j < 13 := hj
    rw [CM.lst_get C j hj']; exact hc' j hj'
  · rintro e w' ⟨rfl, hq⟩
    exact ⟨ret_bool (by simp), hq⟩
end Go.Proofs.Ythlhicegchkjjaa
