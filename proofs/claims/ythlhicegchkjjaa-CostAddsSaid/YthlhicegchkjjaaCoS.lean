/-
  The walk over the law's sum of two models.
-/
import Derived.Test.YthlhicegchkjjaaCoR
namespace Go.Proofs.Ythlhicegchkjjaa
open Go.RowKit

namespace CM
def add (C D : CM) : CM := ⟨C.c0 + D.c0, C.c1 + D.c1, C.c2 + D.c2, C.c3 + D.c3, C.c4 + D.c4, C.c5 + D.c5, C.c6 + D.c6, C.c7 + D.c7, C.c8 + D.c8, C.c9 + D.c9, C.c10 + D.c10, C.c11 + D.c11, C.c12 + D.c12⟩
theorem add_get (C D : CM) : ∀ j, j < 13 → (C.add D).get j = C.get j + D.get j := forall13 rfl rfl rfl rfl rfl rfl rfl rfl rfl rfl rfl rfl rfl
theorem lst_len (C : CM) : C.lst.length = 13 := rfl
theorem lst_next (C : CM) (k : Nat) (hk : k < 13) : C.lst.take (k + 1) = C.lst.take k ++ [C.get k] := by
  rw [List.take_succ_eq_append_getElem (by rw [lst_len]; exact hk)]
  have := C.lst_get k hk
  rw [List.getD_eq_getElem?_getD, List.getElem?_eq_getElem (by rw [lst_len]; exact hk)] at this
  simp only [Option.getD_some] at this
  rw [this]
end CM
theorem infoI : (Try.prog.info? 3).map (fun i => (i.zero, i.size, i.bytes)) = some (some (.int .i64 0), 1, 8) := by kernel_rfl
/-- Two models' blocks and the result's, behind which the world only grows. -/
def box2 (w : World) (C D : CM) : World := ((boxC (boxC w C) D)).alloc (.cells #[.int .i64 0, .int .i64 0, .int .i64 0, .int .i64 0, .int .i64 0, .int .i64 0, .int .i64 0, .int .i64 0, .int .i64 0, .int .i64 0, .int .i64 0, .int .i64 0, .int .i64 0] 23)
structure B2 (w W : World) (C D : CM) : Prop where
  b : Below (box2 w C D).heap.size (box2 w C D) W
theorem box2_size (w : World) (C D : CM) : (box2 w C D).heap.size = w.heap.size + 1 + 1 + 1 := by simp [box2, boxC]
theorem box2_below (w : World) (C D : CM) : Below w.heap.size w (box2 w C D) := by
  unfold box2 boxC
  (repeat' (first | exact Below.refl _ _ | refine Below.drew ?_ | refine Below.alloc ?_ (by simp; try omega) _))
theorem B2.next {w W W' : World} {C D : CM} (h : B2 w W C D) (hb : Below W.heap.size W W') : B2 w W' C D := ⟨h.b.trans (hb.mono h.b.size)⟩
theorem B2.drew {w W : World} {C D : CM} (h : B2 w W C D) : B2 w W.drew C D := h.next (Below.refl _ _).drew
theorem B2.out {w W : World} {C D : CM} (h : B2 w W C D) : Below w.heap.size w W := (box2_below w C D).trans (h.b.mono (box2_below w C D).size)
theorem B2.cin {w W : World} {C D : CM} (h : B2 w W C D) : CIn W w.heap.size C ∧ CIn W (w.heap.size + 1) D := by
  have hz := box2_size w C D
  constructor
  · refine CIn.mk (W := box2 w C D) ?_ fun i => h.b.cell (p := ⟨w.heap.size, i, none⟩) (by show w.heap.size < _; omega)
    unfold CIn box2 boxC
    refine ⟨?_, ?_, ?_, ?_, ?_, ?_, ?_, ?_, ?_, ?_, ?_, ?_, ?_⟩ <;> go_simp
  · refine CIn.mk (W := box2 w C D) ?_ fun i => h.b.cell (p := ⟨w.heap.size + 1, i, none⟩) (by show w.heap.size + 1 < _; omega)
    unfold CIn box2 boxC
    refine ⟨?_, ?_, ?_, ?_, ?_, ?_, ?_, ?_, ?_, ?_, ?_, ?_, ?_⟩ <;> go_simp
theorem keep2 {w W : World} {C D : CM} (h : B2 w W C D) : W.cell? ⟨w.heap.size + 1, 0, none⟩ = some (.int .i64 D.c0) ∧ W.cell? ⟨w.heap.size + 1, 1, none⟩ = some (.int .i64 D.c1) ∧ W.cell? ⟨w.heap.size + 1, 2, none⟩ = some (.int .i64 D.c2) ∧ W.cell? ⟨w.heap.size + 1, 3, none⟩ = some (.int .i64 D.c3) ∧ W.cell? ⟨w.heap.size + 1, 4, none⟩ = some (.int .i64 D.c4) ∧ W.cell? ⟨w.heap.size + 1, 5, none⟩ = some (.int .i64 D.c5) ∧ W.cell? ⟨w.heap.size + 1, 6, none⟩ = some (.int .i64 D.c6) ∧ W.cell? ⟨w.heap.size + 1, 7, none⟩ = some (.int .i64 D.c7) ∧ W.cell? ⟨w.heap.size + 1, 8, none⟩ = some (.int .i64 D.c8) ∧ W.cell? ⟨w.heap.size + 1, 9, none⟩ = some (.int .i64 D.c9) ∧ W.cell? ⟨w.heap.size + 1, 10, none⟩ = some (.int .i64 D.c10) ∧ W.cell? ⟨w.heap.size + 1, 11, none⟩ = some (.int .i64 D.c11) ∧ W.cell? ⟨w.heap.size + 1, 12, none⟩ = some (.int .i64 D.c12) ∧ W.cell? ⟨w.heap.size, 0, none⟩ = some (.int .i64 C.c0) ∧ W.cell? ⟨w.heap.size, 1, none⟩ = some (.int .i64 C.c1) ∧ W.cell? ⟨w.heap.size, 2, none⟩ = some (.int .i64 C.c2) ∧ W.cell? ⟨w.heap.size, 3, none⟩ = some (.int .i64 C.c3) ∧ W.cell? ⟨w.heap.size, 4, none⟩ = some (.int .i64 C.c4) ∧ W.cell? ⟨w.heap.size, 5, none⟩ = some (.int .i64 C.c5) ∧ W.cell? ⟨w.heap.size, 6, none⟩ = some (.int .i64 C.c6) ∧ W.cell? ⟨w.heap.size, 7, none⟩ = some (.int .i64 C.c7) ∧ W.cell? ⟨w.heap.size, 8, none⟩ = some (.int .i64 C.c8) ∧ W.cell? ⟨w.heap.size, 9, none⟩ = some (.int .i64 C.c9) ∧ W.cell? ⟨w.heap.size, 10, none⟩ = some (.int .i64 C.c10) ∧ W.cell? ⟨w.heap.size, 11, none⟩ = some (.int .i64 C.c11) ∧ W.cell? ⟨w.heap.size, 12, none⟩ = some (.int .i64 C.c12) := by
  obtain ⟨h1, h2⟩ := h.cin
  unfold CIn at h1 h2
  obtain ⟨a0, a1, a2, a3, a4, a5, a6, a7, a8, a9, a10, a11, a12⟩ := h2
  exact ⟨a0, a1, a2, a3, a4, a5, a6, a7, a8, a9, a10, a11, a12, h1⟩
theorem B2.res {w W : World} {C D : CM} (h : B2 w W C D) : w.heap.size + 1 + 1 < W.heap.size ∧ (∀ i, i < 13 → W.cell? ⟨w.heap.size + 1 + 1, i, none⟩ = some (.int .i64 0)) ∧ ∀ i, W.frozen? ⟨w.heap.size + 1 + 1, i, none⟩ = false := by
  have hz := box2_size w C D
  have hs := h.b.size
  have hr : Cs (box2 w C D) (w.heap.size + 1 + 1) [.int .i64 0, .int .i64 0, .int .i64 0, .int .i64 0, .int .i64 0, .int .i64 0, .int .i64 0, .int .i64 0, .int .i64 0, .int .i64 0, .int .i64 0, .int .i64 0, .int .i64 0] := by
    have h1 : Cs (box2 w C D) (boxC (boxC w C) D).heap.size [.int .i64 0, .int .i64 0, .int .i64 0, .int .i64 0, .int .i64 0, .int .i64 0, .int .i64 0, .int .i64 0, .int .i64 0, .int .i64 0, .int .i64 0, .int .i64 0, .int .i64 0] := Cs.new (boxC (boxC w C) D) #[.int .i64 0, .int .i64 0, .int .i64 0, .int .i64 0, .int .i64 0, .int .i64 0, .int .i64 0, .int .i64 0, .int .i64 0, .int .i64 0, .int .i64 0, .int .i64 0, .int .i64 0] 23
    have h2 : (boxC (boxC w C) D).heap.size = w.heap.size + 1 + 1 := by simp [boxC]
    rw [h2] at h1
    exact h1
  refine ⟨by omega, fun i hi => ?_, fun i => ?_⟩
  · rw [h.b.cell (p := ⟨w.heap.size + 1 + 1, i, none⟩) (by show w.heap.size + 1 + 1 < _; omega)]
    exact hr.cell i _ (by revert i; exact forall13 rfl rfl rfl rfl rfl rfl rfl rfl rfl rfl rfl rfl rfl)
  · rw [h.b.frozen (p := ⟨w.heap.size + 1 + 1, i, none⟩) (by show w.heap.size + 1 + 1 < _; omega)]
    exact hr.free i
/-- The lists stay where an owned row of another block is written. -/
theorem LC.grown {B : Nat} {W W' : World} {v u : Value} {C : CM} {n : Nat} {xs : List Value} {T : TypeId} (h : LC W v C) (hlt : ∀ g f cap, v = .slice (some ⟨g, f, none⟩) 13 cap → g < B) (hown : W.ownsRow B T 1 u n xs) (hg : W.grownBy W' u.ownBlock) : LC W' v C := by
  obtain ⟨g, f, cap, rfl, hz, hc⟩ := h
  have hgB := hlt g f cap rfl
  have hne : some g ≠ u.ownBlock := by
    intro he
    rcases hown.2 with ⟨rfl, _⟩ | ⟨g', cap', cur, rfl, hb, _⟩
    · simp [Value.ownBlock] at he
    · simp [Value.ownBlock] at he; omega
  exact ⟨g, f, cap, rfl, Nat.lt_of_lt_of_le hz hg.size, fun j hj => (hg.cell_far ⟨g, f + j, none⟩ hz hne).trans (hc j hj)⟩

theorem rel_next {w wr w3 : World} {C D : CM} {g1 f1 q1 g2 f2 q2 B g k cap : Nat} {T : TypeId} {xs : List Value} {o : Obj} (hX : B2 w wr C D ∧ LC wr (.slice (some ⟨g1, f1, none⟩) 13 q1) C ∧ LC wr (.slice (some ⟨g2, f2, none⟩) 13 q2) D)
    (hO : wr.ownsRow B T 1 (.slice (some ⟨g, 0, none⟩) k cap) k xs) (hg : ((wr.alloc o).drew).grownBy w3 (Value.slice (some ⟨g, 0, none⟩) k cap).ownBlock) (hS : g1 < B ∧ g2 < B) (hBX : w.heap.size + 1 + 1 + 1 ≤ B) :
    B2 w w3 C D ∧ LC w3 (.slice (some ⟨g1, f1, none⟩) 13 q1) C ∧ LC w3 (.slice (some ⟨g2, f2, none⟩) 13 q2) D := by
  have hn : Below wr.heap.size wr ((wr.alloc o).drew) := ((Below.refl _ _).alloc (Nat.le_refl _) _).drew
  have hO' : ((wr.alloc o).drew).ownsRow B T 1 (.slice (some ⟨g, 0, none⟩) k cap) k xs := (hO.alloc o).drew
  refine ⟨⟨(hX.1.next hn).b.grown hg ?_ ?_⟩, (hX.2.1.next hn).grown ?_ hO' hg, (hX.2.2.next hn).grown ?_ hO' hg⟩
  · exact (hX.1.next hn).b.size
  · intro j hj
    simp only [Value.ownBlock, Option.some.injEq] at hj
    rw [box2_size]
    rcases hO.2 with ⟨h0, _⟩ | ⟨g', cap', cur, he, hb, _⟩
    · simp at h0
    · simp only [Value.slice.injEq, Option.some.injEq, Addr.mk.injEq, and_true, true_and] at he
      omega
  · intro g' f' c' he
    simp only [Value.slice.injEq, Option.some.injEq, Addr.mk.injEq, and_true, true_and] at he
    omega
  · intro g' f' c' he
    simp only [Value.slice.injEq, Option.some.injEq, Addr.mk.injEq, and_true, true_and] at he
    omega

set_option maxRecDepth 100000 in
set_option maxHeartbeats 8000000 in
theorem lsum_b (C D E : CM) (hC : C.ok) (hD : D.ok) (H : Hid (C.add D = E)) (w : World) :
    Calls Try.prog 16 #[.agg #[.int .i64 C.c0, .int .i64 C.c1, .int .i64 C.c2, .int .i64 C.c3, .int .i64 C.c4, .int .i64 C.c5, .int .i64 C.c6, .int .i64 C.c7, .int .i64 C.c8, .int .i64 C.c9, .int .i64 C.c10, .int .i64 C.c11, .int .i64 C.c12], .agg #[.int .i64 D.c0, .int .i64 D.c1, .int .i64 D.c2, .int .i64 D.c3, .int .i64 D.c4, .int .i64 D.c5, .int .i64 D.c6, .int .i64 D.c7, .int .i64 D.c8, .int .i64 D.c9, .int .i64 D.c10, .int .i64 D.c11, .int .i64 D.c12]] w fun e w' => e = .returned (.agg #[.int .i64 E.c0, .int .i64 E.c1, .int .i64 E.c2, .int .i64 E.c3, .int .i64 E.c4, .int .i64 E.c5, .int .i64 E.c6, .int .i64 E.c7, .int .i64 E.c8, .int .i64 E.c9, .int .i64 E.c10, .int .i64 E.c11, .int .i64 E.c12]) ∧ Below w.heap.size w w' := by
  have X0 : Hid (B2 w (box2 w C D) C D) := ⟨Below.refl _ _⟩
  have HCD := Lib.hid (And.intro hC hD)
  clear hC hD
  go_enter Try.func16, Try.ntmps16
  go_upto_region 1 with fail
  have hbx : ((w.alloc (.cells #[.int .i64 C.c0, .int .i64 C.c1, .int .i64 C.c2, .int .i64 C.c3, .int .i64 C.c4, .int .i64 C.c5, .int .i64 C.c6, .int .i64 C.c7, .int .i64 C.c8, .int .i64 C.c9, .int .i64 C.c10, .int .i64 C.c11, .int .i64 C.c12] 23)).alloc (.cells #[.int .i64 D.c0, .int .i64 D.c1, .int .i64 D.c2, .int .i64 D.c3, .int .i64 D.c4, .int .i64 D.c5, .int .i64 D.c6, .int .i64 D.c7, .int .i64 D.c8, .int .i64 D.c9, .int .i64 D.c10, .int .i64 D.c11, .int .i64 D.c12] 23)).alloc (.cells #[.int .i64 0, .int .i64 0, .int .i64 0, .int .i64 0, .int .i64 0, .int .i64 0, .int .i64 0, .int .i64 0, .int .i64 0, .int .i64 0, .int .i64 0, .int .i64 0, .int .i64 0] 23) = box2 w C D := rfl
  rw [hbx]
  clear hbx
  generalize box2 w C D = W at X0 ⊢
  have hk := keep2 X0.out
  obtain ⟨a0, a1, a2, a3, a4, a5, a6, a7, a8, a9, a10, a11, a12, b0, b1, b2, b3, b4, b5, b6, b7, b8, b9, b10, b11, b12⟩ := hk
  go_region_held3 (fun W => W.cell? ⟨w.heap.size + 1, 0, none⟩ = some (.int .i64 D.c0) ∧ W.cell? ⟨w.heap.size + 1, 1, none⟩ = some (.int .i64 D.c1) ∧ W.cell? ⟨w.heap.size + 1, 2, none⟩ = some (.int .i64 D.c2) ∧ W.cell? ⟨w.heap.size + 1, 3, none⟩ = some (.int .i64 D.c3) ∧ W.cell? ⟨w.heap.size + 1, 4, none⟩ = some (.int .i64 D.c4) ∧ W.cell? ⟨w.heap.size + 1, 5, none⟩ = some (.int .i64 D.c5) ∧ W.cell? ⟨w.heap.size + 1, 6, none⟩ = some (.int .i64 D.c6) ∧ W.cell? ⟨w.heap.size + 1, 7, none⟩ = some (.int .i64 D.c7) ∧ W.cell? ⟨w.heap.size + 1, 8, none⟩ = some (.int .i64 D.c8) ∧ W.cell? ⟨w.heap.size + 1, 9, none⟩ = some (.int .i64 D.c9) ∧ W.cell? ⟨w.heap.size + 1, 10, none⟩ = some (.int .i64 D.c10) ∧ W.cell? ⟨w.heap.size + 1, 11, none⟩ = some (.int .i64 D.c11) ∧ W.cell? ⟨w.heap.size + 1, 12, none⟩ = some (.int .i64 D.c12) ∧ W.cell? ⟨w.heap.size, 0, none⟩ = some (.int .i64 C.c0) ∧ W.cell? ⟨w.heap.size, 1, none⟩ = some (.int .i64 C.c1) ∧ W.cell? ⟨w.heap.size, 2, none⟩ = some (.int .i64 C.c2) ∧ W.cell? ⟨w.heap.size, 3, none⟩ = some (.int .i64 C.c3) ∧ W.cell? ⟨w.heap.size, 4, none⟩ = some (.int .i64 C.c4) ∧ W.cell? ⟨w.heap.size, 5, none⟩ = some (.int .i64 C.c5) ∧ W.cell? ⟨w.heap.size, 6, none⟩ = some (.int .i64 C.c6) ∧ W.cell? ⟨w.heap.size, 7, none⟩ = some (.int .i64 C.c7) ∧ W.cell? ⟨w.heap.size, 8, none⟩ = some (.int .i64 C.c8) ∧ W.cell? ⟨w.heap.size, 9, none⟩ = some (.int .i64 C.c9) ∧ W.cell? ⟨w.heap.size, 10, none⟩ = some (.int .i64 C.c10) ∧ W.cell? ⟨w.heap.size, 11, none⟩ = some (.int .i64 C.c11) ∧ W.cell? ⟨w.heap.size, 12, none⟩ = some (.int .i64 C.c12)) (first | exact keep2 X0.out.drew | exact keep2 X1.out | exact keep2 X2.out) (first
    | (go_at_call_of 26 C.c0; refine (rlist_b C _).mono ?_; rintro e w1 ⟨⟨v, rfl, hl⟩, hb⟩; have HV := Lib.hid hl; obtain ⟨g1, f1, q1, rfl, -, -⟩ := hl; have X1 := Lib.hid (X0.out.drew.next hb); clear hb)
    | (go_at_call_of 26 D.c0; refine (rlist_b D _).mono ?_; rintro e w2 ⟨⟨v', rfl, hl⟩, hb⟩; have HV' := Lib.hid (And.intro (HV.out.next hb) hl); obtain ⟨g2, f2, q2, rfl, -, -⟩ := hl; have X2 := Lib.hid (X1.out.next hb); clear hb))
  clear X0 X1 HV a0 a1 a2 a3 a4 a5 a6 a7 a8 a9 a10 a11 a12 b0 b1 b2 b3 b4 b5 b6 b7 b8 b9 b10 b11 b12
  go_wp2_with fail
  have HS : Hid (g1 < w2.heap.size ∧ g2 < w2.heap.size) := by
    obtain ⟨⟨a1, a2, a3, e1, a4, _⟩, ⟨b1, b2, b3, e2, b4, _⟩⟩ := HV'.out
    simp only [Value.slice.injEq, Option.some.injEq, Addr.mk.injEq, and_true, true_and] at e1 e2
    obtain ⟨⟨rfl, -⟩, -⟩ := e1
    obtain ⟨⟨rfl, -⟩, -⟩ := e2
    exact ⟨a4, b4⟩
  have HO0 : Hid ((w2.alloc (.cells #[] 3)).ownsRow w2.heap.size 3 1 (.slice (some ⟨w2.heap.size, 0, none⟩) 0 0) 0 ((E.lst.take 0).map (Value.int .i64))) := World.ownsRow_made w2 #[] 0 (Nat.le_refl _) (Nat.zero_le _) rfl
  have HX0 : Hid (B2 w (w2.alloc (.cells #[] 3)) C D ∧ LC (w2.alloc (.cells #[] 3)) (.slice (some ⟨g1, f1, none⟩) 13 q1) C ∧ LC (w2.alloc (.cells #[] 3)) (.slice (some ⟨g2, f2, none⟩) 13 q2) D) :=
    ⟨X2.out.next ((Below.refl _ _).alloc (Nat.le_refl _) _), HV'.out.1.next ((Below.refl _ _).alloc (Nat.le_refl _) _), HV'.out.2.next ((Below.refl _ _).alloc (Nat.le_refl _) _)⟩
  obtain ⟨B, hB⟩ : ∃ B, w2.heap.size = B := ⟨_, rfl⟩
  have HB := Lib.hid hB
  have HBX : Hid (w.heap.size + 1 + 1 + 1 ≤ B) := by
    show _ ≤ _
    rw [← hB]; have := X2.out.b.size; rw [box2_size] at this; exact this
  rw [hB] at HO0 HS
  clear HV' X2
  go_loopw [7, 16] (fun u x wr => ∃ k g cap : Nat, k ≤ 13 ∧ x = .int .i64 k ∧ u = .slice (some ⟨g, 0, none⟩) k cap ∧ B ≤ wr.heap.size ∧ Hid (wr.ownsRow B 3 1 (.slice (some ⟨g, 0, none⟩) k cap) k ((E.lst.take k).map (Value.int .i64))) ∧ Hid (B2 w wr C D ∧ LC wr (.slice (some ⟨g1, f1, none⟩) 13 q1) C ∧ LC wr (.slice (some ⟨g2, f2, none⟩) 13 q2) D)) (fun _ x _ => 13 - (intOf x).toNat)
  case atStart => exact ⟨0, B, 0, by omega, rfl, by rw [hB], by rw [← hB]; simp, HO0, HX0⟩
  case round =>
    obtain ⟨k, g, cap, hk, rfl, rfl, hBw, HO, HX⟩ := hrel
    clear HO0 HX0 hB
    by_cases hlt : k < 13
    · obtain ⟨a1, a2, a3, e1, a4, a5⟩ := HX.out.2.1
      obtain ⟨b1, b2, b3, e2, b4, b5⟩ := HX.out.2.2
      simp only [Value.slice.injEq, Option.some.injEq, Addr.mk.injEq, and_true, true_and] at e1 e2
      obtain ⟨⟨rfl, rfl⟩, rfl⟩ := e1
      obtain ⟨⟨rfl, rfl⟩, rfl⟩ := e2
      have h1 := a5 k hlt
      have h2 := b5 k hlt
      obtain ⟨x1, hx1⟩ : ∃ x, C.get k = x := ⟨_, rfl⟩
      obtain ⟨y1, hy1⟩ : ∃ x, D.get k = x := ⟨_, rfl⟩
      have r1 := HCD.out.1 k hlt
      have r2 := HCD.out.2 k hlt
      rw [hx1] at h1 r1
      rw [hy1] at h2 r2
      obtain ⟨z1, hz1⟩ : ∃ z, x1 + y1 = z := ⟨_, rfl⟩
      have hwr : IntKind.i64.wrap (x1 + y1) = z1 := by rw [← hz1]; exact IntWalk.i64_in _ (by omega)
      have HZ : Hid (E.lst.take (k + 1) = E.lst.take k ++ [z1]) := by
        show _ = _
        rw [CM.lst_next E k hlt, ← H.out, CM.add_get C D k hlt, hx1, hy1, hz1]
      obtain ⟨i0, hi0, hz0, hzz1, hz2⟩ := info_parts infoI
      have HI := Lib.hid (And.intro hi0 (And.intro hz0 (And.intro hzz1 hz2)))
      have hk0 : (0 : Int) ≤ (k : Int) := by omega
      have hk1 : (k : Int) < 13 := by omega
      clear a5 b5 hx1 hy1 hz1 hi0 hz0 hzz1 hz2 r1 r2
      go_wp2_with fail
      go_region_law (refine step_append_lies _ (by rfl) _ _ _ (by rfl) B 3 i0 _ 1 8 Try.underlying42 HI.out.1 HI.out.2.1 HI.out.2.2.1 HI.out.2.2.2 rfl (by omega) _ k _ (by rfl) ((HO.out.alloc _).drew) ⟨wr.heap.size, 0, none⟩ 1 1 [.int .i64 z1] (by rfl) (by rfl) (World.news_of_block (cs := #[.int .i64 z1]) (t := 3) (fr := (0, 0)) (heap_alloc_new wr _)) (by simp [Value.oneCell']) (by omega) (by unfold maxLen; omega) (by omega) (by simp; omega) (wr.heap.size + 1) (by simp) ?_; intro gg cap' w3 hown3 hgrow hat hlt3)
      all_goals
        have HX3 := Lib.hid (rel_next HX.out HO.out hgrow HS.out HBX.out)
        have HO3 : Hid (w3.ownsRow B 3 1 (.slice (some ⟨gg, 0, none⟩) (k + 1) cap') (k + 1) ((E.lst.take (k + 1)).map (Value.int .i64))) := by
          show World.ownsRow _ _ _ _ _ _ _
          rw [HZ.out, List.map_append]; exact hown3
        have hB3 : B ≤ w3.heap.size := by have := hgrow.size; simp at this; omega
        clear hown3 hgrow hat HX HO h1 h2
        go_wp2_with fail
        go_roundw
        case rel => exact ⟨k + 1, gg, cap', by omega, by go_num, rfl, hB3, HO3, HX3⟩
        case measure => simp [intOf]; omega
    · obtain rfl : 13 = k := by omega
      have HE : Hid (LC wr (.slice (some ⟨g, 0, none⟩) 13 cap) E) := by
        have := HO.out
        rw [show E.lst.take 13 = E.lst from rfl] at this
        exact own_LC this
      have X3 := Lib.hid HX.out.1
      clear HO HX hlt
      go_wp2_with fail
      refine (of_b E _ _ HE.out).mono ?_
      rintro e w4 ⟨rfl, hb⟩
      have X4 := Lib.hid (X3.out.next hb)
      have hr := X4.out.res
      have c0 := hr.2.1 0 (by omega)
      have f0' := hr.2.2 0
      have c1 := hr.2.1 1 (by omega)
      have f1' := hr.2.2 1
      have c2 := hr.2.1 2 (by omega)
      have f2' := hr.2.2 2
      have c3 := hr.2.1 3 (by omega)
      have f3' := hr.2.2 3
      have c4 := hr.2.1 4 (by omega)
      have f4' := hr.2.2 4
      have c5 := hr.2.1 5 (by omega)
      have f5' := hr.2.2 5
      have c6 := hr.2.1 6 (by omega)
      have f6' := hr.2.2 6
      have c7 := hr.2.1 7 (by omega)
      have f7' := hr.2.2 7
      have c8 := hr.2.1 8 (by omega)
      have f8' := hr.2.2 8
      have c9 := hr.2.1 9 (by omega)
      have f9' := hr.2.2 9
      have c10 := hr.2.1 10 (by omega)
      have f10' := hr.2.2 10
      have c11 := hr.2.1 11 (by omega)
      have f11' := hr.2.2 11
      have c12 := hr.2.1 12 (by omega)
      have f12' := hr.2.2 12
      have hrl := hr.1
      clear hb hr X3 HE
      go_wp2_with fail
      refine bodyPost_ret (v := .agg #[.int .i64 E.c0, .int .i64 E.c1, .int .i64 E.c2, .int .i64 E.c3, .int .i64 E.c4, .int .i64 E.c5, .int .i64 E.c6, .int .i64 E.c7, .int .i64 E.c8, .int .i64 E.c9, .int .i64 E.c10, .int .i64 E.c11, .int .i64 E.c12]) (by simp [results, Try.results16, go_sem, c0, c1, c2, c3, c4, c5, c6, c7, c8, c9, c10, c11, c12]) rfl ⟨rfl, ?_⟩
      iterate 13 (refine Below.setCell ?_ (by show w.heap.size ≤ w.heap.size + 1 + 1; omega) _)
      exact X4.out.out

namespace ET
mutual
theorem place_sum {C : CM} (h : C.ok) : ∀ e : ET, placeB e = true → C.c6 ≤ C.sum e
  | .mk o n s ks => fun hp => by
    have h0 := CM.node_range h o
    have h1 := CM.sumL_range h ks
    by_cases h3 : o = 3
    · subst h3
      have : C.node 3 = C.c6 := rfl
      simp only [CM.sum]; omega
    · by_cases h45 : o = 4 ∨ o = 5
      · cases ks with
        | nil => rw [place_nil o n s h3] at hp; exact absurd hp (by decide)
        | cons k ks =>
          rw [place_kid o n s k ks h3 h45] at hp
          have h2 := place_sum h k hp
          have h4 := CM.sumL_range h ks
          simp only [CM.sum, CM.sumL]; omega
      · rw [place_no o n s ks h3 h45] at hp; exact absurd hp (by decide)
end
theorem check_0' {e : ET} (h : check e = 0) : cnt e ≤ 1024 ∧ dep e ≤ 12 ∧ formB e = true ∧ namesB e = true ∧ numsB e = true := by
  unfold check at h
  by_cases h0 : 1024 < cnt e ∨ 12 < dep e
  · rw [if_pos h0] at h; exact absurd h (by decide)
  · rw [if_neg h0] at h
    by_cases h1 : formB e = true
    · rw [if_pos h1] at h
      by_cases h2 : namesB e = true
      · rw [if_pos h2] at h
        by_cases h3 : numsB e = true
        · exact ⟨by omega, by omega, h1, h2, h3⟩
        · rw [if_neg h3] at h; exact absurd h (by decide)
      · rw [if_neg h2] at h; exact absurd h (by decide)
    · rw [if_neg h1] at h; exact absurd h (by decide)
theorem place_of {p : ET} (hc : check p = 0) (ho : CM.opPlace p.op = true) : placeB p = true := by
  obtain ⟨_, _, hf, _, _⟩ := check_0' hc
  obtain ⟨o, n, s, ks⟩ := p
  have ho' : o = 3 ∨ o = 4 ∨ o = 5 := by unfold CM.opPlace at ho; exact of_decide_eq_true ho
  by_cases h3 : o = 3
  · subst h3; exact place_3 n s ks
  · rw [formB.eq_def] at hf
    simp only [Bool.and_eq_true] at hf
    have h1 := hf.1
    rw [nodeForm_parts] at h1
    have h45 : o = 4 ∨ o = 5 := by omega
    have hd : (decide (o = 4) || decide (o = 5)) = true := by simpa using h45
    simp only [Bool.and_eq_true, hd, Bool.not_true, Bool.false_or] at h1
    exact h1.2.2.2
end ET
namespace CM
theorem sum_add (C D : CM) : ∀ e : ET, (C.add D).sum e = C.sum e + D.sum e := by
  have hn : ∀ o, (C.add D).node o = C.node o + D.node o := by
    intro o
    unfold node
    repeat' split
    all_goals first | rfl | omega
  suffices h : ∀ m (e : ET), ET.cnt e ≤ m → (C.add D).sum e = C.sum e + D.sum e from fun e => h _ e (Nat.le_refl _)
  intro m
  induction m with
  | zero => intro e h; obtain ⟨o, n, s, ks⟩ := e; simp [ET.cnt] at h
  | succ m ih =>
    intro e h
    obtain ⟨o, n, s, ks⟩ := e
    simp only [ET.cnt] at h
    have hl : ∀ ks : List ET, ET.cntL ks ≤ m → (C.add D).sumL ks = C.sumL ks + D.sumL ks := by
      intro ks
      induction ks with
      | nil => intro _; simp [sumL]
      | cons k ks ihl =>
        intro hk
        simp only [ET.cntL] at hk
        simp only [sumL, ih k (by omega), ihl (by omega)]
        omega
    simp only [sum, hn, hl ks (by omega)]
    omega
theorem asg_same {C D : CM} (hC : C.chk = 0) (hD : D.chk = 0) (z : Int) (p : ET) (es : List ET) : asg C z p es = asg D z p es := by
  unfold asg wf
  rw [if_pos hC, if_pos hD]
theorem wf_same {C D : CM} (hC : C.chk = 0) (hD : D.chk = 0) (es : List ET) : wf C es = wf D es := by
  unfold wf
  rw [if_pos hC, if_pos hD]
theorem chk_ok' {C : CM} (h : C.chk = 0) : C.ok := by
  rcases chk_cases C with ⟨_, h1⟩ | h1
  · exact h1
  · omega
theorem set_range {C : CM} (hC : C.chk = 0) {p v : ET} {z a j : Int} (h : C.setR p v z = (a, j)) (hp : ET.cnt p ≤ 1000000) (hv : ET.cnt v ≤ 1000000) : 0 ≤ a ∧ a ≤ 1000000000 := by
  have hok := chk_ok' hC
  unfold setR at h
  by_cases ha : asg C z p [v] = 0
  · rw [if_pos ha] at h
    obtain ⟨rfl, -⟩ := pair_eq h
    obtain ⟨hz0, hz1⟩ := asg_num0 ha
    have r1 := sum_range hok p
    have r2 := sum_range hok v
    have h0 := hok 0 (by omega)
    have h6 := hok 6 (by omega)
    simp only [get] at h0 h6
    have hp1 : 0 ≤ C.c0 * z := Int.mul_nonneg h0.1 hz0
    have hp2 : C.c0 * z ≤ 100 * 32 := Int.mul_le_mul h0.2 hz1 hz0 (by omega)
    have hpl : C.c6 ≤ C.sum p := by
      unfold asg at ha
      by_cases hw : wf C (p :: [v]) = 0
      · rw [if_pos hw] at ha
        by_cases ho : opPlace p.op = true
        · refine ET.place_sum hok p (ET.place_of ?_ ho)
          unfold wf at hw
          rw [if_pos hC] at hw
          simp only [codes] at hw
          by_cases hc : ET.check p = 0
          · exact hc
          · rw [if_neg hc] at hw; omega
        · rw [if_neg ho] at ha; exact absurd ha (by decide)
      · rw [if_neg hw] at ha; exact absurd ha hw
    omega
  · rw [if_neg ha] at h
    obtain ⟨rfl, -⟩ := pair_eq h
    omega
theorem adds {C D : CM} (hC : C.chk = 0) (hD : D.chk = 0) (hE : (C.add D).chk = 0) (p v : ET) (z : Int) (hp : ET.cnt p ≤ 1000000) (hv : ET.cnt v ≤ 1000000) :
    ∃ a b j x y i, C.setR p v z = (a, j) ∧ D.setR p v z = (b, j) ∧ (C.add D).setR p v z = (a + b, j) ∧ C.plusR C.c1 v = (x, i) ∧ D.plusR D.c1 v = (y, i) ∧ (C.add D).plusR (C.add D).c1 v = (x + y, i) ∧
      0 ≤ a ∧ a ≤ 1000000000 ∧ 0 ≤ b ∧ b ≤ 1000000000 ∧ 0 ≤ x ∧ x ≤ 1000000000 ∧ 0 ≤ y ∧ y ≤ 1000000000 := by
  obtain ⟨⟨a, j⟩, h1⟩ : ∃ r, C.setR p v z = r := ⟨_, rfl⟩
  obtain ⟨⟨b, j'⟩, h2⟩ : ∃ r, D.setR p v z = r := ⟨_, rfl⟩
  obtain ⟨⟨x, i⟩, h3⟩ : ∃ r, C.plusR C.c1 v = r := ⟨_, rfl⟩
  obtain ⟨⟨y, i'⟩, h4⟩ : ∃ r, D.plusR D.c1 v = r := ⟨_, rfl⟩
  have r1 := set_range hC h1 hp hv
  have r2 := set_range hD h2 hp hv
  have hCk := chk_ok' hC
  have hDk := chk_ok' hD
  have c1 := hCk 1 (by omega)
  have d1 := hDk 1 (by omega)
  simp only [get] at c1 d1
  have s1 := sum_range hCk v
  have s2 := sum_range hDk v
  have hs : asg C z p [v] = asg D z p [v] := asg_same hC hD z p [v]
  have hs' : asg (C.add D) z p [v] = asg D z p [v] := asg_same hE hD z p [v]
  have hw : wf C [v] = wf D [v] := wf_same hC hD [v]
  have hw' : wf (C.add D) [v] = wf D [v] := wf_same hE hD [v]
  have e0 : (C.add D).c0 = C.c0 + D.c0 := rfl
  have e1 : (C.add D).c1 = C.c1 + D.c1 := rfl
  have e6 : (C.add D).c6 = C.c6 + D.c6 := rfl
  have hset : j = j' ∧ (C.add D).setR p v z = (a + b, j) := by
    unfold setR at h1 h2 ⊢
    rw [hs] at h1
    rw [hs', sum_add, sum_add, e0, e6]
    by_cases hq : asg D z p [v] = 0
    · rw [if_pos hq] at h1 h2 ⊢
      obtain ⟨rfl, rfl⟩ := pair_eq h1
      obtain ⟨rfl, rfl⟩ := pair_eq h2
      refine ⟨rfl, ?_⟩
      rw [Int.add_mul]
      congr 1
      omega
    · rw [if_neg hq] at h1 h2 ⊢
      obtain ⟨rfl, rfl⟩ := pair_eq h1
      obtain ⟨rfl, rfl⟩ := pair_eq h2
      exact ⟨rfl, rfl⟩
  have hif : i = i' ∧ (C.add D).plusR (C.add D).c1 v = (x + y, i) ∧ 0 ≤ x ∧ x ≤ 1000000000 ∧ 0 ≤ y ∧ y ≤ 1000000000 := by
    unfold plusR exprR at h3 h4 ⊢
    rw [hw] at h3
    rw [hw', sum_add, e1]
    by_cases hq : wf D [v] = 0
    · rw [if_pos hq, if_pos rfl] at h3 h4 ⊢
      obtain ⟨rfl, rfl⟩ := pair_eq h3
      obtain ⟨rfl, rfl⟩ := pair_eq h4
      refine ⟨rfl, ?_, ?_⟩
      · congr 1
        simp only
        omega
      · simp only
        omega
    · rw [if_neg hq, if_neg hq] at h3 h4 ⊢
      obtain ⟨rfl, rfl⟩ := pair_eq h3
      obtain ⟨rfl, rfl⟩ := pair_eq h4
      exact ⟨rfl, rfl, by omega, by omega, by omega, by omega⟩
  obtain ⟨rfl, h5⟩ := hset
  obtain ⟨rfl, h6, h7⟩ := hif
  exact ⟨a, b, j, x, y, i, h1, h2, h5, h3, h4, h6, r1.1, r1.2, r2.1, r2.2, h7⟩
end CM
end Go.Proofs.Ythlhicegchkjjaa
