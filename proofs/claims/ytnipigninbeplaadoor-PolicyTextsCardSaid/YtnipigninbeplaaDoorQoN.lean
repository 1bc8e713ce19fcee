/-
  What the arguments hold: policies and texts, read out of the row's own reading.
-/
import Derived.Test.YtnipigninbeplaaDoorPoX
import Derived.Test.YtnipigninbeplaaDoorFlIg
namespace Go.Proofs.YtnipigninbeplaaDoor
open Go.RowKit Go.ChangeShapes Go.WideShapes Go.ChangeAt Go.Joins Go.Deep

section
variable {H : Type} {enc : TypeId × Value → H} {w : World} {base : Nat} {spare : Nat → Bool} {held : Bool}
set_option maxRecDepth 100000 in
theorem names_of {fuel : Nat} {v : Value} {x : DataW H × List MemPlace} (h : DataW.trod enc Tryd.prog w base spare held fuel 22 [v] = some x) : ∃ (A : Option Addr) (l c : Nat) (xs : List ByteArray), v = .slice A l c ∧ NOk w A l c xs := by
  rcases slice_cells Tryd.underlying22 (C := 1) (by kernel_rfl) (by omega) h with rfl | ⟨a, len, cap, m, rfl, hm, hl, hc, hcell⟩
  · exact ⟨none, 0, 0, [], rfl, rfl, Nat.le_refl _, Nat.zero_le _, (fun _ h => by cases h), fun h => absurd h (by omega)⟩
  · have hall : ∀ i, i < len → ∃ s : ByteArray, s.size ≤ maxLen ∧ ∀ g f, a = ⟨g, f, none⟩ → w.cell? ⟨g, f + i, none⟩ = some (.string s) := by
      intro i hi
      obtain ⟨g, f, rfl, hg, hcs⟩ := hcell (by omega)
      obtain ⟨cs, y, hcl, ht, hat⟩ := hcs i hi
      obtain ⟨s, e0, _, hs⟩ := DataW.trod_string Tryd.underlying9 ht
      subst e0
      refine ⟨s, hs, fun g' f' he => ?_⟩
      injection he with e1 e2
      subst e1 e2
      have := hat 0 (by omega)
      simpa using this
    obtain ⟨xs, hxl, hxs⟩ := list_build len hall
    refine ⟨some a, len, cap, xs, rfl, hxl, hl, hc, fun v hv => ?_, fun h0 => ?_⟩
    · obtain ⟨i, hi, rfl⟩ := List.getElem_of_mem hv
      exact (hxs i hi).1
    · obtain ⟨g, f, rfl, hg, _⟩ := hcell h0
      exact ⟨g, f, rfl, hg, fun j hj => (hxs j hj).2 g f rfl⟩
set_option maxRecDepth 100000 in
theorem pair_of {fuel : Nat} {v0 v1 : Value} {x : DataW H × List MemPlace} (h : DataW.trod enc Tryd.prog w base spare held fuel 42 [v0, v1] = some x) : ∃ a b : Int, v0 = .int .i64 a ∧ v1 = .int .i64 b := by
  obtain ⟨xs, n, hn, _, _, hxl, hfs⟩ := DataW.trod_array Tryd.underlying42 h
  match xs, hxl with
  | [y0, y1], _ =>
    have t0 := hfs 0 (by omega)
    rw [show Tryd.prog.cellsOf 3 = 1 from by kernel_rfl] at t0
    change DataW.trod enc Tryd.prog w base spare held n 3 [v0] = some y0 at t0
    have t1 := hfs 1 (by omega)
    rw [show Tryd.prog.cellsOf 3 = 1 from by kernel_rfl] at t1
    change DataW.trod enc Tryd.prog w base spare held n 3 [v1] = some y1 at t1
    obtain ⟨a, e0, _⟩ := DataW.trod_int Tryd.underlying3 t0
    obtain ⟨b, e1, _⟩ := DataW.trod_int Tryd.underlying3 t1
    simp only [List.cons.injEq, and_true] at e0 e1
    exact ⟨a, b, e0, e1⟩
set_option maxRecDepth 100000 in
theorem label_of {fuel : Nat} {v0 v1 : Value} {x : DataW H × List MemPlace} (h : DataW.trod enc Tryd.prog w base spare held fuel 71 [v0, v1] = some x) : ∃ (s : ByteArray) (b : Int), v0 = .string s ∧ s.size ≤ maxLen ∧ v1 = .int .i64 b := by
  obtain ⟨xs, n, hn, _, _, hxl, hfs⟩ := DataW.trod_struct Tryd.underlying71 h
  match xs, hxl with
  | [y0, y1], _ =>
    have t0 := hfs 0 _ rfl
    change DataW.trod enc Tryd.prog w base spare held n 9 (List.take (Tryd.prog.cellsOf 9) (List.drop 0 [v0, v1])) = some y0 at t0
    rw [show Tryd.prog.cellsOf 9 = 1 from by kernel_rfl] at t0
    change DataW.trod enc Tryd.prog w base spare held n 9 [v0] = some y0 at t0
    have t1 := hfs 1 _ rfl
    change DataW.trod enc Tryd.prog w base spare held n 3 (List.take (Tryd.prog.cellsOf 3) (List.drop 1 [v0, v1])) = some y1 at t1
    rw [show Tryd.prog.cellsOf 3 = 1 from by kernel_rfl] at t1
    change DataW.trod enc Tryd.prog w base spare held n 3 [v1] = some y1 at t1
    obtain ⟨s, e0, _, hs⟩ := DataW.trod_string Tryd.underlying9 t0
    obtain ⟨b, e1, _⟩ := DataW.trod_int Tryd.underlying3 t1
    simp only [List.cons.injEq, and_true] at e0 e1
    exact ⟨s, b, e0, hs, e1⟩
set_option maxRecDepth 100000 in
theorem pairs_of {fuel : Nat} {v : Value} {x : DataW H × List MemPlace} (h : DataW.trod enc Tryd.prog w base spare held fuel 23 [v] = some x) : ∃ (A : Option Addr) (l c : Nat) (xs : List (Int × Int)), v = .slice A l c ∧ OOk w A l c xs := by
  rcases slice_cells Tryd.underlying23 (C := 2) (by kernel_rfl) (by omega) h with rfl | ⟨a, len, cap, m, rfl, hm, hl, hc, hcell⟩
  · exact ⟨none, 0, 0, [], rfl, rfl, Nat.le_refl _, Nat.zero_le _, fun h => absurd h (by omega)⟩
  · have hall : ∀ i, i < len → ∃ q : Int × Int, ∀ g f, a = ⟨g, f, none⟩ → w.cell? ⟨g, f + i * 2, none⟩ = some (.int .i64 q.1) ∧ w.cell? ⟨g, f + i * 2 + 1, none⟩ = some (.int .i64 q.2) := by
      intro i hi
      obtain ⟨g, f, rfl, hg, hcs⟩ := hcell (by omega)
      obtain ⟨cs, y, hcl, ht, hat⟩ := hcs i hi
      match cs, hcl with
      | [v0, v1], _ =>
        have g0 := hat 0 (by omega)
        have g1 := hat 1 (by omega)
        simp only [List.getElem?_cons_zero, List.getElem?_cons_succ] at g0 g1
        obtain ⟨p, q, rfl, rfl⟩ := pair_of ht
        refine ⟨(p, q), fun g' f' he => ?_⟩
        injection he with e1 e2
        subst e1 e2
        exact ⟨by simpa [Nat.add_assoc] using g0, by simpa [Nat.add_assoc] using g1⟩
    obtain ⟨xs, hxl, hxs⟩ := list_build len hall
    refine ⟨some a, len, cap, xs, rfl, hxl, hl, hc, fun h0 => ?_⟩
    obtain ⟨g, f, rfl, hg, _⟩ := hcell h0
    exact ⟨g, f, rfl, hg, fun j hj => hxs j hj g f rfl⟩
set_option maxRecDepth 100000 in
theorem labels_of {fuel : Nat} {v : Value} {x : DataW H × List MemPlace} (h : DataW.trod enc Tryd.prog w base spare held fuel 24 [v] = some x) : ∃ (A : Option Addr) (l c : Nat) (xs : List Lb), v = .slice A l c ∧ LbOk w A l c xs := by
  rcases slice_cells Tryd.underlying24 (C := 2) (by kernel_rfl) (by omega) h with rfl | ⟨a, len, cap, m, rfl, hm, hl, hc, hcell⟩
  · exact ⟨none, 0, 0, [], rfl, rfl, Nat.le_refl _, Nat.zero_le _, (fun _ h => by cases h), fun h => absurd h (by omega)⟩
  · have hall : ∀ i, i < len → ∃ q : Lb, q.name.size ≤ maxLen ∧ ∀ g f, a = ⟨g, f, none⟩ → w.cell? ⟨g, f + i * 2, none⟩ = some (.string q.name) ∧ w.cell? ⟨g, f + i * 2 + 1, none⟩ = some (.int .i64 q.lev) := by
      intro i hi
      obtain ⟨g, f, rfl, hg, hcs⟩ := hcell (by omega)
      obtain ⟨cs, y, hcl, ht, hat⟩ := hcs i hi
      match cs, hcl with
      | [v0, v1], _ =>
        have g0 := hat 0 (by omega)
        have g1 := hat 1 (by omega)
        simp only [List.getElem?_cons_zero, List.getElem?_cons_succ] at g0 g1
        obtain ⟨s, q, rfl, hs, rfl⟩ := label_of ht
        refine ⟨⟨s, q⟩, hs, fun g' f' he => ?_⟩
        injection he with e1 e2
        subst e1 e2
        exact ⟨by simpa [Nat.add_assoc] using g0, by simpa [Nat.add_assoc] using g1⟩
    obtain ⟨xs, hxl, hxs⟩ := list_build len hall
    refine ⟨some a, len, cap, xs, rfl, hxl, hl, hc, fun v hv => ?_, fun h0 => ?_⟩
    · obtain ⟨i, hi, rfl⟩ := List.getElem_of_mem hv
      exact (hxs i hi).1
    · obtain ⟨g, f, rfl, hg, _⟩ := hcell h0
      exact ⟨g, f, rfl, hg, fun j hj => (hxs j hj).2 g f rfl⟩
set_option maxRecDepth 100000 in
/-- A policy by value. -/
theorem open_policy {r : Reach} {b0 : Nat} {v : Value} {d : DataW H} {p : List MemPlace} (hv : Value.okWide Tryd.prog w r b0 26 v) (h : DataW.Trod enc Tryd.prog w base spare held 26 v d p) :
    ∃ (An : Option Addr) (ln cn : Nat) (Ao : Option Addr) (lo co : Nat) (Ai : Option Addr) (li ci : Nat) (Ah : Option Addr) (lh ch : Nat) (q : Py), v = .agg (pyV An ln cn Ao lo co Ai li ci Ah lh ch q.obs q.timed) ∧ PyOk w An ln cn Ao lo co Ai li ci Ah lh ch q := by
  obtain ⟨cs, rfl, hsz⟩ := okWide_struct Tryd.underlying26 hv
  rw [show Tryd.prog.cellsOf 26 = 6 from by kernel_rfl] at hsz
  obtain ⟨l⟩ := cs
  match l, hsz with
  | [v0, v1, v2, v3, v4, v5], _ =>
    obtain ⟨fuel, hf⟩ := h
    obtain ⟨xs, n, hn, _, _, hxl, hfs⟩ := DataW.trod_struct (cs := [v0, v1, v2, v3, v4, v5]) Tryd.underlying26 hf
    match xs, hxl with
    | [y0, y1, y2, y3, y4, y5], _ =>
      have t0 := hfs 0 _ rfl
      change DataW.trod enc Tryd.prog w base spare held n 22 (List.take (Tryd.prog.cellsOf 22) (List.drop 0 [v0, v1, v2, v3, v4, v5])) = some y0 at t0
      rw [show Tryd.prog.cellsOf 22 = 1 from by kernel_rfl] at t0
      change DataW.trod enc Tryd.prog w base spare held n 22 [v0] = some y0 at t0
      have t1 := hfs 1 _ rfl
      change DataW.trod enc Tryd.prog w base spare held n 23 (List.take (Tryd.prog.cellsOf 23) (List.drop 1 [v0, v1, v2, v3, v4, v5])) = some y1 at t1
      rw [show Tryd.prog.cellsOf 23 = 1 from by kernel_rfl] at t1
      change DataW.trod enc Tryd.prog w base spare held n 23 [v1] = some y1 at t1
      have t2 := hfs 2 _ rfl
      change DataW.trod enc Tryd.prog w base spare held n 24 (List.take (Tryd.prog.cellsOf 24) (List.drop 2 [v0, v1, v2, v3, v4, v5])) = some y2 at t2
      rw [show Tryd.prog.cellsOf 24 = 1 from by kernel_rfl] at t2
      change DataW.trod enc Tryd.prog w base spare held n 24 [v2] = some y2 at t2
      have t3 := hfs 3 _ rfl
      change DataW.trod enc Tryd.prog w base spare held n 24 (List.take (Tryd.prog.cellsOf 24) (List.drop 3 [v0, v1, v2, v3, v4, v5])) = some y3 at t3
      rw [show Tryd.prog.cellsOf 24 = 1 from by kernel_rfl] at t3
      change DataW.trod enc Tryd.prog w base spare held n 24 [v3] = some y3 at t3
      have t4 := hfs 4 _ rfl
      change DataW.trod enc Tryd.prog w base spare held n 3 (List.take (Tryd.prog.cellsOf 3) (List.drop 4 [v0, v1, v2, v3, v4, v5])) = some y4 at t4
      rw [show Tryd.prog.cellsOf 3 = 1 from by kernel_rfl] at t4
      change DataW.trod enc Tryd.prog w base spare held n 3 [v4] = some y4 at t4
      have t5 := hfs 5 _ rfl
      change DataW.trod enc Tryd.prog w base spare held n 4 (List.take (Tryd.prog.cellsOf 4) (List.drop 5 [v0, v1, v2, v3, v4, v5])) = some y5 at t5
      rw [show Tryd.prog.cellsOf 4 = 1 from by kernel_rfl] at t5
      change DataW.trod enc Tryd.prog w base spare held n 4 [v5] = some y5 at t5
      obtain ⟨An, ln, cn, xn, rfl, hn0⟩ := names_of t0
      obtain ⟨Ao, lo, co, xo, rfl, ho0⟩ := pairs_of t1
      obtain ⟨Ai, li, ci, xi, rfl, hi0⟩ := labels_of t2
      obtain ⟨Ah, lh, ch, xh, rfl, hh0⟩ := labels_of t3
      obtain ⟨ob, e4, _⟩ := DataW.trod_int Tryd.underlying3 t4
      obtain ⟨tm, e5, _⟩ := DataW.trod_bool Tryd.underlying4 t5
      simp only [List.cons.injEq, and_true] at e4 e5
      subst e4 e5
      exact ⟨An, ln, cn, Ao, lo, co, Ai, li, ci, Ah, lh, ch, ⟨xn, xo, xi, xh, ob, tm⟩, rfl, hn0, ho0, hi0, hh0⟩
end
end Go.Proofs.YtnipigninbeplaaDoor
