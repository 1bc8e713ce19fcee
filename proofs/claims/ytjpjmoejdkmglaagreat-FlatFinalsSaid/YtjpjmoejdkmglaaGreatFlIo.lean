/-
  What the arguments hold: flat programs, inputs, lists of integers, read out of the row's own reading.
-/
import Derived.Test.YtjpjmoejdkmglaaGreatFlA
import Derived.Deep.Slices
import Derived.Deep.Fields
import Derived.ChangeSame
import Derived.OpenShut
import Derived.Lib.SmallJoins
import Derived.ProofKit
namespace Go.Proofs.YtjpjmoejdkmglaaGreat
open Go.RowKit Go.ChangeShapes Go.WideShapes Go.ChangeAt Go.Joins Go.Deep

set_option maxRecDepth 100000 in
theorem cell_addr {w : World} {a : Addr} {v : Value} (h : w.cell? a = some v) : a = ⟨a.block, a.off, none⟩ := by
  obtain ⟨b, o, s⟩ := a
  cases s with
  | none => rfl
  | some x =>
    exfalso
    unfold World.cell? at h
    split at h <;> simp at h
set_option maxRecDepth 100000 in
theorem add_at (g f j : Nat) : (⟨g, f, none⟩ : Addr).add j = ⟨g, f + j, none⟩ := by unfold Addr.add; split <;> simp_all
set_option maxRecDepth 100000 in
theorem td_build {w : World} {A : Option Addr} : ∀ (len j : Nat), (∀ i, i < len → ∃ k, TdE w A (j + i) k) → ∃ ks : List Tm, ks.length = len ∧ Td w A j ks
  | 0, _, _ => ⟨[], rfl, by simp [Td]⟩
  | len + 1, j, h => by
    obtain ⟨k, hk⟩ := h 0 (by omega)
    obtain ⟨ks, hl, hks⟩ := td_build (w := w) (A := A) len (j + 1) (fun i hi => by have := h (i + 1) (by omega); rw [show j + 1 + i = j + (i + 1) from by omega]; exact this)
    exact ⟨k :: ks, by simp [hl], by simp only [Td]; exact ⟨by simpa using hk, hks⟩⟩
set_option maxRecDepth 100000 in
theorem sd_build {w : World} {A : Option Addr} : ∀ (len j : Nat), (∀ i, i < len → ∃ k, SdE w A (j + i) k) → ∃ ks : List Sp, ks.length = len ∧ Sd w A j ks
  | 0, _, _ => ⟨[], rfl, by simp [Sd]⟩
  | len + 1, j, h => by
    obtain ⟨k, hk⟩ := h 0 (by omega)
    obtain ⟨ks, hl, hks⟩ := sd_build (w := w) (A := A) len (j + 1) (fun i hi => by have := h (i + 1) (by omega); rw [show j + 1 + i = j + (i + 1) from by omega]; exact this)
    exact ⟨k :: ks, by simp [hl], by simp only [Sd]; exact ⟨by simpa using hk, hks⟩⟩
set_option maxRecDepth 100000 in
theorem list_build {α : Type} {p : Nat → α → Prop} : ∀ (len : Nat), (∀ i, i < len → ∃ k, p i k) → ∃ ks : List α, ks.length = len ∧ ∀ i (h : i < ks.length), p i ks[i]
  | 0, _ => ⟨[], rfl, fun i h => absurd h (by simp)⟩
  | len + 1, h => by
    obtain ⟨ks, hl, hks⟩ := list_build (p := p) len (fun i hi => h i (by omega))
    obtain ⟨k, hk⟩ := h len (by omega)
    refine ⟨ks ++ [k], by simp [hl], fun i hi => ?_⟩
    simp only [List.length_append, List.length_singleton] at hi
    by_cases e : i < ks.length
    · rw [List.getElem_append_left e]; exact hks i e
    · obtain rfl : i = ks.length := by omega
      rw [List.getElem_append_right (Nat.le_refl _)]; simpa [hl] using hk
section
variable {H : Type} {enc : TypeId × Value → H} {w : World} {base : Nat} {spare : Nat → Bool} {held : Bool}
set_option maxRecDepth 100000 in
/-- A slice's cells, element by element. -/
theorem slice_cells {t e : TypeId} {C : Nat} (hu : Tryz.prog.underlying t = some (.slice e)) (hC : Tryz.prog.cellsOf e = C) (hC0 : 0 < C) {fuel : Nat} {v : Value} {x : DataW H × List MemPlace} (h : DataW.trod enc Tryz.prog w base spare held fuel t [v] = some x) :
    v = .slice none 0 0 ∨ ∃ (a : Addr) (len cap m : Nat), v = .slice (some a) len cap ∧ m < fuel ∧ len ≤ cap ∧ cap ≤ maxLen ∧
      (0 < len → ∃ g f, a = ⟨g, f, none⟩ ∧ g < w.heap.size ∧ ∀ i, i < len → ∃ cs y, cs.length = C ∧ DataW.trod enc Tryz.prog w base spare held m e cs = some y ∧ ∀ j, j < C → w.cell? ⟨g, f + i * C + j, none⟩ = cs[j]?) := by
  rcases DataW.trod_slice hu h with ⟨h0, _⟩ | ⟨a, len, cap, elems, rest, n, hf, hcs, hx, hb, hl, hm, hlen, hel, _, _⟩
  · simp only [List.cons.injEq, and_true] at h0
    exact .inl h0
  · simp only [List.cons.injEq, and_true] at hcs
    refine .inr ⟨a, len, cap, n, hcs, by omega, hl, hm, fun h0 => ?_⟩
    rw [hC] at hel
    have hone : ∀ i, i < len → ∃ cs y, cs.length = C ∧ DataW.trod enc Tryz.prog w base spare held n e cs = some y ∧ ∀ j, j < C → w.cell? ((a.add (i * C)).add j) = cs[j]? := by
      intro i hi
      have h1 := hel i hi
      rw [List.getElem?_eq_getElem (by omega)] at h1
      simp only [Option.bind_eq_some_iff] at h1
      obtain ⟨cs', hc, ht⟩ := h1
      obtain ⟨_, hcl, hat⟩ := World.cells?_some hc
      exact ⟨cs', _, hcl, ht, hat⟩
    obtain ⟨cs0, _, hl0, _, hat0⟩ := hone 0 h0
    have g0 := hat0 0 hC0
    rw [List.getElem?_eq_getElem (by omega), add_add, Nat.zero_mul] at g0
    have ha := cell_addr g0
    have haa : a.add (0 + 0) = a := by unfold Addr.add; rw [if_pos rfl]
    rw [haa] at ha g0
    obtain ⟨gb, fo, sp⟩ := a
    simp only at ha
    injection ha with _ _ hsp
    subst hsp
    refine ⟨gb, fo, rfl, World.block_lt_of_cell? w _ g0, fun i hi => ?_⟩
    obtain ⟨cs, y, hcl, ht, hat⟩ := hone i hi
    refine ⟨cs, y, hcl, ht, fun j hj => ?_⟩
    have := hat j hj
    rw [add_add, add_at, ← Nat.add_assoc] at this
    exact this
set_option maxRecDepth 100000 in
theorem zs_of {fuel : Nat} {v : Value} {x : DataW H × List MemPlace} (h : DataW.trod enc Tryz.prog w base spare held fuel 27 [v] = some x) : ∃ (A : Option Addr) (l c : Nat) (zs : List Int), v = .slice A l c ∧ Zs w A l c zs := by
  rcases slice_cells Tryz.underlying27 (C := 1) (by kernel_rfl) (by omega) h with rfl | ⟨a, len, cap, m, rfl, hm, hl, hc, hcell⟩
  · exact ⟨none, 0, 0, [], rfl, Zs.nil w⟩
  · have hall : ∀ i, i < len → ∃ n : Int, ∀ g f, a = ⟨g, f, none⟩ → w.cell? ⟨g, f + i, none⟩ = some (.int .i64 n) := by
      intro i hi
      obtain ⟨g, f, rfl, _, hcs⟩ := hcell (by omega)
      obtain ⟨cs, y, hcl, ht, hat⟩ := hcs i hi
      obtain ⟨n, e0, _⟩ := DataW.trod_int Tryz.underlying3 ht
      subst e0
      refine ⟨n, fun g' f' he => ?_⟩
      injection he with e1 e2
      subst e1 e2
      have := hat 0 (by omega)
      simpa using this
    obtain ⟨zs, hzl, hzs⟩ := list_build len hall
    refine ⟨some a, len, cap, zs, rfl, hzl, hl, hc, fun h0 => ?_⟩
    obtain ⟨g, f, rfl, hg, _⟩ := hcell h0
    refine ⟨g, f, rfl, hg, fun j hj => ?_⟩
    have hj' : j < zs.length := by omega
    have := hzs j hj' g f rfl
    rw [this, List.getD_eq_getElem?_getD, List.getElem?_eq_getElem hj']
    rfl
set_option maxRecDepth 100000 in
theorem term_of {fuel : Nat} {v0 v1 v2 : Value} {x : DataW H × List MemPlace} (h : DataW.trod enc Tryz.prog w base spare held fuel 53 [v0, v1, v2] = some x) :
    ∃ (m : Nat) (a0 : Int) (a1 : Int) (y2 : DataW H × List MemPlace), m < fuel ∧ v0 = .int .i64 a0 ∧ v1 = .int .i64 a1 ∧ DataW.trod enc Tryz.prog w base spare held m 51 [v2] = some y2 := by
  obtain ⟨xs, n', hn', _, _, hxl, hfs⟩ := DataW.trod_struct Tryz.underlying53 h
  match xs, hxl with
  | [y0, y1, y2], _ =>
    have t0 := hfs 0 _ rfl
    change DataW.trod enc Tryz.prog w base spare held n' 50 (List.take (Tryz.prog.cellsOf 50) (List.drop 0 [v0, v1, v2])) = some y0 at t0
    rw [show Tryz.prog.cellsOf 50 = 1 from by kernel_rfl] at t0
    change DataW.trod enc Tryz.prog w base spare held n' 50 [v0] = some y0 at t0
    have t1 := hfs 1 _ rfl
    change DataW.trod enc Tryz.prog w base spare held n' 3 (List.take (Tryz.prog.cellsOf 3) (List.drop 1 [v0, v1, v2])) = some y1 at t1
    rw [show Tryz.prog.cellsOf 3 = 1 from by kernel_rfl] at t1
    change DataW.trod enc Tryz.prog w base spare held n' 3 [v1] = some y1 at t1
    have t2 := hfs 2 _ rfl
    change DataW.trod enc Tryz.prog w base spare held n' 51 (List.take (Tryz.prog.cellsOf 51) (List.drop 2 [v0, v1, v2])) = some y2 at t2
    rw [show Tryz.prog.cellsOf 51 = 1 from by kernel_rfl] at t2
    change DataW.trod enc Tryz.prog w base spare held n' 51 [v2] = some y2 at t2
    obtain ⟨a0, e0, _⟩ := DataW.trod_int Tryz.underlying50 t0
    simp only [List.cons.injEq, and_true] at e0
    obtain ⟨a1, e1, _⟩ := DataW.trod_int Tryz.underlying3 t1
    simp only [List.cons.injEq, and_true] at e1
    exact ⟨n', a0, a1, y2, by omega, e0, e1, t2⟩
set_option maxRecDepth 100000 in
theorem var_of {fuel : Nat} {v0 v1 v2 v3 v4 : Value} {x : DataW H × List MemPlace} (h : DataW.trod enc Tryz.prog w base spare held fuel 48 [v0, v1, v2, v3, v4] = some x) :
    ∃ (m : Nat) (a0 : ByteArray) (a1 : Int) (a2 : Int) (a3 : Int) (a4 : Int), m < fuel ∧ v0 = .string a0 ∧ a0.size ≤ maxLen ∧ v1 = .int .i64 a1 ∧ v2 = .int .i64 a2 ∧ v3 = .int .i64 a3 ∧ v4 = .int .i64 a4 := by
  obtain ⟨xs, n', hn', _, _, hxl, hfs⟩ := DataW.trod_struct Tryz.underlying48 h
  match xs, hxl with
  | [y0, y1, y2, y3, y4], _ =>
    have t0 := hfs 0 _ rfl
    change DataW.trod enc Tryz.prog w base spare held n' 9 (List.take (Tryz.prog.cellsOf 9) (List.drop 0 [v0, v1, v2, v3, v4])) = some y0 at t0
    rw [show Tryz.prog.cellsOf 9 = 1 from by kernel_rfl] at t0
    change DataW.trod enc Tryz.prog w base spare held n' 9 [v0] = some y0 at t0
    have t1 := hfs 1 _ rfl
    change DataW.trod enc Tryz.prog w base spare held n' 46 (List.take (Tryz.prog.cellsOf 46) (List.drop 1 [v0, v1, v2, v3, v4])) = some y1 at t1
    rw [show Tryz.prog.cellsOf 46 = 1 from by kernel_rfl] at t1
    change DataW.trod enc Tryz.prog w base spare held n' 46 [v1] = some y1 at t1
    have t2 := hfs 2 _ rfl
    change DataW.trod enc Tryz.prog w base spare held n' 3 (List.take (Tryz.prog.cellsOf 3) (List.drop 2 [v0, v1, v2, v3, v4])) = some y2 at t2
    rw [show Tryz.prog.cellsOf 3 = 1 from by kernel_rfl] at t2
    change DataW.trod enc Tryz.prog w base spare held n' 3 [v2] = some y2 at t2
    have t3 := hfs 3 _ rfl
    change DataW.trod enc Tryz.prog w base spare held n' 3 (List.take (Tryz.prog.cellsOf 3) (List.drop 3 [v0, v1, v2, v3, v4])) = some y3 at t3
    rw [show Tryz.prog.cellsOf 3 = 1 from by kernel_rfl] at t3
    change DataW.trod enc Tryz.prog w base spare held n' 3 [v3] = some y3 at t3
    have t4 := hfs 4 _ rfl
    change DataW.trod enc Tryz.prog w base spare held n' 3 (List.take (Tryz.prog.cellsOf 3) (List.drop 4 [v0, v1, v2, v3, v4])) = some y4 at t4
    rw [show Tryz.prog.cellsOf 3 = 1 from by kernel_rfl] at t4
    change DataW.trod enc Tryz.prog w base spare held n' 3 [v4] = some y4 at t4
    obtain ⟨a0, e0, _, hs0⟩ := DataW.trod_string Tryz.underlying9 t0
    simp only [List.cons.injEq, and_true] at e0
    obtain ⟨a1, e1, _⟩ := DataW.trod_int Tryz.underlying46 t1
    simp only [List.cons.injEq, and_true] at e1
    obtain ⟨a2, e2, _⟩ := DataW.trod_int Tryz.underlying3 t2
    simp only [List.cons.injEq, and_true] at e2
    obtain ⟨a3, e3, _⟩ := DataW.trod_int Tryz.underlying3 t3
    simp only [List.cons.injEq, and_true] at e3
    obtain ⟨a4, e4, _⟩ := DataW.trod_int Tryz.underlying3 t4
    simp only [List.cons.injEq, and_true] at e4
    exact ⟨n', a0, a1, a2, a3, a4, by omega, e0, hs0, e1, e2, e3, e4⟩
set_option maxRecDepth 100000 in
theorem hatch_of {fuel : Nat} {v0 v1 v2 v3 v4 v5 : Value} {x : DataW H × List MemPlace} (h : DataW.trod enc Tryz.prog w base spare held fuel 62 [v0, v1, v2, v3, v4, v5] = some x) :
    ∃ (m : Nat) (a0 : ByteArray) (a1 : Int) (a2 : Int) (y3 : DataW H × List MemPlace), m < fuel ∧ v0 = .string a0 ∧ a0.size ≤ maxLen ∧ v1 = .int .i64 a1 ∧ v2 = .int .i64 a2 ∧ DataW.trod enc Tryz.prog w base spare held m 53 [v3, v4, v5] = some y3 := by
  obtain ⟨xs, n', hn', _, _, hxl, hfs⟩ := DataW.trod_struct Tryz.underlying62 h
  match xs, hxl with
  | [y0, y1, y2, y3], _ =>
    have t0 := hfs 0 _ rfl
    change DataW.trod enc Tryz.prog w base spare held n' 9 (List.take (Tryz.prog.cellsOf 9) (List.drop 0 [v0, v1, v2, v3, v4, v5])) = some y0 at t0
    rw [show Tryz.prog.cellsOf 9 = 1 from by kernel_rfl] at t0
    change DataW.trod enc Tryz.prog w base spare held n' 9 [v0] = some y0 at t0
    have t1 := hfs 1 _ rfl
    change DataW.trod enc Tryz.prog w base spare held n' 3 (List.take (Tryz.prog.cellsOf 3) (List.drop 1 [v0, v1, v2, v3, v4, v5])) = some y1 at t1
    rw [show Tryz.prog.cellsOf 3 = 1 from by kernel_rfl] at t1
    change DataW.trod enc Tryz.prog w base spare held n' 3 [v1] = some y1 at t1
    have t2 := hfs 2 _ rfl
    change DataW.trod enc Tryz.prog w base spare held n' 3 (List.take (Tryz.prog.cellsOf 3) (List.drop 2 [v0, v1, v2, v3, v4, v5])) = some y2 at t2
    rw [show Tryz.prog.cellsOf 3 = 1 from by kernel_rfl] at t2
    change DataW.trod enc Tryz.prog w base spare held n' 3 [v2] = some y2 at t2
    have t3 := hfs 3 _ rfl
    change DataW.trod enc Tryz.prog w base spare held n' 53 (List.take (Tryz.prog.cellsOf 53) (List.drop 3 [v0, v1, v2, v3, v4, v5])) = some y3 at t3
    rw [show Tryz.prog.cellsOf 53 = 3 from by kernel_rfl] at t3
    change DataW.trod enc Tryz.prog w base spare held n' 53 [v3, v4, v5] = some y3 at t3
    obtain ⟨a0, e0, _, hs0⟩ := DataW.trod_string Tryz.underlying9 t0
    simp only [List.cons.injEq, and_true] at e0
    obtain ⟨a1, e1, _⟩ := DataW.trod_int Tryz.underlying3 t1
    simp only [List.cons.injEq, and_true] at e1
    obtain ⟨a2, e2, _⟩ := DataW.trod_int Tryz.underlying3 t2
    simp only [List.cons.injEq, and_true] at e2
    exact ⟨n', a0, a1, a2, y3, by omega, e0, hs0, e1, e2, t3⟩
set_option maxRecDepth 100000 in
theorem step_of {fuel : Nat} {v0 v1 v2 v3 v4 v5 v6 v7 v8 v9 : Value} {x : DataW H × List MemPlace} (h : DataW.trod enc Tryz.prog w base spare held fuel 56 [v0, v1, v2, v3, v4, v5, v6, v7, v8, v9] = some x) :
    ∃ (m : Nat) (a0 : Int) (a1 : Int) (a2 : Int) (a3 : Int) (y4 : DataW H × List MemPlace) (y5 : DataW H × List MemPlace) (y6 : DataW H × List MemPlace) (y7 : DataW H × List MemPlace), m < fuel ∧ v0 = .int .i64 a0 ∧ v1 = .int .i64 a1 ∧ v2 = .int .i64 a2 ∧ v3 = .int .i64 a3 ∧ DataW.trod enc Tryz.prog w base spare held m 53 [v4, v5, v6] = some y4 ∧ DataW.trod enc Tryz.prog w base spare held m 24 [v7] = some y5 ∧ DataW.trod enc Tryz.prog w base spare held m 24 [v8] = some y6 ∧ DataW.trod enc Tryz.prog w base spare held m 27 [v9] = some y7 := by
  obtain ⟨xs, n', hn', _, _, hxl, hfs⟩ := DataW.trod_struct Tryz.underlying56 h
  match xs, hxl with
  | [y0, y1, y2, y3, y4, y5, y6, y7], _ =>
    have t0 := hfs 0 _ rfl
    change DataW.trod enc Tryz.prog w base spare held n' 49 (List.take (Tryz.prog.cellsOf 49) (List.drop 0 [v0, v1, v2, v3, v4, v5, v6, v7, v8, v9])) = some y0 at t0
    rw [show Tryz.prog.cellsOf 49 = 1 from by kernel_rfl] at t0
    change DataW.trod enc Tryz.prog w base spare held n' 49 [v0] = some y0 at t0
    have t1 := hfs 1 _ rfl
    change DataW.trod enc Tryz.prog w base spare held n' 3 (List.take (Tryz.prog.cellsOf 3) (List.drop 1 [v0, v1, v2, v3, v4, v5, v6, v7, v8, v9])) = some y1 at t1
    rw [show Tryz.prog.cellsOf 3 = 1 from by kernel_rfl] at t1
    change DataW.trod enc Tryz.prog w base spare held n' 3 [v1] = some y1 at t1
    have t2 := hfs 2 _ rfl
    change DataW.trod enc Tryz.prog w base spare held n' 3 (List.take (Tryz.prog.cellsOf 3) (List.drop 2 [v0, v1, v2, v3, v4, v5, v6, v7, v8, v9])) = some y2 at t2
    rw [show Tryz.prog.cellsOf 3 = 1 from by kernel_rfl] at t2
    change DataW.trod enc Tryz.prog w base spare held n' 3 [v2] = some y2 at t2
    have t3 := hfs 3 _ rfl
    change DataW.trod enc Tryz.prog w base spare held n' 3 (List.take (Tryz.prog.cellsOf 3) (List.drop 3 [v0, v1, v2, v3, v4, v5, v6, v7, v8, v9])) = some y3 at t3
    rw [show Tryz.prog.cellsOf 3 = 1 from by kernel_rfl] at t3
    change DataW.trod enc Tryz.prog w base spare held n' 3 [v3] = some y3 at t3
    have t4 := hfs 4 _ rfl
    change DataW.trod enc Tryz.prog w base spare held n' 53 (List.take (Tryz.prog.cellsOf 53) (List.drop 4 [v0, v1, v2, v3, v4, v5, v6, v7, v8, v9])) = some y4 at t4
    rw [show Tryz.prog.cellsOf 53 = 3 from by kernel_rfl] at t4
    change DataW.trod enc Tryz.prog w base spare held n' 53 [v4, v5, v6] = some y4 at t4
    have t5 := hfs 5 _ rfl
    change DataW.trod enc Tryz.prog w base spare held n' 24 (List.take (Tryz.prog.cellsOf 24) (List.drop 7 [v0, v1, v2, v3, v4, v5, v6, v7, v8, v9])) = some y5 at t5
    rw [show Tryz.prog.cellsOf 24 = 1 from by kernel_rfl] at t5
    change DataW.trod enc Tryz.prog w base spare held n' 24 [v7] = some y5 at t5
    have t6 := hfs 6 _ rfl
    change DataW.trod enc Tryz.prog w base spare held n' 24 (List.take (Tryz.prog.cellsOf 24) (List.drop 8 [v0, v1, v2, v3, v4, v5, v6, v7, v8, v9])) = some y6 at t6
    rw [show Tryz.prog.cellsOf 24 = 1 from by kernel_rfl] at t6
    change DataW.trod enc Tryz.prog w base spare held n' 24 [v8] = some y6 at t6
    have t7 := hfs 7 _ rfl
    change DataW.trod enc Tryz.prog w base spare held n' 27 (List.take (Tryz.prog.cellsOf 27) (List.drop 9 [v0, v1, v2, v3, v4, v5, v6, v7, v8, v9])) = some y7 at t7
    rw [show Tryz.prog.cellsOf 27 = 1 from by kernel_rfl] at t7
    change DataW.trod enc Tryz.prog w base spare held n' 27 [v9] = some y7 at t7
    obtain ⟨a0, e0, _⟩ := DataW.trod_int Tryz.underlying49 t0
    simp only [List.cons.injEq, and_true] at e0
    obtain ⟨a1, e1, _⟩ := DataW.trod_int Tryz.underlying3 t1
    simp only [List.cons.injEq, and_true] at e1
    obtain ⟨a2, e2, _⟩ := DataW.trod_int Tryz.underlying3 t2
    simp only [List.cons.injEq, and_true] at e2
    obtain ⟨a3, e3, _⟩ := DataW.trod_int Tryz.underlying3 t3
    simp only [List.cons.injEq, and_true] at e3
    exact ⟨n', a0, a1, a2, a3, y4, y5, y6, y7, by omega, e0, e1, e2, e3, t4, t5, t6, t7⟩
set_option maxRecDepth 100000 in
theorem td_of : ∀ (fuel : Nat) (v : Value) (x : DataW H × List MemPlace), DataW.trod enc Tryz.prog w base spare held fuel 51 [v] = some x → ∃ (A : Option Addr) (l c : Nat) (ks : List Tm), v = .slice A l c ∧ ks.length = l ∧ TOk w A c ks := by
  intro fuel
  induction fuel using Nat.strongRecOn with
  | ind fuel ih =>
    intro v x h
    rcases slice_cells Tryz.underlying51 (C := 3) (by kernel_rfl) (by omega) h with rfl | ⟨a, len, cap, m, rfl, hm, hl, hc, hcell⟩
    · exact ⟨none, 0, 0, [], rfl, rfl, TOk.nil w⟩
    · have hall : ∀ i, i < len → ∃ k, TdE w (some a) (0 + i) k := by
        intro i hi
        obtain ⟨g, f, rfl, hg, hcs⟩ := hcell (by omega)
        obtain ⟨cs, y, hcl, ht, hat⟩ := hcs i hi
        match cs, hcl with
        | [v0, v1, v2], _ =>
          have g0 := hat 0 (by omega)
          have g1 := hat 1 (by omega)
          have g2 := hat 2 (by omega)
          simp only [List.getElem?_cons_zero, List.getElem?_cons_succ] at g0 g1 g2
          obtain ⟨m', o, n, y2, hmm, rfl, rfl, hk⟩ := term_of ht
          obtain ⟨A', l', c', ks, rfl, hkl, hok⟩ := ih m' (by omega) _ _ hk
          refine ⟨.mk o n ks, ?_⟩
          simp only [TdE]
          rw [hkl]
          exact ⟨g, f, A', c', rfl, hg, by rw [← hkl]; exact hok.1, hok.2.1, by simpa [Nat.add_assoc] using g0, by simpa [Nat.add_assoc] using g1, by simpa [Nat.add_assoc] using g2, hok.2.2⟩
      obtain ⟨ks, hkl, hks⟩ := td_build len 0 hall
      exact ⟨some a, len, cap, ks, rfl, hkl, by omega, hc, hks⟩
set_option maxRecDepth 100000 in
theorem vars_of {fuel : Nat} {v : Value} {x : DataW H × List MemPlace} (h : DataW.trod enc Tryz.prog w base spare held fuel 22 [v] = some x) : ∃ (A : Option Addr) (l c : Nat) (vs : List Vr), v = .slice A l c ∧ VOk w A l c vs := by
  rcases slice_cells Tryz.underlying22 (C := 5) (by kernel_rfl) (by omega) h with rfl | ⟨a, len, cap, m, rfl, hm, hl, hc, hcell⟩
  · exact ⟨none, 0, 0, [], rfl, rfl, Nat.le_refl _, Nat.zero_le _, (fun _ h => by cases h), fun h => absurd h (by omega)⟩
  · have hall : ∀ i, i < len → ∃ k : Vr, k.name.size ≤ maxLen ∧ ∀ g f, a = ⟨g, f, none⟩ → w.cell? ⟨g, f + i * 5, none⟩ = some (.string k.name) ∧ w.cell? ⟨g, f + i * 5 + 1, none⟩ = some (.int .i64 k.kind) ∧ w.cell? ⟨g, f + i * 5 + 2, none⟩ = some (.int .i64 k.low) ∧ w.cell? ⟨g, f + i * 5 + 3, none⟩ = some (.int .i64 k.high) ∧ w.cell? ⟨g, f + i * 5 + 4, none⟩ = some (.int .i64 k.init) := by
      intro i hi
      obtain ⟨g, f, rfl, hg, hcs⟩ := hcell (by omega)
      obtain ⟨cs, y, hcl, ht, hat⟩ := hcs i hi
      match cs, hcl with
      | [v0, v1, v2, v3, v4], _ =>
        have g0 := hat 0 (by omega)
        have g1 := hat 1 (by omega)
        have g2 := hat 2 (by omega)
        have g3 := hat 3 (by omega)
        have g4 := hat 4 (by omega)
        simp only [List.getElem?_cons_zero, List.getElem?_cons_succ] at g0 g1 g2 g3 g4
        obtain ⟨m', s, kd, lo, hi', ii, hmm, rfl, hs, rfl, rfl, rfl, rfl⟩ := var_of ht
        refine ⟨⟨s, kd, lo, hi', ii⟩, hs, fun g' f' he => ?_⟩
        injection he with e1 e2
        subst e1 e2
        exact ⟨by simpa [Nat.add_assoc] using g0, by simpa [Nat.add_assoc] using g1, by simpa [Nat.add_assoc] using g2, by simpa [Nat.add_assoc] using g3, by simpa [Nat.add_assoc] using g4⟩
    obtain ⟨vs, hvl, hvs⟩ := list_build len hall
    refine ⟨some a, len, cap, vs, rfl, hvl, hl, hc, fun v hv => ?_, fun h0 => ?_⟩
    · obtain ⟨i, hi, rfl⟩ := List.getElem_of_mem hv
      exact (hvs i hi).1
    · obtain ⟨g, f, rfl, hg, _⟩ := hcell h0
      exact ⟨g, f, rfl, hg, fun j hj => (hvs j hj).2 g f rfl⟩
set_option maxRecDepth 100000 in
theorem hatches_of {fuel : Nat} {v : Value} {x : DataW H × List MemPlace} (h : DataW.trod enc Tryz.prog w base spare held fuel 23 [v] = some x) : ∃ (A : Option Addr) (l c : Nat) (hs : List Ht), v = .slice A l c ∧ HOk w A l c hs := by
  rcases slice_cells Tryz.underlying23 (C := 6) (by kernel_rfl) (by omega) h with rfl | ⟨a, len, cap, m, rfl, hm, hl, hc, hcell⟩
  · exact ⟨none, 0, 0, [], rfl, rfl, Nat.le_refl _, Nat.zero_le _, (fun _ h => by cases h), fun h => absurd h (by omega)⟩
  · have hall : ∀ i, i < len → ∃ k : Ht, k.name.size ≤ maxLen ∧ ∀ g f, a = ⟨g, f, none⟩ → ∃ A' c', w.cell? ⟨g, f + i * 6, none⟩ = some (.string k.name) ∧ w.cell? ⟨g, f + i * 6 + 1, none⟩ = some (.int .i64 k.low) ∧ w.cell? ⟨g, f + i * 6 + 2, none⟩ = some (.int .i64 k.high) ∧ w.cell? ⟨g, f + i * 6 + 3, none⟩ = some (.int .i64 k.t.op) ∧ w.cell? ⟨g, f + i * 6 + 4, none⟩ = some (.int .i64 k.t.num) ∧ w.cell? ⟨g, f + i * 6 + 5, none⟩ = some (.slice A' k.t.kids.length c') ∧ TOk w A' c' k.t.kids := by
      intro i hi
      obtain ⟨g, f, rfl, hg, hcs⟩ := hcell (by omega)
      obtain ⟨cs, y, hcl, ht, hat⟩ := hcs i hi
      match cs, hcl with
      | [v0, v1, v2, v3, v4, v5], _ =>
        have g0 := hat 0 (by omega)
        have g1 := hat 1 (by omega)
        have g2 := hat 2 (by omega)
        have g3 := hat 3 (by omega)
        have g4 := hat 4 (by omega)
        have g5 := hat 5 (by omega)
        simp only [List.getElem?_cons_zero, List.getElem?_cons_succ] at g0 g1 g2 g3 g4 g5
        obtain ⟨m', s, lo, hi', y3, hmm, rfl, hs, rfl, rfl, ht'⟩ := hatch_of ht
        obtain ⟨m2, o, n, y2, hmm2, rfl, rfl, hk⟩ := term_of ht'
        obtain ⟨A', l', c', ks, rfl, hkl, hok⟩ := td_of m2 _ _ hk
        refine ⟨⟨s, lo, hi', .mk o n ks⟩, hs, fun g' f' he => ?_⟩
        injection he with e1 e2
        subst e1 e2
        subst hkl
        exact ⟨A', c', by simpa [Nat.add_assoc] using g0, by simpa [Nat.add_assoc] using g1, by simpa [Nat.add_assoc] using g2, by simpa [Nat.add_assoc, Tm.op] using g3, by simpa [Nat.add_assoc, Tm.num] using g4, by simpa [Nat.add_assoc, Tm.kids] using g5, hok⟩
    obtain ⟨vs, hvl, hvs⟩ := list_build len hall
    refine ⟨some a, len, cap, vs, rfl, hvl, hl, hc, fun v hv => ?_, fun h0 => ?_⟩
    · obtain ⟨i, hi, rfl⟩ := List.getElem_of_mem hv
      exact (hvs i hi).1
    · obtain ⟨g, f, rfl, hg, _⟩ := hcell h0
      exact ⟨g, f, rfl, hg, fun j hj => (hvs j hj).2 g f rfl⟩
set_option maxRecDepth 100000 in
theorem sd_of : ∀ (fuel : Nat) (v : Value) (x : DataW H × List MemPlace), DataW.trod enc Tryz.prog w base spare held fuel 24 [v] = some x → ∃ (A : Option Addr) (l c : Nat) (ks : List Sp), v = .slice A l c ∧ ks.length = l ∧ SOk w A c ks := by
  intro fuel
  induction fuel using Nat.strongRecOn with
  | ind fuel ih =>
    intro v x h
    rcases slice_cells Tryz.underlying24 (C := 10) (by kernel_rfl) (by omega) h with rfl | ⟨a, len, cap, m, rfl, hm, hl, hc, hcell⟩
    · exact ⟨none, 0, 0, [], rfl, rfl, SOk.nil w⟩
    · have hall : ∀ i, i < len → ∃ k, SdE w (some a) (0 + i) k := by
        intro i hi
        obtain ⟨g, f, rfl, hg, hcs⟩ := hcell (by omega)
        obtain ⟨cs, y, hcl, ht, hat⟩ := hcs i hi
        match cs, hcl with
        | [v0, v1, v2, v3, v4, v5, v6, v7, v8, v9], _ =>
          have g0 := hat 0 (by omega)
          have g1 := hat 1 (by omega)
          have g2 := hat 2 (by omega)
          have g3 := hat 3 (by omega)
          have g4 := hat 4 (by omega)
          have g5 := hat 5 (by omega)
          have g6 := hat 6 (by omega)
          have g7 := hat 7 (by omega)
          have g8 := hat 8 (by omega)
          have g9 := hat 9 (by omega)
          simp only [List.getElem?_cons_zero, List.getElem?_cons_succ] at g0 g1 g2 g3 g4 g5 g6 g7 g8 g9
          obtain ⟨m', d, co, va, n, y4, y7, y8, y9, hmm, rfl, rfl, rfl, rfl, htm, hth, hel, hbs⟩ := step_of ht
          obtain ⟨m2, o, tn, y2, hmm2, rfl, rfl, hk⟩ := term_of htm
          obtain ⟨At, lt, ct, tk, rfl, hkl, htok⟩ := td_of m2 _ _ hk
          obtain ⟨Ah, lh, ch, th, rfl, hhl, hhok⟩ := ih m' (by omega) _ _ hth
          obtain ⟨Ae, le, ce, el, rfl, hll, hlok⟩ := ih m' (by omega) _ _ hel
          obtain ⟨Ab, lb, cb, bs, rfl, hbok⟩ := zs_of hbs
          refine ⟨.mk d co va n (.mk o tn tk) th el bs, ?_⟩
          simp only [SdE]
          have hbl := hbok.len
          subst hkl hhl hll hbl
          exact ⟨g, f, At, ct, Ah, ch, Ae, ce, Ab, cb, rfl, hg, ⟨by simpa [Nat.add_assoc] using g0, by simpa [Nat.add_assoc] using g1, by simpa [Nat.add_assoc] using g2, by simpa [Nat.add_assoc] using g3, by simpa [Nat.add_assoc] using g4, by simpa [Nat.add_assoc] using g5, by simpa [Nat.add_assoc] using g6, by simpa [Nat.add_assoc] using g7, by simpa [Nat.add_assoc] using g8, by simpa [Nat.add_assoc] using g9⟩, htok, hhok, hlok, hbok⟩
      obtain ⟨ks, hkl, hks⟩ := sd_build len 0 hall
      exact ⟨some a, len, cap, ks, rfl, hkl, by omega, hc, hks⟩
set_option maxRecDepth 100000 in
/-- A flat program by value. -/
theorem open_flat {r : Reach} {b0 : Nat} {v : Value} {d : DataW H} {p : List MemPlace} (hv : Value.okWide Tryz.prog w r b0 26 v) (h : DataW.Trod enc Tryz.prog w base spare held 26 v d p) :
    ∃ (Av : Option Addr) (lv cv : Nat) (vs : List Vr) (Ag : Option Addr) (lg cg : Nat) (hs : List Ht) (Ay : Option Addr) (ly cy : Nat) (ks : List Sp), v = .agg #[.slice Av lv cv, .slice Ag lg cg, .slice Ay ly cy] ∧ VOk w Av lv cv vs ∧ HOk w Ag lg cg hs ∧ ks.length = ly ∧ SOk w Ay cy ks := by
  obtain ⟨c0, c1, c2, y0, y1, y2, m, rfl, _, _, h0, h1, h2⟩ := open_agg3 Tryz.underlying26 (by kernel_rfl) (by kernel_rfl) hv h
  obtain ⟨Av, lv, cv, vs, rfl, hvs⟩ := vars_of h0
  obtain ⟨Ag, lg, cg, hs, rfl, hhs⟩ := hatches_of h1
  obtain ⟨Ay, ly, cy, ks, rfl, hl, hks⟩ := sd_of m _ _ h2
  exact ⟨Av, lv, cv, vs, Ag, lg, cg, hs, Ay, ly, cy, ks, rfl, hvs, hhs, hl, hks⟩
set_option maxRecDepth 100000 in
/-- Inputs by value. -/
theorem open_inputs {r : Reach} {b0 : Nat} {v : Value} {d : DataW H} {p : List MemPlace} (hv : Value.okWide Tryz.prog w r b0 29 v) (h : DataW.Trod enc Tryz.prog w base spare held 29 v d p) :
    ∃ (As : Option Addr) (ls cs : Nat) (S : List Int) (Ap : Option Addr) (lp cp : Nat) (Q : List Int) (Ar : Option Addr) (lr cr : Nat) (R : List Int), v = .agg #[.slice As ls cs, .slice Ap lp cp, .slice Ar lr cr] ∧ Zs w As ls cs S ∧ Zs w Ap lp cp Q ∧ Zs w Ar lr cr R := by
  obtain ⟨c0, c1, c2, y0, y1, y2, m, rfl, _, _, h0, h1, h2⟩ := open_agg3 Tryz.underlying29 (by kernel_rfl) (by kernel_rfl) hv h
  obtain ⟨As, ls, cs, S, rfl, hs⟩ := zs_of h0
  obtain ⟨Ap, lp, cp, Q, rfl, hp⟩ := zs_of h1
  obtain ⟨Ar, lr, cr, R, rfl, hr⟩ := zs_of h2
  exact ⟨As, ls, cs, S, Ap, lp, cp, Q, Ar, lr, cr, R, rfl, hs, hp, hr⟩
end
end Go.Proofs.YtjpjmoejdkmglaaGreat
