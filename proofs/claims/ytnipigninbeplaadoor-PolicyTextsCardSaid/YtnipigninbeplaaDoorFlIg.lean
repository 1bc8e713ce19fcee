/-
  Lists built out of their places, and a slice's cells, read out of a row's own reading.
-/
import Derived.WalkKit
import Derived.Lib.Hide
import Derived.Deep.Slices
import Derived.Deep.Fields
import Derived.ChangeSame
import Derived.OpenShut
import Derived.Lib.SmallJoins
import Derived.ProofKit
import Derived.Test.YtnipigninbeplaaDoorProg
import Derived.Test.YtnipigninbeplaaDoorFlZs
namespace Go.Proofs.YtnipigninbeplaaDoor
open Go.RowKit Go.ChangeShapes Go.WideShapes Go.ChangeAt Go.Joins Go.Deep

set_option maxRecDepth 100000 in
theorem cell_addr {w : World} {a : Addr} {v : Value} (h : w.cell? a = some v) : a = ⟨a.block, a.off, none⟩ := by
  obtain ⟨b, o, s⟩ := a
  cases s with
  | none => rfl
  | some x =>
    exfalso
    unfold World.cell? at h
    split at h <;> simp at h
set_option maxRecDepth 100000 in
theorem add_at (g f j : Nat) : (⟨g, f, none⟩ : Addr).add j = ⟨g, f + j, none⟩ := by unfold Addr.add; split <;> simp_all
set_option maxRecDepth 100000 in
theorem list_build {α : Type} {p : Nat → α → Prop} : ∀ (len : Nat), (∀ i, i < len → ∃ k, p i k) → ∃ ks : List α, ks.length = len ∧ ∀ i (h : i < ks.length), p i ks[i]
  | 0, _ => ⟨[], rfl, fun i h => absurd h (by simp)⟩
  | len + 1, h => by
    obtain ⟨ks, hl, hks⟩ := list_build (p := p) len (fun i hi => h i (by omega))
    obtain ⟨k, hk⟩ := h len (by omega)
    refine ⟨ks ++ [k], by simp [hl], fun i hi => ?_⟩
    simp only [List.length_append, List.length_singleton] at hi
    by_cases e : i < ks.length
    · rw [List.getElem_append_left e]; exact hks i e
    · obtain rfl : i = ks.length := by omega
      rw [List.getElem_append_right (Nat.le_refl _)]; simpa [hl] using hk
section
variable {H : Type} {enc : TypeId × Value → H} {w : World} {base : Nat} {spare : Nat → Bool} {held : Bool}
set_option maxRecDepth 100000 in
/-- A slice's cells, element by element. -/
theorem slice_cells {t e : TypeId} {C : Nat} (hu : Tryd.prog.underlying t = some (.slice e)) (hC : Tryd.prog.cellsOf e = C) (hC0 : 0 < C) {fuel : Nat} {v : Value} {x : DataW H × List MemPlace} (h : DataW.trod enc Tryd.prog w base spare held fuel t [v] = some x) :
    v = .slice none 0 0 ∨ ∃ (a : Addr) (len cap m : Nat), v = .slice (some a) len cap ∧ m < fuel ∧ len ≤ cap ∧ cap ≤ maxLen ∧
      (0 < len → ∃ g f, a = ⟨g, f, none⟩ ∧ g < w.heap.size ∧ ∀ i, i < len → ∃ cs y, cs.length = C ∧ DataW.trod enc Tryd.prog w base spare held m e cs = some y ∧ ∀ j, j < C → w.cell? ⟨g, f + i * C + j, none⟩ = cs[j]?) := by
  rcases DataW.trod_slice hu h with ⟨h0, _⟩ | ⟨a, len, cap, elems, rest, n, hf, hcs, hx, hb, hl, hm, hlen, hel, _, _⟩
  · simp only [List.cons.injEq, and_true] at h0
    exact .inl h0
  · simp only [List.cons.injEq, and_true] at hcs
    refine .inr ⟨a, len, cap, n, hcs, by omega, hl, hm, fun h0 => ?_⟩
    rw [hC] at hel
    have hone : ∀ i, i < len → ∃ cs y, cs.length = C ∧ DataW.trod enc Tryd.prog w base spare held n e cs = some y ∧ ∀ j, j < C → w.cell? ((a.add (i * C)).add j) = cs[j]? := by
      intro i hi
      have h1 := hel i hi
      rw [List.getElem?_eq_getElem (by omega)] at h1
      simp only [Option.bind_eq_some_iff] at h1
      obtain ⟨cs', hc, ht⟩ := h1
      obtain ⟨_, hcl, hat⟩ := World.cells?_some hc
      exact ⟨cs', _, hcl, ht, hat⟩
    obtain ⟨cs0, _, hl0, _, hat0⟩ := hone 0 h0
    have g0 := hat0 0 hC0
    rw [List.getElem?_eq_getElem (by omega), add_add, Nat.zero_mul] at g0
    have ha := cell_addr g0
    have haa : a.add (0 + 0) = a := by unfold Addr.add; rw [if_pos rfl]
    rw [haa] at ha g0
    obtain ⟨gb, fo, sp⟩ := a
    simp only at ha
    injection ha with _ _ hsp
    subst hsp
    refine ⟨gb, fo, rfl, World.block_lt_of_cell? w _ g0, fun i hi => ?_⟩
    obtain ⟨cs, y, hcl, ht, hat⟩ := hone i hi
    refine ⟨cs, y, hcl, ht, fun j hj => ?_⟩
    have := hat j hj
    rw [add_add, add_at, ← Nat.add_assoc] at this
    exact this
set_option maxRecDepth 100000 in
theorem zs_of {fuel : Nat} {v : Value} {x : DataW H × List MemPlace} (h : DataW.trod enc Tryd.prog w base spare held fuel 41 [v] = some x) : ∃ (A : Option Addr) (l c : Nat) (zs : List Int), v = .slice A l c ∧ Zs w A l c zs := by
  rcases slice_cells Tryd.underlying41 (C := 1) (by kernel_rfl) (by omega) h with rfl | ⟨a, len, cap, m, rfl, hm, hl, hc, hcell⟩
  · exact ⟨none, 0, 0, [], rfl, Zs.nil w⟩
  · have hall : ∀ i, i < len → ∃ n : Int, ∀ g f, a = ⟨g, f, none⟩ → w.cell? ⟨g, f + i, none⟩ = some (.int .i64 n) := by
      intro i hi
      obtain ⟨g, f, rfl, _, hcs⟩ := hcell (by omega)
      obtain ⟨cs, y, hcl, ht, hat⟩ := hcs i hi
      obtain ⟨n, e0, _⟩ := DataW.trod_int Tryd.underlying3 ht
      subst e0
      refine ⟨n, fun g' f' he => ?_⟩
      injection he with e1 e2
      subst e1 e2
      have := hat 0 (by omega)
      simpa using this
    obtain ⟨zs, hzl, hzs⟩ := list_build len hall
    refine ⟨some a, len, cap, zs, rfl, hzl, hl, hc, fun h0 => ?_⟩
    obtain ⟨g, f, rfl, hg, _⟩ := hcell h0
    refine ⟨g, f, rfl, hg, fun j hj => ?_⟩
    have hj' : j < zs.length := by omega
    have := hzs j hj' g f rfl
    rw [this, List.getD_eq_getElem?_getD, List.getElem?_eq_getElem hj']
    rfl
end
end Go.Proofs.YtnipigninbeplaaDoor
