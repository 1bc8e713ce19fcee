/-
  What the arguments hold: bytes, integers and pairs by value, read out of the row's own reading.
-/
import Derived.Test.YtnipigninbeplaaDoorQoN
import Derived.Test.YtnipigninbeplaaDoorQoW
namespace Go.Proofs.YtnipigninbeplaaDoor
open Go.RowKit Go.ChangeShapes Go.WideShapes Go.ChangeAt Go.Joins Go.Deep

theorem u8_wf {z : Int} (h : (Lit.int .u8 z).wf = true) : 0 ≤ z ∧ z < 256 := by
  have h1 : IntKind.u8.min = 0 := by decide
  have h2 : IntKind.u8.max = 255 := by decide
  have h3 : (decide (IntKind.u8.min ≤ z) && decide (z ≤ IntKind.u8.max)) = true := h
  rw [h1, h2, Bool.and_eq_true, decide_eq_true_iff, decide_eq_true_iff] at h3
  omega
set_option maxRecDepth 100000 in
theorem bytes_cells {w : World} {r : Reach} {b0 : Nat} {v : Value} (hv : Value.okWide Tryd.prog w r b0 38 v) : v.cells = #[v] := by
  obtain ⟨a, l, c, rfl⟩ := okWide_slice Tryd.underlying38 hv
  rfl
section
variable {H : Type} {enc : TypeId × Value → H} {w : World} {base : Nat} {spare : Nat → Bool} {held : Bool}
set_option maxRecDepth 100000 in
theorem bytes_of {fuel : Nat} {v : Value} {x : DataW H × List MemPlace} (h : DataW.trod enc Tryd.prog w base spare held fuel 38 [v] = some x) : ∃ (A : Option Addr) (l c : Nat) (zs : List Nat), v = .slice A l c ∧ BOk w A l c zs := by
  rcases slice_cells Tryd.underlying38 (C := 1) (by kernel_rfl) (by omega) h with rfl | ⟨a, len, cap, m, rfl, hm, hl, hc, hcell⟩
  · exact ⟨none, 0, 0, [], rfl, rfl, Nat.le_refl _, Nat.zero_le _, (fun _ h => by cases h), fun h => absurd h (by omega)⟩
  · have hall : ∀ i, i < len → ∃ n : Nat, n < 256 ∧ ∀ g f, a = ⟨g, f, none⟩ → w.cell? ⟨g, f + i, none⟩ = some (.int .u8 (n : Nat)) := by
      intro i hi
      obtain ⟨g, f, rfl, hg, hcs⟩ := hcell (by omega)
      obtain ⟨cs, y, hcl, ht, hat⟩ := hcs i hi
      obtain ⟨n, e0, _, hw⟩ := DataW.trod_int Tryd.underlying5 ht
      subst e0
      have hb := u8_wf hw
      refine ⟨n.toNat, by omega, fun g' f' he => ?_⟩
      injection he with e1 e2
      subst e1 e2
      have := hat 0 (by omega)
      rw [show ((n.toNat : Nat) : Int) = n by omega]
      simpa using this
    obtain ⟨xs, hxl, hxs⟩ := list_build len hall
    refine ⟨some a, len, cap, xs, rfl, hxl, hl, hc, fun v hv => ?_, fun h0 => ?_⟩
    · obtain ⟨i, hi, rfl⟩ := List.getElem_of_mem hv
      exact (hxs i hi).1
    · obtain ⟨g, f, rfl, hg, _⟩ := hcell h0
      exact ⟨g, f, rfl, hg, fun j hj => (hxs j hj).2 g f rfl⟩
set_option maxRecDepth 100000 in
theorem open_bytes {r : Reach} {b0 : Nat} {v : Value} {d : DataW H} {p : List MemPlace} (hv : Value.okWide Tryd.prog w r b0 38 v) (h : DataW.Trod enc Tryd.prog w base spare held 38 v d p) : ∃ (A : Option Addr) (l c : Nat) (zs : List Nat), v = .slice A l c ∧ BOk w A l c zs := by
  obtain ⟨fuel, hf⟩ := h
  rw [bytes_cells hv] at hf
  exact bytes_of hf
end
end Go.Proofs.YtnipigninbeplaaDoor
