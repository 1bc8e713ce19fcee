/-
  What the arguments hold: integers and a pair by value, read out of the row's own reading.
-/
import Derived.Test.YtnipigninbeplaaDoorQoN
import Derived.Test.YtnipigninbeplaaDoorPN
namespace Go.Proofs.YtnipigninbeplaaDoor
open Go.RowKit Go.ChangeShapes Go.WideShapes Go.ChangeAt Go.Joins Go.Deep

set_option maxRecDepth 100000 in
theorem ints_cells {w : World} {r : Reach} {b0 : Nat} {v : Value} (hv : Value.okWide Tryd.prog w r b0 41 v) : v.cells = #[v] := by
  obtain ⟨a, l, c, rfl⟩ := okWide_slice Tryd.underlying41 hv
  rfl
section
variable {H : Type} {enc : TypeId × Value → H} {w : World} {base : Nat} {spare : Nat → Bool} {held : Bool}
set_option maxRecDepth 100000 in
theorem open_ints {r : Reach} {b0 : Nat} {v : Value} {d : DataW H} {p : List MemPlace} (hv : Value.okWide Tryd.prog w r b0 41 v) (h : DataW.Trod enc Tryd.prog w base spare held 41 v d p) : ∃ (A : Option Addr) (l c : Nat) (zs : List Int), v = .slice A l c ∧ Zs w A l c zs := by
  obtain ⟨fuel, hf⟩ := h
  rw [ints_cells hv] at hf
  exact zs_of hf
set_option maxRecDepth 100000 in
theorem open_ab {r : Reach} {b0 : Nat} {v : Value} {d : DataW H} {p : List MemPlace} (hv : Value.okWide Tryd.prog w r b0 42 v) (h : DataW.Trod enc Tryd.prog w base spare held 42 v d p) : ∃ a b : Int, v = .agg #[.int .i64 a, .int .i64 b] := by
  simp only [Value.okWide, Tryd.underlying42] at hv
  obtain ⟨cs, rfl, hsz, _⟩ := hv
  rw [show Tryd.prog.cellsOf 42 = 2 from by kernel_rfl] at hsz
  obtain ⟨l⟩ := cs
  match l, hsz with
  | [v0, v1], _ =>
    obtain ⟨fuel, hf⟩ := h
    obtain ⟨a, b, rfl, rfl⟩ := pair_of (v0 := v0) (v1 := v1) (by simpa [Value.cells] using hf)
    exact ⟨a, b, rfl⟩
end
end Go.Proofs.YtnipigninbeplaaDoor
