/-
  What the argument of CostInverse holds: a turn.
-/
import Derived.Test.YthlhicegchkjjaaGreatDoorCtX
import Derived.Test.YthlhicegchkjjaaGreatDoorCtZ
namespace Go.Proofs.YthlhicegchkjjaaGreatDoor
open Go.RowKit Go.ChangeShapes Go.WideShapes Go.ChangeAt Go.Joins Go.Deep

section
variable {H : Type} {enc : TypeId × Value → H} {w : World} {base : Nat} {spare : Nat → Bool} {held : Bool}
set_option maxRecDepth 100000 in
theorem open_turn {r : Reach} {b0 : Nat} {v : Value} {d : DataW H} {p : List MemPlace} (hv : Value.okWide Tryz.prog w r b0 31 v) (h : DataW.Trod enc Tryz.prog w base spare held 31 v d p) : ∃ T : TM, (∀ k < 13, T.get k < 256) ∧ v = .agg #[.int .u8 (T.u0 : Int), .int .u8 (T.u1 : Int), .int .u8 (T.u2 : Int), .int .u8 (T.u3 : Int), .int .u8 (T.u4 : Int), .int .u8 (T.u5 : Int), .int .u8 (T.u6 : Int), .int .u8 (T.u7 : Int), .int .u8 (T.u8 : Int), .int .u8 (T.u9 : Int), .int .u8 (T.u10 : Int), .int .u8 (T.u11 : Int), .int .u8 (T.u12 : Int)] := by
  simp only [Value.okWide, Tryz.underlying31] at hv
  obtain ⟨cs, rfl, hsz, _⟩ := hv
  rw [show Tryz.prog.cellsOf 31 = 13 from by kernel_rfl] at hsz
  obtain ⟨l⟩ := cs
  match l, hsz with
  | [v0, v1, v2, v3, v4, v5, v6, v7, v8, v9, v10, v11, v12], _ =>
    obtain ⟨fuel, hf⟩ := h
    obtain ⟨xs, m, _, _, _, hxl, hfs⟩ := DataW.trod_array (cs := [v0, v1, v2, v3, v4, v5, v6, v7, v8, v9, v10, v11, v12]) Tryz.underlying31 (by simpa [Value.cells] using hf)
    have hce : Tryz.prog.cellsOf 5 = 1 := by kernel_rfl
    have key : ∀ (k : Nat) (x : Value), k < 13 → ([v0, v1, v2, v3, v4, v5, v6, v7, v8, v9, v10, v11, v12] : List Value)[k]? = some x → ∃ n : Nat, n < 256 ∧ x = .int .u8 (n : Int) := fun k x hk hx => by
      have hg := hfs k hk
      rw [hce, Nat.mul_one, List.getElem?_eq_getElem (show k < xs.length by omega)] at hg
      have hd : (([v0, v1, v2, v3, v4, v5, v6, v7, v8, v9, v10, v11, v12] : List Value).drop k).take 1 = [x] := by
        obtain ⟨hl, he⟩ := List.getElem?_eq_some_iff.1 hx
        rw [List.drop_eq_getElem_cons hl, he]
        rfl
      rw [hd] at hg
      obtain ⟨a, ha, _, hw⟩ := DataW.trod_int Tryz.underlying5 hg
      have hb : 0 ≤ a ∧ a < 256 := by
        simp [Lit.wf] at hw
        rw [show IntKind.u8.min = 0 from rfl, show IntKind.u8.max = 255 from rfl] at hw
        omega
      simp only [List.cons.injEq, and_true] at ha
      exact ⟨a.toNat, by omega, by rw [ha, Int.toNat_of_nonneg hb.1]⟩
    obtain ⟨n0, h0, rfl⟩ := key 0 v0 (by omega) rfl
    obtain ⟨n1, h1, rfl⟩ := key 1 v1 (by omega) rfl
    obtain ⟨n2, h2, rfl⟩ := key 2 v2 (by omega) rfl
    obtain ⟨n3, h3, rfl⟩ := key 3 v3 (by omega) rfl
    obtain ⟨n4, h4, rfl⟩ := key 4 v4 (by omega) rfl
    obtain ⟨n5, h5, rfl⟩ := key 5 v5 (by omega) rfl
    obtain ⟨n6, h6, rfl⟩ := key 6 v6 (by omega) rfl
    obtain ⟨n7, h7, rfl⟩ := key 7 v7 (by omega) rfl
    obtain ⟨n8, h8, rfl⟩ := key 8 v8 (by omega) rfl
    obtain ⟨n9, h9, rfl⟩ := key 9 v9 (by omega) rfl
    obtain ⟨n10, h10, rfl⟩ := key 10 v10 (by omega) rfl
    obtain ⟨n11, h11, rfl⟩ := key 11 v11 (by omega) rfl
    obtain ⟨n12, h12, rfl⟩ := key 12 v12 (by omega) rfl
    exact ⟨⟨n0, n1, n2, n3, n4, n5, n6, n7, n8, n9, n10, n11, n12⟩, forall13 h0 h1 h2 h3 h4 h5 h6 h7 h8 h9 h10 h11 h12, rfl⟩
end
end Go.Proofs.YthlhicegchkjjaaGreatDoor
