/-
  What the arguments and the listed tables hold, read out of the row's own reading.
-/
import Derived.Test.YtpapbpekihgnlaaDoorBsV
import Derived.Test.YtpapbpekihgnlaaDoorBsO
import Derived.Test.YtpapbpekihgnlaaDoorRows
import Derived.Test.YtpapbpekihgnlaaDoorTie
import Derived.Test.YtpapbpekihgnlaaDoorCards
import Derived.Deep.Slices
import Derived.Deep.Fields
import Derived.ChangeSame
import Derived.ChangeSlices
import Derived.Lib.SmallJoins
import Derived.Lib.LaidTab
import Derived.ProofKit
import Derived.LaidMore
import Derived.OpenShut
import Derived.Stop.Joined
import Derived.Carry
import Derived.SevenTiedAt
namespace Go.Proofs.YtpapbpekihgnlaaDoor
open Go.RowKit Go.ChangeShapes Go.WideShapes Go.ChangeAt Go.Joins Go.Deep

theorem cell_addr {w : World} {a : Addr} {v : Value} (h : w.cell? a = some v) : a = ⟨a.block, a.off, none⟩ := by
  obtain ⟨b, o, s⟩ := a
  cases s with
  | none => rfl
  | some x =>
    exfalso
    unfold World.cell? at h
    split at h <;> simp at h
theorem add_at (g f j : Nat) : (⟨g, f, none⟩ : Addr).add j = ⟨g, f + j, none⟩ := by unfold Addr.add; split <;> simp_all
section
variable {H : Type} {enc : TypeId × Value → H} {w : World} {base : Nat} {spare : Nat → Bool} {held : Bool}
/-- A list of integers in memory, of whatever kind. -/
theorem open_row_ints {t e : TypeId} {k : IntKind} {fuel : Nat} {v : Value} {x : DataW H × List MemPlace} (ht : Tryd.prog.underlying t = some (.slice e)) (he : Tryd.prog.underlying e = some (.int k)) (hc : Tryd.prog.cellsOf e = 1)
    (h : DataW.trod enc Tryd.prog w base spare held fuel t [v] = some x) :
    ∃ (A : Option Addr) (l c : Nat) (zs : List Int), v = .slice A l c ∧ zs.length = l ∧ l ≤ c ∧ c ≤ maxLen ∧ (∀ z ∈ zs, (Lit.int k z).wf = true) ∧ (0 < l → ∃ g f, A = some ⟨g, f, none⟩ ∧ g < w.heap.size ∧ ∀ j, j < l → w.cell? ⟨g, f + j, none⟩ = some (.int k (zs.getD j 0))) := by
  rcases open_ints ht he hc h with ⟨h0, _⟩ | ⟨a, len, cap, zs, hcs, _, hl, hm, hlen, _, hel, hwf⟩
  · simp only [List.cons.injEq, and_true] at h0
    exact ⟨none, 0, 0, [], h0, rfl, Nat.le_refl _, Nat.zero_le _, (fun z hz => by cases hz), fun h => absurd h (by omega)⟩
  · simp only [List.cons.injEq, and_true] at hcs
    have hz : len ≤ zs.length := by rw [hlen]; split <;> omega
    refine ⟨some a, len, cap, zs.take len, hcs, by rw [List.length_take]; omega, hl, hm, fun z hz => hwf z (List.mem_of_mem_take hz), fun h0 => ?_⟩
    have h1 := hel 0 (by omega)
    rw [show a.add 0 = a by unfold Addr.add; rw [if_pos rfl]] at h1
    have ha := cell_addr h1
    obtain ⟨g, f, sp⟩ := a
    simp only [Addr.mk.injEq, true_and] at ha
    subst ha
    refine ⟨g, f, rfl, World.block_lt_of_cell? w _ h1, fun j hj => ?_⟩
    have h2 := hel j (by omega)
    rw [add_at] at h2
    rw [h2]
    simp [List.getD_eq_getElem?_getD, hj]
theorem set2 {fuel : Nat} {v0 v1 : Value} {x : DataW H × List MemPlace} (h : DataW.trod enc Tryd.prog w base spare held fuel 24 [v0, v1] = some x) :
    ∃ (n : Int) (m : Nat) (y : DataW H × List MemPlace), v0 = .int .i64 n ∧ DataW.trod enc Tryd.prog w base spare held m 22 [v1] = some y := by
  obtain ⟨xs, n', hn', _, _, hxl, hfs⟩ := DataW.trod_struct Tryd.underlying24 h
  match xs, hxl with
  | [y0, y1], _ =>
    have t0 := hfs 0 _ rfl
    have t1 := hfs 1 _ rfl
    change DataW.trod enc Tryd.prog w base spare held n' 3 (List.take (Tryd.prog.cellsOf 3) (List.drop 0 [v0, v1])) = some y0 at t0
    rw [show Tryd.prog.cellsOf 3 = 1 from by kernel_rfl] at t0
    change DataW.trod enc Tryd.prog w base spare held n' 3 [v0] = some y0 at t0
    change DataW.trod enc Tryd.prog w base spare held n' 22 (List.take (Tryd.prog.cellsOf 22) (List.drop 1 [v0, v1])) = some y1 at t1
    rw [show Tryd.prog.cellsOf 22 = 1 from by kernel_rfl] at t1
    change DataW.trod enc Tryd.prog w base spare held n' 22 [v1] = some y1 at t1
    obtain ⟨n, e0, _⟩ := DataW.trod_int Tryd.underlying3 t0
    simp only [List.cons.injEq, and_true] at e0
    exact ⟨n, n', y1, e0, t1⟩
theorem u64_wf {z : Int} (h : (Lit.int .u64 z).wf = true) : 0 ≤ z ∧ z < 18446744073709551616 := by
  have h1 : IntKind.u64.min = 0 := by decide
  have h2 : IntKind.u64.max = 18446744073709551615 := by decide
  have h3 : (decide (IntKind.u64.min ≤ z) && decide (z ≤ IntKind.u64.max)) = true := h
  rw [h1, h2, Bool.and_eq_true, decide_eq_true_iff, decide_eq_true_iff] at h3
  omega
theorem nat_getD (zs : List Int) (hz : ∀ z ∈ zs, 0 ≤ z) (j : Nat) : (((zs.map Int.toNat).getD j 0 : Nat) : Int) = zs.getD j 0 := by
  by_cases hj : j < zs.length
  · simp only [List.getD_eq_getElem?_getD, List.getElem?_map, List.getElem?_eq_getElem hj, Option.map_some, Option.getD_some]
    exact Int.toNat_of_nonneg (hz _ (List.getElem_mem hj))
  · simp [List.getD_eq_getElem?_getD, List.getElem?_eq_none (show zs.length ≤ j by omega)]
set_option maxRecDepth 100000 in
/-- A set by value. -/
theorem open_set {r : Reach} {b0 : Nat} {v : Value} {d : DataW H} {p : List MemPlace} (hv : Value.okWide Tryd.prog w r b0 24 v) (h : DataW.Trod enc Tryd.prog w base spare held 24 v d p) :
    ∃ (n : Int) (A : Option Addr) (l c : Nat) (ws : List Nat), v = .agg #[.int .i64 n, .slice A l c] ∧ Wd w A l c ws := by
  obtain ⟨cs, rfl, hsz⟩ := okWide_struct Tryd.underlying24 hv
  obtain ⟨fuel, hf⟩ := h
  obtain ⟨cs⟩ := cs
  have hsz' : cs.length = 2 := hsz.trans (by kernel_rfl)
  match cs, hsz' with
  | [v0, v1], _ =>
    obtain ⟨n, m, y, rfl, hk⟩ := set2 (by simpa [Value.cells] using hf)
    obtain ⟨A, l, c, zs, rfl, h1, h2, h3, h4, h5⟩ := open_row_ints Tryd.underlying22 Tryd.underlying48 (by kernel_rfl) hk
    have hz : ∀ z ∈ zs, 0 ≤ z := fun z hz => (u64_wf (h4 z hz)).1
    refine ⟨n, A, l, c, zs.map Int.toNat, rfl, by rw [List.length_map]; exact h1, h2, h3, fun j => ?_, fun h0 => ?_⟩
    · by_cases hj : j < zs.length
      · simp only [List.getD_eq_getElem?_getD, List.getElem?_map, List.getElem?_eq_getElem hj, Option.map_some, Option.getD_some]
        have := u64_wf (h4 _ (List.getElem_mem hj))
        omega
      · simp [List.getD_eq_getElem?_getD, List.getElem?_eq_none (show zs.length ≤ j by omega)]
    · obtain ⟨g, f, e1, e2, e3⟩ := h5 h0
      exact ⟨g, f, e1, e2, fun j hj => by rw [e3 j hj, nat_getD zs hz]⟩
/-- A list of integers by value. -/
theorem open_zs {v : Value} {d : DataW H} {p : List MemPlace} (h : DataW.Trod enc Tryd.prog w base spare held 25 v d p) (hv : v.cells = #[v]) :
    ∃ (A : Option Addr) (l c : Nat) (zs : List Int), v = .slice A l c ∧ Zs w A l c zs := by
  obtain ⟨fuel, hf⟩ := h
  rw [hv] at hf
  obtain ⟨A, l, c, zs, rfl, h1, h2, h3, _, h5⟩ := open_row_ints Tryd.underlying25 Tryd.underlying3 (by kernel_rfl) hf
  exact ⟨A, l, c, zs, rfl, h1, h2, h3, h5⟩
end
set_option maxRecDepth 100000 in
theorem slice_cells {w : World} {r : Reach} {b0 : Nat} {v : Value} (hv : Value.okWide Tryd.prog w r b0 25 v) : v.cells = #[v] := by
  obtain ⟨a, l, c, rfl⟩ := okWide_slice Tryd.underlying25 hv
  rfl
theorem own : ownKnob Tryd.prog.godebug = none := by kernel_rfl
theorem laidOut : laidOutB Tryd.prog = true := by kernel_rfl
/-- The listed tables. -/
def laid3 : List (String × DataW Unit) := [("math/bits.deBruijn32tab", Rows.laid_math_bits_deBruijn32tab), ("math/bits.deBruijn64tab", Rows.laid_math_bits_deBruijn64tab), ("internal/strconv.uint64pow10", Rows.laid_internal_strconv_uint64pow10)]
def zs64 : List Int := Lib.deBruijn64tab.map fun (k : Nat) => (k : Int)
theorem var_lt {W : World} {s : String} {g : Nat} {cs : Array Value} (hg : Tryd.prog.globalNamed s = some g) (h : W.var? Tryd.prog s = some cs) : g < W.heap.size := by
  unfold World.var? at h
  rw [hg] at h
  rcases Nat.lt_or_ge g W.heap.size with hl | hl
  · exact hl
  · simp [Array.getElem?_eq_none hl] at h
theorem tabs_of {W : World} (h : laidMetH Tryd.prog laid3 W) : Tabs W := by
  rw [MakeChecks.laidMetH_plain _ _ _ (by kernel_rfl)] at h
  obtain ⟨ps, ⟨g0, t0, cs0, f0, p0, q0, hg0, ht0, hv0, hd0, ⟨g1, t1, cs1, f1, p1, q1, hg1, ht1, hv1, hd1, ⟨g2, t2, cs2, f2, p2, q2, hg2, ht2, hv2, hd2, _, _⟩, _⟩, _⟩, _, _⟩ := h
  have e1 : Tryd.prog.globalNamed "math/bits.deBruijn64tab" = some 0 := by kernel_rfl
  have e2 : Tryd.prog.globalNamed "internal/strconv.uint64pow10" = some 4 := by kernel_rfl
  obtain rfl := Option.some.inj (e1.symm.trans hg1)
  obtain rfl := Option.some.inj (e2.symm.trans hg2)
  have y1 : (Tryd.prog.globals[0]?).map (·.type) = some 80 := by kernel_rfl
  have y2 : (Tryd.prog.globals[4]?).map (·.type) = some 111 := by kernel_rfl
  obtain rfl := Option.some.inj (y1.symm.trans ht1)
  obtain rfl := Option.some.inj (y2.symm.trans ht2)
  have d1 : (Rows.laid_math_bits_deBruijn64tab : DataW Unit) = Lib.tabData .u8 zs64 := rfl
  have d2 : (Rows.laid_internal_strconv_uint64pow10 : DataW Unit) = Lib.tabData .u64 Lib.pow10Tab := rfl
  rw [d1] at hd1
  rw [d2] at hd2
  have x1 := Lib.cells_of_tab (n := 64) Tryd.underlying80 Tryd.underlying5 (by kernel_rfl) (by kernel_rfl) hd1
  have x2 := Lib.cells_of_tab (n := 20) Tryd.underlying111 Tryd.underlying48 (by kernel_rfl) (by kernel_rfl) hd2
  have T1 : Lib.TabIs Tryd.prog W "math/bits.deBruijn64tab" .u8 zs64 := by unfold Lib.TabIs; rw [hv1, ← x1]
  have T2 : Lib.TabIs Tryd.prog W "internal/strconv.uint64pow10" .u64 Lib.pow10Tab := by unfold Lib.TabIs; rw [hv2, ← x2]
  refine ⟨⟨var_lt e1 hv1, fun j hj => ?_⟩, var_lt e2 hv2, T2⟩
  have := T1.cell e1 j (by show j < 64; exact hj)
  rw [this]
  simp [zs64, List.getD_eq_getElem?_getD, show j < Lib.deBruijn64tab.length from hj]
/-- The door's own heap meets the condition. -/
theorem door_met (os : Os) (args : Array Value) : laidMetH Tryd.prog laid3 ((World.doorLaid Tryd.prog 400 os).forCall (fun _ _ => 0) ⟨#[], args, []⟩).memory :=
  laidMetH_of_parts3 (fuel := 8) (laidMet_of_run' 8 (by kernel_rfl) (by kernel_rfl)) (by kernel_rfl) (by kernel_rfl)
end Go.Proofs.YtpapbpekihgnlaaDoor
