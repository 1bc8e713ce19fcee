/-
  FlatOrder: Compare is an order that agrees with the reference, and Seen keeps or drops the time. No condition.
-/
import Derived.Test.YtjpjmoejdkmglaaFlQd
import Derived.Test.YtjpjmoejdkmglaaRows
import Derived.WalkKit
import Derived.ProofKit
import Derived.OpenShut
import Derived.ShutString
import Derived.ChangeOld
import Derived.Below
import Derived.SizedLaws
import Derived.Lib.SmallJoins
namespace Go.Proofs.Ytjpjmoejdkmglaa
open Go.ChangeShapes Go.WideShapes Go.ChangeAt Go.RowKit Go.Joins

theorem flatOrder_own : ownKnob Try.prog.godebug = none := by kernel_rfl
theorem flatOrder_laidOut : laidOutB Try.prog = true := by kernel_rfl
theorem flatOrder_cells36 : Try.prog.cellsOf 36 = 2 := by kernel_rfl
theorem flatOrder_bytes3 : Try.prog.bytesOf 3 = 8 := by kernel_rfl

set_option maxRecDepth 100000 in
/-- An observation that came in, laid open. -/
theorem obs_open {H : Type} {enc : TypeId × Value → H} {W : World} {base : Nat} {v : Value} {d : DataW H} {p : List MemPlace} (hv : Value.okWide Try.prog W .any base 36 v) (h : DataW.Trod enc Try.prog W 0 (fun _ => true) true 36 v d p) :
    ∃ (A : Option Addr) (l c : Nat) (s : Int) (bs : List Int), v = .agg #[.slice A l c, .int .i64 s] ∧ Zs W A l c bs ∧ ((∀ n ∈ d.weights Try.prog 36, n ≤ reachBytes) → l * 8 ≤ 140737488355328) := by
  obtain ⟨c0, c1, y0, y1, m, rfl, rfl, rfl, hy0, hy1⟩ := open_agg2 Try.underlying36 (by kernel_rfl) flatOrder_cells36 hv h
  obtain ⟨s, e1, rfl, ws⟩ := DataW.trod_int Try.underlying3 hy1
  simp at e1
  subst e1
  rcases open_ints Try.underlying32 Try.underlying3 (by kernel_rfl) hy0 with ⟨hcs, hx⟩ | ⟨x, l, c, zs, hcs, _, hl, hm, hz, hx, hcell, _⟩
  · simp at hcs
    subst hcs
    exact ⟨none, 0, 0, s, [], rfl, Zs.nil _, fun _ => by omega⟩
  · simp at hcs
    subst hcs
    have hz' : zs.length = c := by simpa using hz
    refine ⟨some x, l, c, s, zs.take l, rfl, ⟨by rw [List.length_take]; omega, hl, hm, fun h0 => ?_⟩, fun hw => ?_⟩
    · obtain ⟨b, off, rfl, hc'⟩ := ints_at hcell (by omega)
      refine ⟨b, off, rfl, World.block_lt_of_cell? W _ (hc' 0 (by omega)), fun j hj => ?_⟩
      rw [hc' j (by omega)]
      congr 2
      rw [List.getD_eq_getElem?_getD, List.getD_eq_getElem?_getD, List.getElem?_take, if_pos hj]
    · subst hx
      have hle := hw (((zs.take l).length + (zs.drop l).length) * 8) (by simp [DataW.weights, DataW.weightsEach, Try.underlying36, Try.underlying32, lits, flatOrder_bytes3])
      rw [List.length_take, List.length_drop] at hle
      unfold reachBytes at hle
      omega

set_option maxRecDepth 100000 in
theorem flatOrder_lifted (os : Os) (started : os.Started) (H : Type) (enc : TypeId × Value → H) :
    ReturnsInHanded {} Try.checked os 8 .any (Rows.flatOrderSpec.pre6 enc Try.prog Try.f8 Rows.flatOrderRow.domain false) (Rows.flatOrderSpec.post enc Try.prog Try.f8 false true false false) := by
  refine returnsInHanded_of_change_sized (C := Try.checked) flatOrder_own started (by kernel_rfl) Try.func8
    (ChangeSpec.witness6 (enc := enc) (C := Try.checked) false ⟨#[], #[.agg #[.slice none 0 0, .int .i64 0], .agg #[.slice none 0 0, .int .i64 0], .agg #[.slice none 0 0, .int .i64 0]], []⟩ 8 (by kernel_rfl) (by kernel_rfl) (by kernel_rfl) (by kernel_rfl)) ?_
  intro W base args ds gs before hval0 hW _ hsz0 _
  have hsz : (DataW.weightsEach Try.prog (Try.f8.params.toList ++ Rows.flatOrderSpec.plain.varTypes Try.prog) (ds ++ gs)).all (· ≤ reachBytes) = true := hsz0
  clear hsz0
  have hval : ∀ (j : Nat) t v, Try.f8.params[j]? = some t → args[j]? = some v → Value.okWide Try.prog W .any base t v := hval0
  have hW' := hW
  obtain ⟨p, q, hA0, hV, rfl, hfz, hnd⟩ := hW
  have hA : DataW.TrodAll enc Try.prog W 0 (fun _ => true) true Try.f8.params.toList args.toList ds p := hA0
  rw [Try.params8] at hA hval hsz
  obtain ⟨v0, vs0, d0, ds0, p0, q0, hargs, rfl, rfl, h0, r0⟩ := trodAll_cons hA
  obtain ⟨v1, vs1, d1, ds1, p1, q1, rfl, rfl, rfl, h1, r1⟩ := trodAll_cons r0
  obtain ⟨v2, vs2, d2, ds2, p2, q2, rfl, rfl, rfl, h2, r2⟩ := trodAll_cons r1
  obtain ⟨rfl, rfl, rfl⟩ := trodAll_nil r2
  obtain rfl : args = #[v0, v1, v2] := by cases args; simp_all
  obtain ⟨rfl, rfl⟩ := trodVars_none hV
  have hw0 : ∀ n ∈ d0.weights Try.prog 36, n ≤ reachBytes := fun n hn => of_decide_eq_true (List.all_eq_true.1 hsz n (DataW.weights_mem_each (j := 0) rfl rfl n hn))
  have k0 := h0
  have lt0 : ∀ x ∈ p0, x.block < W.heap.size := by obtain ⟨m, hm⟩ := k0; exact DataW.trod_lt m _ _ _ hm
  have k1 := h1
  have lt1 : ∀ x ∈ p1, x.block < W.heap.size := by obtain ⟨m, hm⟩ := k1; exact DataW.trod_lt m _ _ _ hm
  have k2 := h2
  have lt2 : ∀ x ∈ p2, x.block < W.heap.size := by obtain ⟨m, hm⟩ := k2; exact DataW.trod_lt m _ _ _ hm
  obtain ⟨Aa, la, ca, sa, bsa, rfl, hza, hra⟩ := obs_open (hval 0 36 v0 rfl rfl) h0
  obtain ⟨Ab, lb, cb, sb, bsb, rfl, hzb, _⟩ := obs_open (hval 1 36 v1 rfl rfl) h1
  obtain ⟨Ac, lc, cc, sc, bsc, rfl, hzc, _⟩ := obs_open (hval 2 36 v2 rfl rfl) h2
  clear hA0 hval0
  refine (order_walk bsa bsb bsc sa sb sc Aa la ca Ab lb cb Ac lc cc W hza hzb hzc (hra hw0)).mono fun e W' ⟨he, bel⟩ => ?_
  subst he
  exact ⟨_, rfl, _, _, _, [], _, [], hW', trodAll_mk1 (shut_bool Try.underlying4 _), (trodAll_cons_mk (Below.trod flatOrder_laidOut (by kernel_rfl) (of_decide_eq_true (by kernel_rfl)) k0 bel lt0) (trodAll_cons_mk (Below.trod flatOrder_laidOut (by kernel_rfl) (of_decide_eq_true (by kernel_rfl)) k1 bel lt1) (trodAll_cons_mk (Below.trod flatOrder_laidOut (by kernel_rfl) (of_decide_eq_true (by kernel_rfl)) k2 bel lt2) trodAll_mk0))), rfl, bel.frame _, fun h => by cases h⟩

theorem flatOrder_over : Rows.flatOrderRow.holds Try.pinned (OpenSpec.ofChange Rows.flatOrderSpec) :=
  OpenClaim.holds_of_wide 8 Try.f8 rfl rfl rfl rfl rfl rfl rfl ⟨rfl, rfl, rfl, rfl, rfl⟩ rfl rfl rfl rfl rfl (by kernel_rfl) Try.func8 (by kernel_rfl)
    (of_decide_eq_true (by kernel_rfl)) (by unfold Func.isWrapper; first | (rw [if_pos (by decide +kernel)]; kernel_rfl) | (rw [if_neg (by decide +kernel)]; exact ⟨rfl, rfl⟩))
    (fun os started H enc _ => flatOrder_lifted os started H enc)

/-- The statement. -/
theorem flatOrder_holds : Rows.FlatOrderSaid := flatOrder_over
#print axioms flatOrder_holds
end Go.Proofs.Ytjpjmoejdkmglaa
