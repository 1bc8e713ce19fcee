/-
  FlatSettles: a time settles at the least bound that is not below it, and stays there; a later time never settles earlier. No condition.
-/
import Derived.Test.YtjpjmoejdkmglaaFlKo
import Derived.Test.YtjpjmoejdkmglaaFlSp
import Derived.Test.YtjpjmoejdkmglaaRows
import Derived.WalkKit
import Derived.ProofKit
import Derived.OpenShut
import Derived.ShutString
import Derived.ChangeOld
import Derived.Below
namespace Go.Proofs.Ytjpjmoejdkmglaa
open Go.ChangeShapes Go.WideShapes Go.ChangeAt Go.RowKit
open Go.ChangeMaps (open_string shut_string)

theorem flatSettles_own : ownKnob Try.prog.godebug = none := by kernel_rfl
theorem flatSettles_laidOut : laidOutB Try.prog = true := by kernel_rfl

/-- A slice of integers that came in: nil, or a row of cells. -/
def flatSettles_IsRow (k : IntKind) (w : World) (a : Option Addr) (len cap : Nat) (zs : List Int) : Prop :=
  (a = none ∧ len = 0 ∧ cap = 0 ∧ zs = []) ∨
  ∃ x, a = some x ∧ len ≤ cap ∧ cap ≤ maxLen ∧ zs.length = cap ∧ (∀ i, i < zs.length → w.cell? (x.add i) = some (.int k (zs.getD i 0))) ∧ ∀ n ∈ zs, (Lit.int k n).wf = true

/-- A row reads as a list of integers. -/
theorem flatSettles_zs {w : World} {a : Option Addr} {l c : Nat} {zs : List Int} (h : flatSettles_IsRow .i64 w a l c zs) : Zs w a l c (zs.take l) := by
  rcases h with ⟨rfl, rfl, rfl, rfl⟩ | ⟨x, rfl, hl, hm, hz, hc, _⟩
  · exact Zs.nil w
  · refine ⟨by rw [List.length_take]; omega, hl, hm, fun h0 => ?_⟩
    obtain ⟨b, off, rfl, hc'⟩ := ints_at hc (by omega)
    refine ⟨b, off, rfl, World.block_lt_of_cell? w _ (hc' 0 (by omega)), fun j hj => ?_⟩
    rw [hc' j (by omega)]
    congr 2
    rw [List.getD_eq_getElem?_getD, List.getD_eq_getElem?_getD, List.getElem?_take, if_pos hj]

set_option maxRecDepth 100000 in
set_option maxHeartbeats 4000000 in
theorem flatSettles_walk (a0 : Option Addr) (len0 cap0 : Nat) (z0 : List Int) (a1 : Int) (a2 : Int) (w : World) (w0 : flatSettles_IsRow .i64 w a0 len0 cap0 z0) (_w1 : (Lit.int .i64 a1).wf = true) (_w2 : (Lit.int .i64 a2).wf = true) :
    Calls Try.prog 5 #[.slice a0 len0 cap0, .int .i64 a1, .int .i64 a2] w fun e w' => e = .returned (.bool true) ∧ Below w.heap.size w w' := by
  have hz := flatSettles_zs w0
  obtain ⟨bs, hbs⟩ : ∃ z, z0.take len0 = z := ⟨_, rfl⟩
  rw [hbs] at hz
  obtain ⟨t, ht⟩ : ∃ z, settledP bs a1 = z := ⟨_, rfl⟩
  obtain ⟨u, hu⟩ : ∃ z, settledP bs a2 = z := ⟨_, rfl⟩
  have h1 : ¬ t < a1 := by have := settled_le bs a1; rw [ht] at this; omega
  have h2 : settledP bs t = t := by rw [← ht]; exact settled_stays bs a1
  have h3 : ¬ a2 < a1 → t ≤ u := fun h => by have := settled_mono bs a1 a2 (by omega); rw [ht, hu] at this; exact this
  have HT := Lib.hid ht
  have HU := Lib.hid hu
  have H2 := Lib.hid h2
  have H3 := Lib.hid h3
  have HZ := Lib.hid hz
  have hd1 : decide (t < a1) = false := decide_eq_false h1
  clear w0 hbs hz ht hu h2 h3
  by_cases hl : 40 < len0
  · have hl' : (40 : Int) < (len0 : Int) := by omega
    go_enter Try.func5, Try.ntmps5
    go_wp2_with fail
    go_at_call 10
    refine (known_b _).mono ?_
    rintro e w1 ⟨rfl, hb⟩
    go_wp2_with fail
    go_ret
    exact ⟨rfl, hb⟩
  · have hl' : ¬ (40 : Int) < (len0 : Int) := by omega
    go_enter Try.func5, Try.ntmps5
    go_wp2_with fail
    go_at_call 10
    refine (known_b _).mono ?_
    rintro e w1 ⟨rfl, hb⟩
    have HB := Lib.hid hb
    have HZ1 := Lib.hid (HZ.out.below hb)
    clear hb HZ
    go_wp2_with fail
    go_at_call 17
    refine (settled_b bs a1 t HT a0 len0 cap0 _ HZ1.out).mono ?_
    rintro e w2 ⟨rfl, rfl⟩
    go_wp2_with fail
    go_at_call 18
    refine (rsettled_b bs a1 t HT a0 len0 cap0 _ HZ1.out).mono ?_
    rintro e w3 ⟨rfl, rfl⟩
    go_wp2_with fail
    go_at_call 17
    refine (settled_b bs t t H2 a0 len0 cap0 _ HZ1.out).mono ?_
    rintro e w4 ⟨rfl, rfl⟩
    by_cases hlt : a2 < a1
    · have hd2 : decide (a2 < a1) = true := decide_eq_true hlt
      go_wp2_with fail
      go_ret
      exact ⟨rfl, HB.out⟩
    · have hd2 : decide (a2 < a1) = false := decide_eq_false hlt
      have hge : t ≤ u := H3.out (by omega)
      have hd3 : decide (t ≤ u) = true := decide_eq_true hge
      go_wp2_with fail
      go_at_call 17
      refine (settled_b bs a2 u HU a0 len0 cap0 _ HZ1.out).mono ?_
      rintro e w5 ⟨rfl, rfl⟩
      go_wp2_with fail
      go_ret
      exact ⟨rfl, HB.out⟩

set_option maxRecDepth 100000 in
theorem flatSettles_lifted (os : Os) (started : os.Started) (H : Type) (enc : TypeId × Value → H) :
    ReturnsInHanded {} Try.checked os 5 .any (Rows.flatSettlesSpec.pre6 enc Try.prog Try.f5 Rows.flatSettlesRow.domain false) (Rows.flatSettlesSpec.post enc Try.prog Try.f5 false true false false) := by
  refine returnsInHanded_of_change (C := Try.checked) flatSettles_own started (by kernel_rfl) Try.func5
    (ChangeSpec.witness6 (enc := enc) (C := Try.checked) false ⟨#[], #[.slice none 0 0, .int .i64 0, .int .i64 0], []⟩ 8 (by kernel_rfl) (by kernel_rfl) (by kernel_rfl) (by kernel_rfl)) ?_
  intro W base args ds gs before hval0 hW hcnd _
  have hval : ∀ (j : Nat) t v, Try.f5.params[j]? = some t → args[j]? = some v → Value.okWide Try.prog W .any base t v := hval0
  have hW' := hW
  obtain ⟨p, q, hA0, hV, rfl, hfz, hnd⟩ := hW
  have hA : DataW.TrodAll enc Try.prog W 0 (fun _ => true) true Try.f5.params.toList args.toList ds p := hA0
  rw [Try.params5] at hA hval
  obtain ⟨v0, vs0, d0, ds0, p0, q0, hargs, rfl, rfl, h0, r0⟩ := trodAll_cons hA
  obtain ⟨v1, vs1, d1, ds1, p1, q1, rfl, rfl, rfl, h1, r1⟩ := trodAll_cons r0
  obtain ⟨v2, vs2, d2, ds2, p2, q2, rfl, rfl, rfl, h2, r2⟩ := trodAll_cons r1
  obtain ⟨rfl, rfl, rfl⟩ := trodAll_nil r2
  obtain rfl : args = #[v0, v1, v2] := by cases args; simp_all
  obtain ⟨rfl, rfl⟩ := trodVars_none hV
  obtain ⟨a0, len0, cap0, rfl⟩ := okWide_slice Try.underlying32 (hval 0 32 v0 rfl rfl)
  have k0 := h0
  have lt0 : ∀ x ∈ p0, x.block < W.heap.size := by obtain ⟨m, hm⟩ := k0; exact DataW.trod_lt m _ _ _ hm
  obtain ⟨z0, w0⟩ : ∃ zs, flatSettles_IsRow .i64 W a0 len0 cap0 zs := by
    obtain ⟨fuel, hf⟩ := h0
    rcases open_ints Try.underlying32 Try.underlying3 (by kernel_rfl) hf with ⟨hcs, _⟩ | ⟨x, l, c, zs, hcs, _, hl, hm, hz, _, hcell, hwz⟩
    · simp [Value.cells] at hcs
      obtain ⟨rfl, rfl, rfl⟩ := hcs
      exact ⟨[], .inl ⟨rfl, rfl, rfl, rfl⟩⟩
    · simp [Value.cells] at hcs
      obtain ⟨rfl, rfl, rfl⟩ := hcs
      exact ⟨zs, .inr ⟨_, rfl, hl, hm, by simpa using hz, hcell, hwz⟩⟩
  obtain ⟨a1, rfl, rfl, rfl, w1⟩ := open_int Try.underlying3 (hval 1 3 v1 rfl rfl) h1
  obtain ⟨a2, rfl, rfl, rfl, w2⟩ := open_int Try.underlying3 (hval 2 3 v2 rfl rfl) h2
  clear hA0 hval0
  refine (flatSettles_walk a0 len0 cap0 z0 a1 a2 W w0 w1 w2).mono fun e W' ⟨he, bel⟩ => ?_
  subst he
  exact ⟨_, rfl, _, _, _, [], _, [], hW', trodAll_mk1 (shut_bool Try.underlying4 _), (trodAll_cons_mk (Below.trod flatSettles_laidOut (by kernel_rfl) (of_decide_eq_true (by kernel_rfl)) k0 bel lt0) (trodAll_cons_mk (shut_int Try.underlying3 w1) (trodAll_cons_mk (shut_int Try.underlying3 w2) trodAll_mk0))), rfl, bel.frame _, fun h => by cases h⟩

theorem flatSettles_over : Rows.flatSettlesRow.holds Try.pinned (OpenSpec.ofChange Rows.flatSettlesSpec) :=
  OpenClaim.holds_of_wide 5 Try.f5 rfl rfl rfl rfl rfl rfl rfl ⟨rfl, rfl, rfl, rfl, rfl⟩ rfl rfl rfl rfl rfl (by kernel_rfl) Try.func5 (by kernel_rfl)
    (of_decide_eq_true (by kernel_rfl)) (by unfold Func.isWrapper; first | (rw [if_pos (by decide +kernel)]; kernel_rfl) | (rw [if_neg (by decide +kernel)]; exact ⟨rfl, rfl⟩))
    (fun os started H enc _ => flatSettles_lifted os started H enc)

/-- The statement. -/
theorem flatSettles_holds : Rows.FlatSettlesSaid := flatSettles_over
#print axioms flatSettles_holds
end Go.Proofs.Ytjpjmoejdkmglaa
