/-
  CostChecks: Check, Default and List of the program return what those of the reference return. No condition.
-/
import Derived.Test.YthlhicegchkjjaaCoR
namespace Go.Proofs.Ythlhicegchkjjaa
open Go.RowKit Go.ChangeShapes Go.WideShapes Go.ChangeAt

theorem costGuard : Try.prog.eqGuardType Try.prog.depth 23 = false := by kernel_rfl
theorem costHeld : Try.prog.stoodInHeld 23 = false := by kernel_rfl
/-- A model's block. -/
structure Bk (w W : World) (C : CM) : Prop where
  below : Below w.heap.size w W
  lt : w.heap.size < W.heap.size
  cc : CIn W w.heap.size C
theorem Bk.next {w W W' : World} {C : CM} (h : Bk w W C) (hb : Below W.heap.size W W') : Bk w W' C :=
  ⟨h.below.trans (hb.mono h.below.size), Nat.lt_of_lt_of_le h.lt hb.size, h.cc.mk fun i => hb.cell (p := ⟨w.heap.size, i, none⟩) h.lt⟩
theorem Bk.drew {w W : World} {C : CM} (h : Bk w W C) : Bk w W.drew C := h.next (Below.refl _ _).drew
theorem bk (w : World) (C : CM) : Bk w (boxC w C) C := by
  refine ⟨boxC_below w C, by simp [boxC], ?_⟩
  unfold CIn boxC
  refine ⟨?_, ?_, ?_, ?_, ?_, ?_, ?_, ?_, ?_, ?_, ?_, ?_, ?_⟩ <;> simp
set_option maxRecDepth 100000 in
set_option maxHeartbeats 20000000 in
theorem checks_walk (C : CM) (w : World) (hm : ML w) :
    Calls Try.prog 7 #[.agg #[.int .i64 C.c0, .int .i64 C.c1, .int .i64 C.c2, .int .i64 C.c3, .int .i64 C.c4, .int .i64 C.c5, .int .i64 C.c6, .int .i64 C.c7, .int .i64 C.c8, .int .i64 C.c9, .int .i64 C.c10, .int .i64 C.c11, .int .i64 C.c12]] w fun e w' => e = .returned (.bool true) ∧ Below w.heap.size w w' := by
  obtain ⟨r, hr⟩ : ∃ r, C.chk = r := ⟨_, rfl⟩
  have HR := Lib.hid hr
  have HML := Lib.hid hm
  have X0 := Lib.hid (bk w C)
  clear hr hm
  go_enter Try.func7, Try.ntmps7
  go_wp2_with fail
  refine (known_t _ (HML.out.below HML.out.pos X0.out.below)).mono ?_
  rintro e w1 ⟨rfl, hb⟩
  have X := Lib.hid (X0.out.next hb)
  clear hb X0
  have hcc := X.out.cc
  unfold CIn at hcc
  obtain ⟨k0, k1, k2, k3, k4, k5, k6, k7, k8, k9, k10, k11, k12⟩ := hcc
  have hg1 := costGuard
  have hg2 := costHeld
  go_wp2_with fail
  go_region_held3 (fun W => W.cell? ⟨w.heap.size, 0, none⟩ = some (.int .i64 C.c0) ∧ W.cell? ⟨w.heap.size, 1, none⟩ = some (.int .i64 C.c1) ∧ W.cell? ⟨w.heap.size, 2, none⟩ = some (.int .i64 C.c2) ∧ W.cell? ⟨w.heap.size, 3, none⟩ = some (.int .i64 C.c3) ∧ W.cell? ⟨w.heap.size, 4, none⟩ = some (.int .i64 C.c4) ∧ W.cell? ⟨w.heap.size, 5, none⟩ = some (.int .i64 C.c5) ∧ W.cell? ⟨w.heap.size, 6, none⟩ = some (.int .i64 C.c6) ∧ W.cell? ⟨w.heap.size, 7, none⟩ = some (.int .i64 C.c7) ∧ W.cell? ⟨w.heap.size, 8, none⟩ = some (.int .i64 C.c8) ∧ W.cell? ⟨w.heap.size, 9, none⟩ = some (.int .i64 C.c9) ∧ W.cell? ⟨w.heap.size, 10, none⟩ = some (.int .i64 C.c10) ∧ W.cell? ⟨w.heap.size, 11, none⟩ = some (.int .i64 C.c11) ∧ W.cell? ⟨w.heap.size, 12, none⟩ = some (.int .i64 C.c12)) (first | exact X.out.drew.cc | exact X2.out.cc | exact X3.out.cc | exact X4.out.cc | exact X5.out.cc | exact X6.out.cc | exact X7.out.cc | exact X8.out.cc) (first
    | (go_at_call 21; refine (check_b C r HR _).mono ?_; rintro e w2 ⟨rfl, hb⟩; have X2 := Lib.hid (X.out.drew.next hb); clear hb)
    | (go_at_call 15; refine (rcheckC_b C r HR _).mono ?_; rintro e w3 ⟨rfl, hb⟩; have X3 := Lib.hid (X2.out.next hb); clear hb)
    | (go_at_call 22; refine (default_b _).mono ?_; rintro e w4 ⟨rfl, hb⟩; have X4 := Lib.hid (X3.out.next hb); clear hb)
    | (go_at_call 23; refine (rdefault_b _).mono ?_; rintro e w5 ⟨rfl, hb⟩; have X5 := Lib.hid (X4.out.next hb); clear hb)
    | (go_at_call 25; refine (list_b C _).mono ?_; rintro e w6 ⟨⟨v, rfl, hl⟩, hb⟩; have HV := Lib.hid hl; have X6 := Lib.hid (X5.out.next hb); clear hb hl)
    | (go_at_call 26; refine (rlist_b C _).mono ?_; rintro e w7 ⟨⟨v', rfl, hl⟩, hb⟩; have HV' := Lib.hid (And.intro (HV.out.next hb) hl); have X7 := Lib.hid (X6.out.next hb); clear hb hl)
    | (go_at_call 24; refine (eqList_b C v v' _ HV'.out.1 HV'.out.2).mono ?_; rintro e w8 ⟨rfl, q, rfl⟩; have X8 := Lib.hid (X7.out.next (below_drewN (Below.refl _ _) q))))
  go_wp2_with fail
  go_ret
  exact ⟨rfl, X8.out.below⟩

set_option maxRecDepth 100000 in
theorem costChecks_lifted (os : Os) (started : os.Started) (H : Type) (enc : TypeId × Value → H) :
    ReturnsInHanded {} Try.checked os 7 .any (Rows.costChecksSpec.pre6 enc Try.prog Try.f7 Rows.costChecksRow.domain false) (Rows.costChecksSpec.post enc Try.prog Try.f7 false true false false) := by
  refine returnsInHanded_of_change_shaped (C := Try.checked) own started (by kernel_rfl) Try.func7
    (ChangeSpec.witness6 (enc := enc) (C := Try.checked) false ⟨#[], #[.agg #[.int .i64 0, .int .i64 0, .int .i64 0, .int .i64 0, .int .i64 0, .int .i64 0, .int .i64 0, .int .i64 0, .int .i64 0, .int .i64 0, .int .i64 0, .int .i64 0, .int .i64 0]], []⟩ 8 (by kernel_rfl) (by kernel_rfl) (by kernel_rfl) (by kernel_rfl)) ?_
  intro W base args ds gs before hval0 hW hcnd0 _ hsh _
  clear hcnd0
  have hval : ∀ (j : Nat) t v, Try.f7.params[j]? = some t → args[j]? = some v → Value.okWide Try.prog W .any base t v := hval0
  have hW' := hW
  obtain ⟨p, q, hA0, hV, rfl, hfz, hnd⟩ := hW
  have hA : DataW.TrodAll enc Try.prog W 0 (fun _ => true) true Try.f7.params.toList args.toList ds p := hA0
  rw [Try.params7] at hA hval
  obtain ⟨v0, d0, hargs, rfl, h0⟩ := trodAll_one hA
  obtain rfl : args = #[v0] := hargs
  obtain ⟨rfl, rfl⟩ := trodVars_none hV
  obtain ⟨C, rfl⟩ := open_costs (hval 0 23 v0 rfl rfl) h0
  clear hA0 hval0
  have hml : ML W := Try.laysM219.s1_3 W hsh
  refine (checks_walk C W hml).mono fun e W' ⟨he, hb⟩ => ?_
  subst he
  have hlt : ∀ x ∈ p ++ [], x.block < W.heap.size := fun x hx => hW'.lt x hx
  exact ⟨_, rfl, _, _, _, [], p, [], hW', trodAll_mk1 (shut_bool Try.underlying4 _),
    trodAll_mk1 (Below.trod laidOut (by kernel_rfl) (of_decide_eq_true (by kernel_rfl)) h0 hb (fun x hx => hlt x (by simp [hx]))), rfl, hb.frame _, fun h => by cases h⟩

theorem costChecks_holds : Rows.CostChecksSaid :=
  OpenClaim.holds_of_wide 7 Try.f7 rfl rfl rfl rfl rfl rfl rfl ⟨rfl, rfl, rfl, rfl, rfl⟩ rfl rfl rfl rfl rfl (by kernel_rfl) Try.func7 (by kernel_rfl)
    (of_decide_eq_true (by kernel_rfl)) (by unfold Func.isWrapper; rw [if_neg (of_decide_eq_false (by kernel_rfl))]; exact ⟨rfl, rfl⟩)
    (fun os started H enc _ => costChecks_lifted os started H enc)
#print axioms costChecks_holds
end Go.Proofs.Ythlhicegchkjjaa
