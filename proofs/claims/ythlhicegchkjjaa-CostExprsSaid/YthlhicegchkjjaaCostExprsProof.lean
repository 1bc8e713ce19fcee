/-
  CostExprs: Expr and Place of the program return what those of the reference return. No condition.
-/
import Derived.Test.YthlhicegchkjjaaCoO
import Derived.Test.YthlhicegchkjjaaRows
import Derived.HandedShaped
namespace Go.Proofs.Ythlhicegchkjjaa
open Go.RowKit Go.ChangeShapes Go.WideShapes Go.ChangeAt

set_option maxHeartbeats 4000000 in
theorem exprs_walk (C : CM) (o n : Int) (s : ByteArray) (ks : List ET) (A : Option Addr) (c l : Nat) (w : World) (hm : ML w) (hl : ks.length = l) (hE : EOk w s A c ks) :
    Calls Try.prog 3 #[.agg #[.int .i64 C.c0, .int .i64 C.c1, .int .i64 C.c2, .int .i64 C.c3, .int .i64 C.c4, .int .i64 C.c5, .int .i64 C.c6, .int .i64 C.c7, .int .i64 C.c8, .int .i64 C.c9, .int .i64 C.c10, .int .i64 C.c11, .int .i64 C.c12], .agg #[.int .i64 o, .int .i64 n, .string s, .slice A l c]] w fun e w' => e = .returned (.bool true) ∧ Below w.heap.size w w' := by
  obtain ⟨fb, hfb⟩ : ∃ b, decide (0 ≤ ET.left (.mk o n s ks) 300) = b := ⟨_, rfl⟩
  have HF := Lib.hid hfb
  have HE := Lib.hid hE
  have HLN := Lib.hid hl
  have HML := Lib.hid hm
  have X0 := Lib.hid (bx w C o n s A l c)
  clear hE hl hm hfb
  cases fb
  all_goals
    go_enter Try.func3, Try.ntmps3
    go_wp2_with fail
    refine (known_t _ (HML.out.below HML.out.pos X0.out.below)).mono ?_
    rintro e w1 ⟨rfl, hb⟩
    have X1 := Lib.hid (X0.out.next hb)
    clear hb X0
    have hcc := X1.out.cc
    have e0 := X1.out.e0
    have e1 := X1.out.e1
    have e2 := X1.out.e2
    have e3 := X1.out.e3
    unfold CIn at hcc
    obtain ⟨k0, k1, k2, k3, k4, k5, k6, k7, k8, k9, k10, k11, k12⟩ := hcc
    go_wp2_with fail
    refine (few_b o n s ks A c l _ HLN.out HF _ (X1.out.eok HE.out)).mono ?_
    rintro e w2 ⟨rfl, hb⟩
    have X2 := Lib.hid (X1.out.next hb)
    clear hb X1
    clear k0 k1 k2 k3 k4 k5 k6 k7 k8 k9 k10 k11 k12 e0 e1 e2 e3
  · go_wp2_with fail
    go_ret
    exact ⟨rfl, X2.out.below⟩
  · have hf := ET.few (of_decide_eq_true HF.out)
    have HC : Hid (ET.cnt (.mk o n s ks) ≤ 1000000 ∧ ET.dep (.mk o n s ks) ≤ 1000000) := ⟨by omega, by omega⟩
    obtain ⟨⟨x, k⟩, hx⟩ : ∃ r, C.exprR (.mk o n s ks) = r := ⟨_, rfl⟩
    obtain ⟨⟨y, j⟩, hy⟩ : ∃ r, C.placeR (.mk o n s ks) = r := ⟨_, rfl⟩
    have HX := Lib.hid hx
    have HY := Lib.hid hy
    clear hf hx hy HF
    have hcc := X2.out.cc
    have e0 := X2.out.e0
    have e1 := X2.out.e1
    have e2 := X2.out.e2
    have e3 := X2.out.e3
    unfold CIn at hcc
    obtain ⟨k0, k1, k2, k3, k4, k5, k6, k7, k8, k9, k10, k11, k12⟩ := hcc
    go_wp2_with fail
    refine (expr_b C o n s ks A c l x k _ (HML.out.below HML.out.pos X2.out.below) HLN.out HC.out.1 HC.out.2 (X2.out.eok HE.out) HX).mono ?_
    rintro e w3 ⟨rfl, hb⟩
    have X3 := Lib.hid (X2.out.next hb)
    clear hb X2
    clear k0 k1 k2 k3 k4 k5 k6 k7 k8 k9 k10 k11 k12 e0 e1 e2 e3
    have hcc := X3.out.cc
    have e0 := X3.out.e0
    have e1 := X3.out.e1
    have e2 := X3.out.e2
    have e3 := X3.out.e3
    unfold CIn at hcc
    obtain ⟨k0, k1, k2, k3, k4, k5, k6, k7, k8, k9, k10, k11, k12⟩ := hcc
    go_wp2_with fail
    refine (rexpr_b C o n s ks A c l x k _ HLN.out HC.out.1 HC.out.2 (X3.out.eok HE.out) HX).mono ?_
    rintro e w4 ⟨rfl, hb⟩
    have X4 := Lib.hid (X3.out.next hb)
    clear hb X3
    clear k0 k1 k2 k3 k4 k5 k6 k7 k8 k9 k10 k11 k12 e0 e1 e2 e3
    have hcc := X4.out.cc
    have e0 := X4.out.e0
    have e1 := X4.out.e1
    have e2 := X4.out.e2
    have e3 := X4.out.e3
    unfold CIn at hcc
    obtain ⟨k0, k1, k2, k3, k4, k5, k6, k7, k8, k9, k10, k11, k12⟩ := hcc
    go_wp2_with fail
    refine (place_c C o n s ks A c l y j _ (HML.out.below HML.out.pos X4.out.below) HLN.out HC.out.1 HC.out.2 (X4.out.eok HE.out) HY).mono ?_
    rintro e w5 ⟨rfl, hb⟩
    have X5 := Lib.hid (X4.out.next hb)
    clear hb X4
    clear k0 k1 k2 k3 k4 k5 k6 k7 k8 k9 k10 k11 k12 e0 e1 e2 e3
    have hcc := X5.out.cc
    have e0 := X5.out.e0
    have e1 := X5.out.e1
    have e2 := X5.out.e2
    have e3 := X5.out.e3
    unfold CIn at hcc
    obtain ⟨k0, k1, k2, k3, k4, k5, k6, k7, k8, k9, k10, k11, k12⟩ := hcc
    go_wp2_with fail
    refine (rplace_c C o n s ks A c l y j _ HLN.out HC.out.1 HC.out.2 (X5.out.eok HE.out) HY).mono ?_
    rintro e w6 ⟨rfl, hb⟩
    have X6 := Lib.hid (X5.out.next hb)
    clear hb X5
    clear k0 k1 k2 k3 k4 k5 k6 k7 k8 k9 k10 k11 k12 e0 e1 e2 e3
    go_wp2_with fail
    go_ret
    exact ⟨ret_bool (by simp), X6.out.below⟩

set_option maxRecDepth 100000 in
theorem costExprs_lifted (os : Os) (started : os.Started) (H : Type) (enc : TypeId × Value → H) :
    ReturnsInHanded {} Try.checked os 3 .any (Rows.costExprsSpec.pre6 enc Try.prog Try.f3 Rows.costExprsRow.domain false) (Rows.costExprsSpec.post enc Try.prog Try.f3 false true false false) := by
  refine returnsInHanded_of_change_shaped (C := Try.checked) own started (by kernel_rfl) Try.func3
    (ChangeSpec.witness6 (enc := enc) (C := Try.checked) false ⟨#[], #[.agg #[.int .i64 0, .int .i64 0, .int .i64 0, .int .i64 0, .int .i64 0, .int .i64 0, .int .i64 0, .int .i64 0, .int .i64 0, .int .i64 0, .int .i64 0, .int .i64 0, .int .i64 0], .agg #[.int .i64 0, .int .i64 0, .string ⟨#[]⟩, .slice none 0 0]], []⟩ 8 (by kernel_rfl) (by kernel_rfl) (by kernel_rfl) (by kernel_rfl)) ?_
  intro W base args ds gs before hval0 hW hcnd0 _ hsh _
  clear hcnd0
  have hval : ∀ (j : Nat) t v, Try.f3.params[j]? = some t → args[j]? = some v → Value.okWide Try.prog W .any base t v := hval0
  have hW' := hW
  obtain ⟨p, q, hA0, hV, rfl, hfz, hnd⟩ := hW
  have hA : DataW.TrodAll enc Try.prog W 0 (fun _ => true) true Try.f3.params.toList args.toList ds p := hA0
  rw [Try.params3] at hA hval
  obtain ⟨v0, v1, d0, d1, p0, p1, hargs, rfl, rfl, h0, h1⟩ := trodAll_two hA
  obtain rfl : args = #[v0, v1] := hargs
  obtain ⟨rfl, rfl⟩ := trodVars_none hV
  obtain ⟨C, rfl⟩ := open_costs (hval 0 23 v0 rfl rfl) h0
  obtain ⟨o, n, s, A, l, c, ks, rfl, hl, hE⟩ := open_expr (hval 1 27 v1 rfl rfl) h1
  clear hA0 hval0
  have hml : ML W := Try.laysM219.s1_3 W hsh
  refine (exprs_walk C o n s ks A c l W hml hl hE).mono fun e W' ⟨he, hb⟩ => ?_
  subst he
  have hlt : ∀ x ∈ p0 ++ p1 ++ [], x.block < W.heap.size := fun x hx => hW'.lt x hx
  exact ⟨_, rfl, _, _, _, [], p0 ++ p1, [], hW', trodAll_mk1 (shut_bool Try.underlying4 _),
    trodAll_mk2 (Below.trod laidOut (by kernel_rfl) (of_decide_eq_true (by kernel_rfl)) h0 hb (fun x hx => hlt x (by simp [hx]))) (Below.trod laidOut (by kernel_rfl) (of_decide_eq_true (by kernel_rfl)) h1 hb (fun x hx => hlt x (by simp [hx]))), rfl, hb.frame _, fun h => by cases h⟩

theorem costExprs_holds : Rows.CostExprsSaid :=
  OpenClaim.holds_of_wide 3 Try.f3 rfl rfl rfl rfl rfl rfl rfl ⟨rfl, rfl, rfl, rfl, rfl⟩ rfl rfl rfl rfl rfl (by kernel_rfl) Try.func3 (by kernel_rfl)
    (of_decide_eq_true (by kernel_rfl)) (by unfold Func.isWrapper; rw [if_neg (of_decide_eq_false (by kernel_rfl))]; exact ⟨rfl, rfl⟩)
    (fun os started H enc _ => costExprs_lifted os started H enc)
#print axioms costExprs_holds
end Go.Proofs.Ythlhicegchkjjaa
