/-
  LexerTokens: the program's Lex returns the tokens of a text, or the offset and the code of the first error, as the reference does. No condition.
-/
import Derived.Test.YthenhajgmbanjaaLxK
namespace Go.Proofs.Ythenhajgmbanjaa
open Go.RowKit Go.ChangeShapes Go.WideShapes Go.ChangeAt
open Go.ChangeMaps (open_string shut_string)

theorem tokens_walk (s : ByteArray) (w : World) (hz : s.size ≤ maxLen) (hm : ML w) :
    Calls Try.prog 3 #[.string s] w fun e w' => e = .returned (.bool true) ∧ Below w.heap.size w w' := by
  have hmp := hm.pos
  unfold maxLen at hz
  by_cases hs : s.size ≤ 9000
  · obtain ⟨r, hr⟩ : ∃ r, r = Lx.lexT s.data.toList := ⟨_, rfl⟩
    have hl : (resToks r).length ≤ 9000 := by have := resToks_len s.data.toList; rw [hr]; rw [len_at] at this; omega
    have HR := Lib.hid hr
    clear hr
    go_enter Try.func3, Try.ntmps3
    go_wp2_with fail
    refine (known_any _ hm).mono ?_
    rintro e w1 ⟨rfl, hb1⟩
    have hm1 := hm.below hmp hb1
    go_wp2_with fail
    refine (lexT_any s _ (by unfold maxLen; omega) hm1).mono ?_
    rw [← HR.out]
    rintro e w2 ⟨⟨A, c, rfl, hr2⟩, hb2⟩
    have HR2 := Lib.hid hr2
    clear hr2
    go_wp2_with fail
    refine (rlexT_any s _ (by unfold maxLen; omega)).mono ?_
    rw [← HR.out]
    rintro e w3 ⟨⟨B, d, rfl, hr3⟩, hb3⟩
    have HR3 := Lib.hid hr3
    have HR2' := Lib.hid (HR2.out.below hb3)
    have HBB := Lib.hid ((hb1.trans (hb2.mono hb1.size)).trans (hb3.mono (Nat.le_trans hb1.size hb2.size)))
    clear hr3 hb1 hb2 hb3 hm1 hm
    go_wp2_with fail
    refine (same_any _ _ A B c d _ hl hl HR2'.out HR3.out).mono ?_
    rintro e w4 ⟨rfl, q, rfl⟩
    go_wp2_with fail
    go_ret
    exact ⟨ret_bool (by simp), below_drewN HBB.out q⟩
  · go_enter Try.func3, Try.ntmps3
    go_wp2_with fail
    refine (known_any _ hm).mono ?_
    rintro e w1 ⟨rfl, hb1⟩
    go_wp2_with fail
    go_ret
    exact ⟨rfl, hb1⟩

theorem Try.own : ownKnob Try.prog.godebug = none := by kernel_rfl

set_option maxRecDepth 100000 in
theorem lexerTokens_lifted (os : Os) (started : os.Started) (H : Type) (enc : TypeId × Value → H) :
    ReturnsInHanded {} Try.checked os 3 .any (Rows.lexerTokensSpec.pre6 enc Try.prog Try.f3 Rows.lexerTokensRow.domain false) (Rows.lexerTokensSpec.post enc Try.prog Try.f3 false true false false) := by
  refine returnsInHanded_of_change_shaped (C := Try.checked) Try.own started (by kernel_rfl) Try.func3
    (ChangeSpec.witness6 (enc := enc) (C := Try.checked) false ⟨#[], #[.string ⟨#[]⟩], []⟩ 8 (by kernel_rfl) (by kernel_rfl) (by kernel_rfl) (by kernel_rfl)) ?_
  intro W base args ds gs before hval0 hW hcnd0 _ hsh _
  clear hcnd0
  have hval : ∀ (j : Nat) t v, Try.f3.params[j]? = some t → args[j]? = some v → Value.okWide Try.prog W .any base t v := hval0
  have hW' := hW
  obtain ⟨p, q, hA0, hV, rfl, hfz, hnd⟩ := hW
  have hA : DataW.TrodAll enc Try.prog W 0 (fun _ => true) true Try.f3.params.toList args.toList ds p := hA0
  rw [Try.params3] at hA hval
  obtain ⟨v0, d0, rfl, rfl, h0⟩ := trodAll_one hA
  obtain ⟨rfl, rfl⟩ := trodVars_none hV
  obtain ⟨s0, rfl, rfl, rfl, ws0⟩ := open_string Try.underlying9 (hval 0 9 v0 rfl rfl) h0
  clear hA0 hval0
  simp only [List.append_nil] at hW'
  have hml : ML W := Try.laysM219.s1_3 W hsh
  refine (tokens_walk s0 W ws0 hml).mono fun e W' ⟨he, hb⟩ => ?_
  subst he
  exact ⟨_, rfl, _, _, _, [], [], [], hW', trodAll_mk1 (shut_bool Try.underlying4 _), trodAll_mk1 (shut_string Try.underlying9 ws0), rfl, hb.frame _, fun h => by cases h⟩

theorem lexerTokens_holds : Rows.LexerTokensSaid :=
  OpenClaim.holds_of_wide 3 Try.f3 rfl rfl rfl rfl rfl rfl rfl ⟨rfl, rfl, rfl, rfl, rfl⟩ rfl rfl rfl rfl rfl (by kernel_rfl) Try.func3 (by kernel_rfl)
    (of_decide_eq_true (by kernel_rfl)) (by unfold Func.isWrapper; rw [if_neg (of_decide_eq_false (by kernel_rfl))]; exact ⟨rfl, rfl⟩)
    (fun os started H enc _ => lexerTokens_lifted os started H enc)
#print axioms lexerTokens_holds
end Go.Proofs.Ythenhajgmbanjaa
