/-
  LexerPrefix: what stands before an error is free of errors, and has the tokens that the reference finds there. No condition.
-/
import Derived.Test.YthenhajgmbanjaaLxM
namespace Go.Proofs.Ythenhajgmbanjaa
open Go.RowKit Go.ChangeShapes Go.WideShapes Go.ChangeAt
open Go.ChangeMaps (open_string shut_string)

theorem prefix_walk (s : ByteArray) (w : World) (hz : s.size ≤ maxLen) (hm : ML w) :
    Calls Try.prog 6 #[.string s] w fun e w' => e = .returned (.bool true) ∧ Below w.heap.size w w' := by
  have hmp := hm.pos
  unfold maxLen at hz
  by_cases hs : s.size ≤ 9000
  · rcases lexT_cases s.data.toList with ⟨ts, h⟩ | ⟨ts, a, c, h⟩
    · obtain ⟨n, hn⟩ : ∃ n, n = ts.length := ⟨_, rfl⟩
      have H := Lib.hid h
      have HN := Lib.hid hn
      clear h hn
      go_enter Try.func6, Try.ntmps6
      go_wp2_with fail
      refine (known_any _ hm).mono ?_
      rintro e w1 ⟨rfl, hb1⟩
      have hm1 := hm.below hmp hb1
      go_wp2_with fail
      refine (lex_ok s ts n _ H HN (by unfold maxLen; omega) hm1).mono ?_
      rintro e w2 ⟨⟨A, c, rfl, hr2⟩, hb2⟩
      have HBB := Lib.hid (hb1.trans (hb2.mono hb1.size))
      clear hr2 hb1 hb2 hm1 hm
      go_wp2_with fail
      go_ret
      exact ⟨rfl, HBB.out⟩
    · obtain ⟨ha, hc, hp⟩ := lexT_pre _ _ _ _ h
      rw [len_at] at ha
      have hl : ts.length ≤ 9000 := by
        have := Lx.lexT_len s.data.toList
        rw [h, len_at] at this
        simp only at this; omega
      obtain ⟨n, hn⟩ : ∃ n, n = ts.length := ⟨_, rfl⟩
      rw [← hn] at hl
      have HP : Hid (Lx.lexT (s.extract 0 a).data.toList = (ts, none)) := by
        show _ = _
        rw [Lib.extract_data, Nat.sub_zero, List.drop_zero]; exact hp
      have hc1 : ((c : Int) == 0) = false := by rw [beq_eq_false_iff_ne]; omega
      have hz2 : (s.extract 0 a).size ≤ maxLen := by simp [maxLen]; omega
      have H := Lib.hid h
      have HN := Lib.hid hn
      clear h hn hp hc
      go_enter Try.func6, Try.ntmps6
      go_wp2_with fail
      refine (known_any _ hm).mono ?_
      rintro e w1 ⟨rfl, hb1⟩
      have hm1 := hm.below hmp hb1
      go_wp2_with fail
      refine (lex_no s ts a c _ H (by unfold maxLen; omega) hm1).mono ?_
      rintro e w2 ⟨⟨A, d, rfl⟩, hb2⟩
      have hb2' := hb1.trans (hb2.mono hb1.size)
      have hm2 := hm.below hmp hb2'
      clear hb1 hb2 hm1 hm
      go_wp2_with fail
      refine (lex_ok (s.extract 0 a) ts n _ HP HN hz2 hm2).mono ?_
      rintro e w3 ⟨⟨A1, c1, rfl, hr3⟩, hb3⟩
      have hb3' := hb2'.trans (hb3.mono hb2'.size)
      have HR3 := Lib.hid hr3
      clear hr3 hb3 hb2' hm2
      go_wp2_with fail
      refine (rlex_ok (s.extract 0 a) ts n _ HP HN hz2).mono ?_
      rintro e w4 ⟨⟨A2, c2, rfl, hr4⟩, hb4⟩
      have HR4 := Lib.hid hr4
      have HR3' := Lib.hid (HR3.out.below hb4)
      have HBB := Lib.hid (hb3'.trans (hb4.mono hb3'.size))
      clear hr4 hb4 hb3'
      go_wp2_with fail
      refine (same_n ts n A1 A2 c1 c2 _ HN hl HR3'.out HR4.out).mono ?_
      rintro e w5 ⟨rfl, q, rfl⟩
      go_wp2_with fail
      go_ret
      exact ⟨rfl, below_drewN HBB.out q⟩
  · go_enter Try.func6, Try.ntmps6
    go_wp2_with fail
    refine (known_any _ hm).mono ?_
    rintro e w1 ⟨rfl, hb1⟩
    go_wp2_with fail
    go_ret
    exact ⟨rfl, hb1⟩

set_option maxRecDepth 100000 in
theorem lexerPrefix_lifted (os : Os) (started : os.Started) (H : Type) (enc : TypeId × Value → H) :
    ReturnsInHanded {} Try.checked os 6 .any (Rows.lexerPrefixSpec.pre6 enc Try.prog Try.f6 Rows.lexerPrefixRow.domain false) (Rows.lexerPrefixSpec.post enc Try.prog Try.f6 false true false false) := by
  refine returnsInHanded_of_change_shaped (C := Try.checked) Try.own started (by kernel_rfl) Try.func6
    (ChangeSpec.witness6 (enc := enc) (C := Try.checked) false ⟨#[], #[.string ⟨#[]⟩], []⟩ 8 (by kernel_rfl) (by kernel_rfl) (by kernel_rfl) (by kernel_rfl)) ?_
  intro W base args ds gs before hval0 hW hcnd0 _ hsh _
  clear hcnd0
  have hval : ∀ (j : Nat) t v, Try.f6.params[j]? = some t → args[j]? = some v → Value.okWide Try.prog W .any base t v := hval0
  have hW' := hW
  obtain ⟨p, q, hA0, hV, rfl, hfz, hnd⟩ := hW
  have hA : DataW.TrodAll enc Try.prog W 0 (fun _ => true) true Try.f6.params.toList args.toList ds p := hA0
  rw [Try.params6] at hA hval
  obtain ⟨v0, d0, rfl, rfl, h0⟩ := trodAll_one hA
  obtain ⟨rfl, rfl⟩ := trodVars_none hV
  obtain ⟨s0, rfl, rfl, rfl, ws0⟩ := open_string Try.underlying9 (hval 0 9 v0 rfl rfl) h0
  clear hA0 hval0
  simp only [List.append_nil] at hW'
  have hml : ML W := Try.laysM219.s1_3 W hsh
  refine (prefix_walk s0 W ws0 hml).mono fun e W' ⟨he, hb⟩ => ?_
  subst he
  exact ⟨_, rfl, _, _, _, [], [], [], hW', trodAll_mk1 (shut_bool Try.underlying4 _), trodAll_mk1 (shut_string Try.underlying9 ws0), rfl, hb.frame _, fun h => by cases h⟩

theorem lexerPrefix_holds : Rows.LexerPrefixSaid :=
  OpenClaim.holds_of_wide 6 Try.f6 rfl rfl rfl rfl rfl rfl rfl ⟨rfl, rfl, rfl, rfl, rfl⟩ rfl rfl rfl rfl rfl (by kernel_rfl) Try.func6 (by kernel_rfl)
    (of_decide_eq_true (by kernel_rfl)) (by unfold Func.isWrapper; rw [if_neg (of_decide_eq_false (by kernel_rfl))]; exact ⟨rfl, rfl⟩)
    (fun os started H enc _ => lexerPrefix_lifted os started H enc)
#print axioms lexerPrefix_holds
end Go.Proofs.Ythenhajgmbanjaa
