/-
  LexerSpaces: white space and a comment behind a token change nothing but offsets. No condition.
-/
import Derived.Test.YthenhajgmbanjaaLxN
import Derived.IntWalk
import Derived.Deep.RegionWith
namespace Go.Proofs.Ythenhajgmbanjaa
open Go.RowKit Go.ChangeShapes Go.WideShapes Go.ChangeAt
open Go.ChangeMaps (open_string shut_string)

theorem spaces_far (s : ByteArray) (i : Int) (w : World) (hz : s.size ≤ maxLen) (hm : ML w) (hs : 4000 < s.size) :
    Calls Try.prog 5 #[.string s, .int .i64 i] w fun e w' => e = .returned (.bool true) ∧ Below w.heap.size w w' := by
  unfold maxLen at hz
  go_enter Try.func5, Try.ntmps5
  go_wp2_with fail
  refine (known_any _ hm).mono ?_
  rintro e w1 ⟨rfl, hb1⟩
  go_wp2_with fail
  go_ret
  exact ⟨rfl, hb1⟩
set_option maxHeartbeats 1000000 in
theorem spaces_no (s : ByteArray) (i : Int) (w : World) (hm : ML w) (hs : s.size ≤ 4000) (ts : List Lx.Tok) (a c : Nat) (H : Hid (Lx.lexT s.data.toList = (ts, some (a, c)))) (_hc1 : ((c : Int) == 0) = false) (hc2 : ((c : Int) != 0) = true) :
    Calls Try.prog 5 #[.string s, .int .i64 i] w fun e w' => e = .returned (.bool true) ∧ Below w.heap.size w w' := by
  have hmp := hm.pos
  go_enter Try.func5, Try.ntmps5
  go_wp2_with fail
  refine (known_any _ hm).mono ?_
  rintro e w1 ⟨rfl, hb1⟩
  have hm1 := hm.below hmp hb1
  go_wp2_with fail
  refine (lex_no s ts a c _ H (by unfold maxLen; omega) hm1).mono ?_
  rintro e w2 ⟨⟨A, d, rfl⟩, hb2⟩
  have HB := Lib.hid (hb1.trans (hb2.mono hb1.size))
  clear hb1 hb2 hm1 hm
  go_wp2_with fail
  go_quiet (fail)
  go_wp2_with fail
  go_ret
  exact ⟨rfl, below_drewN HB.out _⟩
set_option maxHeartbeats 1000000 in
theorem spaces_out (s : ByteArray) (i : Int) (w : World) (hm : ML w) (hs : s.size ≤ 4000) (ts : List Lx.Tok) (n : Nat) (H : Hid (Lx.lexT s.data.toList = (ts, none))) (HN : Hid (n = ts.length)) (hi : i < 0 ∨ (0 ≤ i ∧ (n : Int) ≤ i)) :
    Calls Try.prog 5 #[.string s, .int .i64 i] w fun e w' => e = .returned (.bool true) ∧ Below w.heap.size w w' := by
  have hmp := hm.pos
  rcases hi with hi | ⟨hi0, hi⟩
  · have d1 : decide (i < 0) = true := by simp; omega
    go_enter Try.func5, Try.ntmps5
    go_wp2_with fail
    refine (known_any _ hm).mono ?_
    rintro e w1 ⟨rfl, hb1⟩
    have hm1 := hm.below hmp hb1
    go_wp2_with fail
    refine (lex_ok s ts n _ H HN (by unfold maxLen; omega) hm1).mono ?_
    rintro e w2 ⟨⟨A, d, rfl, _, _⟩, hb2⟩
    have HB := Lib.hid (hb1.trans (hb2.mono hb1.size))
    clear hb1 hb2 hm1 hm
    go_wp2_with fail
    go_quiet (fail)
    go_wp2_with fail
    go_ret
    exact ⟨rfl, below_drewN HB.out _⟩
  · have d1 : decide (i < 0) = false := by simp; omega
    have d2 : decide ((n : Int) ≤ i) = true := by simp; omega
    go_enter Try.func5, Try.ntmps5
    go_wp2_with fail
    refine (known_any _ hm).mono ?_
    rintro e w1 ⟨rfl, hb1⟩
    have hm1 := hm.below hmp hb1
    go_wp2_with fail
    refine (lex_ok s ts n _ H HN (by unfold maxLen; omega) hm1).mono ?_
    rintro e w2 ⟨⟨A, d, rfl, _, _⟩, hb2⟩
    have HB := Lib.hid (hb1.trans (hb2.mono hb1.size))
    clear hb1 hb2 hm1 hm
    go_wp2_with fail
    go_quiet (fail)
    go_wp2_with fail
    go_ret
    exact ⟨rfl, below_drewN HB.out _⟩
theorem pad_data (s : ByteArray) (e : Nat) : (s.extract 0 e ++ ⟨#[9, 35, 59, 32, 36, 10, 32]⟩ ++ s.extract e s.size : ByteArray).data.toList = s.data.toList.take e ++ (Lx.pad ++ s.data.toList.drop e) := by
  have h1 := Lib.extract_data s 0 e
  have h2 := Lib.extract_to_end s e
  simp only [ByteArray.data_append, Array.toList_append, h1, h2, List.append_assoc]
  simp [Lx.pad]
theorem slice_to (s : ByteArray) (e : Nat) (he : e ≤ s.size) (wx : World) : (Instr.slice 9 (.string s) none (some (.int .i64 (e : Int))) none).run Try.prog wx = .ok (.string (s.extract 0 e)) wx := by
  have := run_slice_string_to_if (P := Try.prog) (w := wx) 9 s .i64 (e : Int) Try.underlying9
  rw [if_pos ⟨by omega, by omega⟩, Int.toNat_natCast] at this
  exact this
theorem slice_from (s : ByteArray) (e : Nat) (he : e ≤ s.size) (wx : World) : (Instr.slice 9 (.string s) (some (.int .i64 (e : Int))) none none).run Try.prog wx = .ok (.string (s.extract e s.size)) wx := by
  have := run_slice_string_from_if (P := Try.prog) (w := wx) 9 s .i64 (e : Int) Try.underlying9
  rw [if_pos ⟨by omega, by omega⟩, Int.toNat_natCast] at this
  exact this
set_option maxHeartbeats 2000000 in
theorem spaces_ok (s : ByteArray) (i : Nat) (w : World) (hm : ML w) (hs : s.size ≤ 4000) (ts us : List Lx.Tok) (n en : Nat) (tx X Y Z R : ByteArray) (at0 : Nat) (hn9 : n ≤ 9000) (H : Hid (Lx.lexT s.data.toList = (ts, none))) (HN : Hid (n = ts.length)) (HNU : Hid (n = us.length)) (hin : i < n)
    (c1 : Hid ((tvals ts)[i * 3 + 1]? = some (.string tx))) (c2 : Hid ((tvals ts)[i * 3 + 2]? = some (.int .i64 (at0 : Int)))) (hen : Hid (en = at0 + tx.size)) (hez : en ≤ s.size) (hez2 : at0 + tx.size ≤ s.size)
    (hX : Hid (X = s.extract 0 en)) (hR : Hid (R = s.extract en s.size)) (hY : Hid (Y = X ++ ⟨#[9, 35, 59, 32, 36, 10, 32]⟩)) (hZ : Hid (Z = Y ++ R)) (hXz : X.size ≤ 9000) (hYz : Y.size ≤ 9000) (hRz : R.size ≤ 9000) (hZz : Z.size ≤ maxLen)
    (H2 : Hid (Lx.lexT Z.data.toList = (us, none))) (HK : Hid (ts.map Lx.kt = us.map Lx.kt)) :
    Calls Try.prog 5 #[.string s, .int .i64 (i : Int)] w fun e w' => e = .returned (.bool true) ∧ Below w.heap.size w w' := by
  have hmp := hm.pos
  go_enter Try.func5, Try.ntmps5
  go_wp2_with fail
  refine (known_any _ hm).mono ?_
  rintro e w1 ⟨rfl, hb1⟩
  have hm1 := hm.below hmp hb1
  go_wp2_with fail
  refine (lex_ok s ts n _ H HN (by unfold maxLen; omega) hm1).mono ?_
  rintro e w2 ⟨⟨A, d, rfl, hr2, _⟩, hb2⟩
  have hb2' := hb1.trans (hb2.mono hb1.size)
  obtain ⟨g, rfl, hg, hc⟩ := hr2.2 (by omega)
  have HR2 := Lib.hid hr2
  have a1 := hc _ _ c1.out
  have a2 := hc _ _ c2.out
  have hm2 := hm.below hmp hb2'
  clear hb1 hb2 hm1 hm hr2 hc
  have d0 : decide ((i : Int) < 0) = false := by simp
  have d1 : decide (n ≤ i) = false := by simp; omega
  have i1 : (0 : Int) ≤ (i : Int) := by omega
  have i2 : (i : Int) < (n : Int) := by omega
  have d2 : decide ((at0 : Int) < 0) = false := by simp
  have q1 : IntKind.i64.wrap ((s.size : Int) - (tx.size : Int)) = (s.size : Int) - (tx.size : Int) := IntWalk.i64_in _ (by omega)
  have d3 : decide ((s.size : Int) - (tx.size : Int) < (at0 : Int)) = false := by simp; omega
  have q2 : IntKind.i64.wrap ((at0 : Int) + (tx.size : Int)) = (at0 : Int) + (tx.size : Int) := IntWalk.i64_in _ (by omega)
  go_wp2_with fail
  go_quiet (fail)
  go_wp2_with fail
  go_quiet (fail)
  rw [show ((at0 : Int) + (tx.size : Int)) = ((en : Nat) : Int) from by have := hen.out; omega]
  clear d0 d1 i1 i2 d2 q1 d3 q2 a1 a2
  have sl1 := fun wx => slice_to s en hez wx
  rw [← hX.out] at sl1
  have sl2 := fun wx => slice_from s en hez wx
  rw [← hR.out] at sl2
  have ad1 : ∀ wx, (Op.stringOp .add X ⟨#[9, 35, 59, 32, 36, 10, 32]⟩).run Try.prog wx = .ok (.string Y) wx := fun wx => by
    rw [hY.out]; exact run_string_add_sum _ _ _ (by rw [show (⟨#[9, 35, 59, 32, 36, 10, 32]⟩ : ByteArray).size = 7 from rfl]; omega)
  have ad2 : ∀ wx, (Op.stringOp .add Y R).run Try.prog wx = .ok (.string Z) wx := fun wx => by
    rw [hZ.out]; exact run_string_add_sum _ _ _ (by omega)
  generalize hW : (w2.drewN _).drewN _ = W
  have hb3 : Below w.heap.size w W := by rw [← hW]; exact below_drewN (below_drewN hb2' _) _
  have HR3 : Hid (Rd W 3 (some ⟨g, 0, none⟩) n (tvals ts)) := by rw [← hW]; exact HR2.out
  have hm3 : ML W := by rw [← hW]; exact hm2
  clear hW HR2 hb2' hm2
  go_wp2_with fail
  go_region_with (go_at_call 11; refine (lex_ok Z us n _ H2 HNU hZz ?_).mono ?_; exact hm3; rintro e w4 ⟨⟨A4, d4, rfl, hr4, _⟩, hb4⟩)
  have HA4 : Hid (Rd w4 3 (some ⟨g, 0, none⟩) n (tvals ts)) := Rd.below (w := W.drew) HR3.out hb4
  have HR4 := Lib.hid hr4
  have HB4 : Hid (Below w.heap.size w w4) := (hb3.drew).trans (hb4.mono hb3.size)
  clear hr4 hb4 hb3 hm3 HR3 sl1 sl2 ad1 ad2
  go_wp2_with fail
  refine (alike_n ts us n _ A4 d d4 _ HN HK (by omega) HA4 HR4).mono ?_
  rintro e w5 ⟨rfl, q, rfl⟩
  go_wp2_with fail
  go_ret
  exact ⟨rfl, below_drewN HB4.out q⟩

theorem spaces_walk (s : ByteArray) (i : Int) (w : World) (hz : s.size ≤ maxLen) (_hi : (Lit.int .i64 i).wf = true) (hm : ML w) :
    Calls Try.prog 5 #[.string s, .int .i64 i] w fun e w' => e = .returned (.bool true) ∧ Below w.heap.size w w' := by
  by_cases hs : s.size ≤ 4000
  · rcases lexT_cases s.data.toList with ⟨ts, h1⟩ | ⟨ts, a, c, h1⟩
    · have l1 := Lx.lexT_len s.data.toList
      rw [h1, len_at] at l1
      simp only at l1
      by_cases hi : 0 ≤ i ∧ i < (ts.length : Int)
      · obtain ⟨hi0, hi1⟩ := hi
        obtain ⟨k, rfl⟩ := Int.eq_ofNat_of_zero_le hi0
        have hk : k < ts.length := by omega
        obtain ⟨x0, x1, x2⟩ := tval_at ts k hk
        have hlx := (lexT_lex _ ts h1).2
        obtain ⟨g1, us, g2, g3⟩ := Lx.lex_spaces _ ts hlx k ts[k] (List.getElem?_eq_getElem hk)
        have hsz : (⟨(ts[k].text).toArray⟩ : ByteArray).size = ts[k].text.length := by rw [← len_at]
        rw [len_at] at g1
        have hl := Lx.lex_len 0 (s.data.toList.take (ts[k].at_ + ts[k].text.length) ++ (Lx.pad ++ s.data.toList.drop (ts[k].at_ + ts[k].text.length)))
        have hll : (s.data.toList.take (ts[k].at_ + ts[k].text.length) ++ (Lx.pad ++ s.data.toList.drop (ts[k].at_ + ts[k].text.length))).length ≤ 4007 := by
          rw [List.length_append, List.length_append, List.length_take, List.length_drop, len_at, show Lx.pad.length = 7 from rfl]; omega
        have hpd := pad_data s (ts[k].at_ + ts[k].text.length)
        refine spaces_ok s k w hm hs ts us ts.length (ts[k].at_ + ts[k].text.length) ⟨(ts[k].text).toArray⟩ _ _ _ _ ts[k].at_ (by omega) h1 rfl ?_ hk x1 x2 ?_ g1 (by rw [hsz]; exact g1) rfl rfl rfl rfl ?_ ?_ ?_ ?_ ?_ g3
        · have := congrArg List.length g3; rw [List.length_map, List.length_map] at this; exact this
        · show _ = _; rw [hsz]
        · simp; omega
        · rw [← len_at]; simp; omega
        · simp; omega
        · rw [← len_at, hpd]; unfold maxLen; omega
        · show _ = _
          rw [hpd]
          unfold Lx.lexT
          rw [if_pos (by omega)]
          exact g2
      · exact spaces_out s i w hm hs ts ts.length h1 rfl (by omega)
    · obtain ⟨_, q2, _⟩ := lexT_pre _ _ _ _ h1
      exact spaces_no s i w hm hs ts a c h1 (by rw [beq_eq_false_iff_ne]; omega) (by rw [bne_iff_ne]; omega)
  · exact spaces_far s i w hz hm (by omega)

set_option maxRecDepth 100000 in
theorem lexerSpaces_lifted (os : Os) (started : os.Started) (H : Type) (enc : TypeId × Value → H) :
    ReturnsInHanded {} Try.checked os 5 .any (Rows.lexerSpacesSpec.pre6 enc Try.prog Try.f5 Rows.lexerSpacesRow.domain false) (Rows.lexerSpacesSpec.post enc Try.prog Try.f5 false true false false) := by
  refine returnsInHanded_of_change_shaped (C := Try.checked) Try.own started (by kernel_rfl) Try.func5
    (ChangeSpec.witness6 (enc := enc) (C := Try.checked) false ⟨#[], #[.string ⟨#[]⟩, .int .i64 0], []⟩ 8 (by kernel_rfl) (by kernel_rfl) (by kernel_rfl) (by kernel_rfl)) ?_
  intro W base args ds gs before hval0 hW hcnd0 _ hsh _
  clear hcnd0
  have hval : ∀ (j : Nat) t v, Try.f5.params[j]? = some t → args[j]? = some v → Value.okWide Try.prog W .any base t v := hval0
  have hW' := hW
  obtain ⟨p, q, hA0, hV, rfl, hfz, hnd⟩ := hW
  have hA : DataW.TrodAll enc Try.prog W 0 (fun _ => true) true Try.f5.params.toList args.toList ds p := hA0
  rw [Try.params5] at hA hval
  obtain ⟨v0, v1, d0, d1, p0, p1, rfl, rfl, rfl, h0, h1⟩ := trodAll_two hA
  obtain ⟨rfl, rfl⟩ := trodVars_none hV
  obtain ⟨s0, rfl, rfl, rfl, ws0⟩ := open_string Try.underlying9 (hval 0 9 v0 rfl rfl) h0
  obtain ⟨s1, rfl, rfl, rfl, ws1⟩ := open_int Try.underlying3 (hval 1 3 v1 rfl rfl) h1
  clear hA0 hval0
  simp only [List.append_nil] at hW'
  have hml : ML W := Try.laysM219.s1_3 W hsh
  refine (spaces_walk s0 s1 W ws0 ws1 hml).mono fun e W' ⟨he, hb⟩ => ?_
  subst he
  exact ⟨_, rfl, _, _, _, [], [], [], hW', trodAll_mk1 (shut_bool Try.underlying4 _), trodAll_mk2 (shut_string Try.underlying9 ws0) (shut_int Try.underlying3 ws1), rfl, hb.frame _, fun h => by cases h⟩

theorem lexerSpaces_holds : Rows.LexerSpacesSaid :=
  OpenClaim.holds_of_wide 5 Try.f5 rfl rfl rfl rfl rfl rfl rfl ⟨rfl, rfl, rfl, rfl, rfl⟩ rfl rfl rfl rfl rfl (by kernel_rfl) Try.func5 (by kernel_rfl)
    (of_decide_eq_true (by kernel_rfl)) (by unfold Func.isWrapper; rw [if_neg (of_decide_eq_false (by kernel_rfl))]; exact ⟨rfl, rfl⟩)
    (fun os started H enc _ => lexerSpaces_lifted os started H enc)
#print axioms lexerSpaces_holds
end Go.Proofs.Ythenhajgmbanjaa
