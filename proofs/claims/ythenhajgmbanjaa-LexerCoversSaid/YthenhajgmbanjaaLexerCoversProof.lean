/-
  LexerCovers: the tokens stand in the text at their offsets, in order, and between them there is nothing but white space and comments. No condition.
-/
import Derived.Test.YthenhajgmbanjaaLxN
import Derived.IntWalk
namespace Go.Proofs.Ythenhajgmbanjaa
open Go.RowKit Go.ChangeShapes Go.WideShapes Go.ChangeAt
open Go.ChangeMaps (open_string shut_string)

theorem tval_split (ts : List Lx.Tok) (k : Nat) (t : Lx.Tok) (h : ts[k]? = some t) : (tvals ts)[k * 3]? = some (.int .i64 (t.kind)) ∧ (tvals ts)[k * 3 + 1]? = some (.string ⟨(t.text).toArray⟩) ∧ (tvals ts)[k * 3 + 2]? = some (.int .i64 (t.at_)) := by
  obtain ⟨hl, rfl⟩ := List.getElem?_eq_some_iff.1 h
  exact tval_at ts k hl
theorem covers_far (s : ByteArray) (w : World) (hz : s.size ≤ maxLen) (hm : ML w) (hs : 9000 < s.size) :
    Calls Try.prog 4 #[.string s] w fun e w' => e = .returned (.bool true) ∧ Below w.heap.size w w' := by
  unfold maxLen at hz
  go_enter Try.func4, Try.ntmps4
  go_wp2_with fail
  refine (known_any _ hm).mono ?_
  rintro e w1 ⟨rfl, hb1⟩
  go_wp2_with fail
  go_ret
  exact ⟨rfl, hb1⟩
theorem covers_no (s : ByteArray) (w : World) (hm : ML w) (hs : s.size ≤ 9000) (ts : List Lx.Tok) (a c : Nat) (H : Hid (Lx.lexT s.data.toList = (ts, some (a, c)))) (hc1 : ((c : Int) == 0) = false) :
    Calls Try.prog 4 #[.string s] w fun e w' => e = .returned (.bool true) ∧ Below w.heap.size w w' := by
  have hmp := hm.pos
  go_enter Try.func4, Try.ntmps4
  go_wp2_with fail
  refine (known_any _ hm).mono ?_
  rintro e w1 ⟨rfl, hb1⟩
  have hm1 := hm.below hmp hb1
  go_wp2_with fail
  refine (lex_no s ts a c _ H (by unfold maxLen; omega) hm1).mono ?_
  rintro e w2 ⟨⟨A, d, rfl⟩, hb2⟩
  have HB := Lib.hid (hb1.trans (hb2.mono hb1.size))
  clear hb1 hb2 hm1 hm
  go_wp2_with fail
  go_ret
  exact ⟨rfl, HB.out⟩
set_option maxHeartbeats 1000000 in
theorem covers_ok (s : ByteArray) (w : World) (hm : ML w) (hs : s.size ≤ 9000) (ts : List Lx.Tok) (n : Nat) (hn9 : n ≤ 9000) (H : Hid (Lx.lexT s.data.toList = (ts, none))) (HN : Hid (n = ts.length)) (HC : Hid (Lx.Cov s.data.toList 0 ts)) :
    Calls Try.prog 4 #[.string s] w fun e w' => e = .returned (.bool true) ∧ Below w.heap.size w w' := by
  have hmp := hm.pos
  go_enter Try.func4, Try.ntmps4
  go_wp2_with fail
  refine (known_any _ hm).mono ?_
  rintro e w1 ⟨rfl, hb1⟩
  have hm1 := hm.below hmp hb1
  go_wp2_with fail
  refine (lex_ok s ts n _ H HN (by unfold maxLen; omega) hm1).mono ?_
  rintro e w2 ⟨⟨A, d, rfl, hr2, _⟩, hb2⟩
  have hb2' := hb1.trans (hb2.mono hb1.size)
  have HR := Lib.hid hr2
  clear hb1 hb2 hm1 hm hr2
  go_wp2_with fail
  go_loopw [6, 24] (fun u v wr => ∃ (e k : Nat), k ≤ n ∧ e ≤ s.size ∧ u = .int .i64 e ∧ v = .int .i64 k ∧ Below w2.heap.size w2 wr ∧ Hid (Lx.Cov s.data.toList e (ts.drop k))) (fun _ v _ => n - (intOf v).toNat)
  case atStart => exact ⟨0, 0, by omega, by omega, rfl, rfl, Below.refl _ _, HC⟩
  case round =>
    obtain ⟨e, k, hk, he, rfl, rfl, hbr, HV⟩ := hrel
    clear HC
    by_cases hlt : k < n
    · obtain ⟨g, rfl, hg, hc⟩ := HR.out.2 (by omega)
      have hlt1 : k < ts.length := by rw [← HN.out]; exact hlt
      obtain ⟨t, ht⟩ : ∃ t, t = ts[k] := ⟨_, rfl⟩
      have hd : ts.drop k = t :: ts.drop (k + 1) := by rw [ht]; exact List.drop_eq_getElem_cons hlt1
      have hv := HV.out
      rw [hd] at hv
      obtain ⟨v1, v2, v3, v4, v5, v6⟩ := hv
      obtain ⟨x0, x1, x2⟩ := tval_split ts k t (by rw [ht]; exact List.getElem?_eq_getElem hlt1)
      have a0 := (hbr.cell (p := ⟨g, k * 3, none⟩) hg).trans (hc _ _ x0)
      have a1 := (hbr.cell (p := ⟨g, k * 3 + 1, none⟩) hg).trans (hc _ _ x1)
      have a2 := (hbr.cell (p := ⟨g, k * 3 + 2, none⟩) hg).trans (hc _ _ x2)
      obtain ⟨p, hp⟩ : ∃ p : Int, p = ((t.kind : Nat) : Int) := ⟨_, rfl⟩
      obtain ⟨tx, htx⟩ : ∃ tx : ByteArray, tx = ⟨t.text.toArray⟩ := ⟨_, rfl⟩
      obtain ⟨at0, hat⟩ : ∃ at0 : Nat, at0 = t.at_ := ⟨_, rfl⟩
      have hxd : tx.data.toList = t.text := by rw [htx]
      have hsz : t.text.length = tx.size := by rw [← hxd, len_at]
      rw [← hp] at a0
      rw [← htx] at a1
      rw [← hat] at a2
      rw [← hat, hsz] at v3
      rw [← hat] at v1
      rw [hsz] at v2
      rw [len_at] at v3
      have e1 : ((s.extract at0 (at0 + tx.size)).toList == tx.toList) = true := by
        rw [Lib.extract_toList, Nat.add_sub_cancel_left, Lib.toList_data, hxd, hat, ← hsz, v4]
        simp
      have e1' : (!((s.extract at0 (at0 + tx.size)).toList == tx.toList)) = false := by rw [e1]; rfl
      have E2 : Hid (Lx.emptyB (s.extract e at0).data.toList = true) := by
        show _ = _
        rw [Lib.extract_data, hat]; exact v5
      have V6 : Hid (Lx.Cov s.data.toList (at0 + tx.size) (ts.drop (k + 1))) := by
        rw [hat, ← hsz]; exact v6
      have e0 : ((tx.size : Int) == 0) = false := by rw [beq_eq_false_iff_ne]; omega
      have hz3 : (s.extract e at0).size ≤ 9000 := by simp; omega
      clear v4 v5 v6 hd x0 x1 x2 hp htx hat hxd hsz ht hc HR
      have i1 : (0 : Int) ≤ (k : Int) := by omega
      have i2 : (k : Int) < (n : Int) := by omega
      have hg' : g < wr.heap.size := Nat.lt_of_lt_of_le hg hbr.size
      have hd1 : decide (at0 < e) = false := by simp; omega
      have hd2 : decide ((s.size : Int) - (tx.size : Int) < (at0 : Int)) = false := by simp; omega
      have q1 : IntKind.i64.wrap ((s.size : Int) - (tx.size : Int)) = (s.size : Int) - (tx.size : Int) := IntWalk.i64_in _ (by omega)
      have q2 : IntKind.i64.wrap ((at0 : Int) + (tx.size : Int)) = (at0 : Int) + (tx.size : Int) := IntWalk.i64_in _ (by omega)
      have q3 : (0 : Int) ≤ (at0 : Int) + (tx.size : Int) := by omega
      have q5 : (at0 : Int) + (tx.size : Int) ≤ (s.size : Int) := by omega
      have q6 : at0 ≤ s.size := by omega
      have q4 : ((at0 : Int) + (tx.size : Int)).toNat = at0 + tx.size := by omega
      have sl1 : ∀ wx, (Instr.slice 9 (.string s) (some (.int .i64 (at0 : Int))) (some (.int .i64 ((at0 : Int) + (tx.size : Int)))) none).run Try.prog wx = .ok (.string (s.extract at0 (at0 + tx.size))) wx := fun wx => by
        have := run_slice_string (P := Try.prog) (w := wx) 9 s .i64 .i64 (at0 : Int) ((at0 : Int) + (tx.size : Int)) Try.underlying9 (by omega) (by omega) (by omega)
        rw [q4, Int.toNat_natCast] at this
        exact this
      go_wp2_with fail
      go_quiet ((go_at_call 14; exact Calls.quiet_of_same ((empty_any (s.extract e at0) true E2 _ hz3).mono fun _ _ h => ⟨h.1, h.2.symm⟩)))
      go_wp2_with fail
      go_roundw
      case rel => exact ⟨at0 + tx.size, k + 1, by omega, by omega, by go_num, by go_num, below_drewN (hbr.alloc hbr.size _) _, V6⟩
      case measure => simp [intOf]; omega
    · have hkn : k = n := by omega
      subst hkn
      have hv := HV.out
      rw [List.drop_of_length_le (by rw [← HN.out]; exact Nat.le_refl _)] at hv
      have E2 : Hid (Lx.emptyB (s.extract e s.size).data.toList = true) := by
        show _ = _
        rw [Lib.extract_to_end]; exact hv.1
      have hz3 : (s.extract e s.size).size ≤ 9000 := by simp; omega
      clear hv
      go_wp2_with fail
      refine (empty_any _ true E2 _ hz3).mono ?_
      rintro e w5 ⟨rfl, rfl⟩
      go_wp2_with fail
      go_ret
      exact ⟨rfl, hb2'.trans (hbr.mono hb2'.size)⟩
theorem covers_walk (s : ByteArray) (w : World) (hz : s.size ≤ maxLen) (hm : ML w) :
    Calls Try.prog 4 #[.string s] w fun e w' => e = .returned (.bool true) ∧ Below w.heap.size w w' := by
  by_cases hs : s.size ≤ 9000
  · rcases lexT_cases s.data.toList with ⟨ts, h1⟩ | ⟨ts, a, c, h1⟩
    · have l1 := Lx.lexT_len s.data.toList
      rw [h1, len_at] at l1
      exact covers_ok s w hm hs ts ts.length (by simp only at l1; omega) h1 rfl (Lx.cov_all _ ts (lexT_lex _ ts h1).2)
    · obtain ⟨_, q2, _⟩ := lexT_pre _ _ _ _ h1
      exact covers_no s w hm hs ts a c h1 (by rw [beq_eq_false_iff_ne]; omega)
  · exact covers_far s w hz hm (by omega)

set_option maxRecDepth 100000 in
theorem lexerCovers_lifted (os : Os) (started : os.Started) (H : Type) (enc : TypeId × Value → H) :
    ReturnsInHanded {} Try.checked os 4 .any (Rows.lexerCoversSpec.pre6 enc Try.prog Try.f4 Rows.lexerCoversRow.domain false) (Rows.lexerCoversSpec.post enc Try.prog Try.f4 false true false false) := by
  refine returnsInHanded_of_change_shaped (C := Try.checked) Try.own started (by kernel_rfl) Try.func4
    (ChangeSpec.witness6 (enc := enc) (C := Try.checked) false ⟨#[], #[.string ⟨#[]⟩], []⟩ 8 (by kernel_rfl) (by kernel_rfl) (by kernel_rfl) (by kernel_rfl)) ?_
  intro W base args ds gs before hval0 hW hcnd0 _ hsh _
  clear hcnd0
  have hval : ∀ (j : Nat) t v, Try.f4.params[j]? = some t → args[j]? = some v → Value.okWide Try.prog W .any base t v := hval0
  have hW' := hW
  obtain ⟨p, q, hA0, hV, rfl, hfz, hnd⟩ := hW
  have hA : DataW.TrodAll enc Try.prog W 0 (fun _ => true) true Try.f4.params.toList args.toList ds p := hA0
  rw [Try.params4] at hA hval
  obtain ⟨v0, d0, rfl, rfl, h0⟩ := trodAll_one hA
  obtain ⟨rfl, rfl⟩ := trodVars_none hV
  obtain ⟨s0, rfl, rfl, rfl, ws0⟩ := open_string Try.underlying9 (hval 0 9 v0 rfl rfl) h0
  clear hA0 hval0
  simp only [List.append_nil] at hW'
  have hml : ML W := Try.laysM219.s1_3 W hsh
  refine (covers_walk s0 W ws0 hml).mono fun e W' ⟨he, hb⟩ => ?_
  subst he
  exact ⟨_, rfl, _, _, _, [], [], [], hW', trodAll_mk1 (shut_bool Try.underlying4 _), trodAll_mk1 (shut_string Try.underlying9 ws0), rfl, hb.frame _, fun h => by cases h⟩

theorem lexerCovers_holds : Rows.LexerCoversSaid :=
  OpenClaim.holds_of_wide 4 Try.f4 rfl rfl rfl rfl rfl rfl rfl ⟨rfl, rfl, rfl, rfl, rfl⟩ rfl rfl rfl rfl rfl (by kernel_rfl) Try.func4 (by kernel_rfl)
    (of_decide_eq_true (by kernel_rfl)) (by unfold Func.isWrapper; rw [if_neg (of_decide_eq_false (by kernel_rfl))]; exact ⟨rfl, rfl⟩)
    (fun os started H enc _ => lexerCovers_lifted os started H enc)
#print axioms lexerCovers_holds
end Go.Proofs.Ythenhajgmbanjaa
