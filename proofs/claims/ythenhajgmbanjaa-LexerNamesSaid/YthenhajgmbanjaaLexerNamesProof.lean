/-
  LexerNames: a text is a name exactly if it is one token of the kind name; reserved words are no names. No condition.
-/
import Derived.Test.YthenhajgmbanjaaLxN
namespace Go.Proofs.Ythenhajgmbanjaa
open Go.RowKit Go.ChangeShapes Go.WideShapes Go.ChangeAt
open Go.ChangeMaps (open_string shut_string)

theorem isWordB_at (s : ByteArray) (h : 0 < s.size) : Lx.isWordB s.data.toList = (Lx.isL s[0] && s.data.toList.all Lx.alnum) := by
  have hd := drop_at s 0 h
  rw [List.drop_zero] at hd
  rw [hd]; rfl
theorem isWord_any (s : ByteArray) (w : World) (hs : s.size ≤ 9000) :
    Calls Try.prog 25 #[.string s] w fun e w' => e = .returned (.bool (Lx.isWordB s.data.toList)) ∧ w = w' := by
  obtain ⟨b, hb⟩ : ∃ b, b = Lx.isWordB s.data.toList := ⟨_, rfl⟩
  rw [← hb]
  have HB := Lib.hid hb
  clear hb
  go_enter Try.func25, Try.ntmps25
  go_wp2_with fail
  go_loop [6] (fun v => ∃ k : Nat, k ≤ s.size ∧ v = .int .i64 k ∧ Hid (s.data.toList.all Lx.alnum = (s.data.toList.drop k).all Lx.alnum) ∧ Hid (∀ h : 0 < k, ∀ h2 : 0 < s.size, Lx.isL s[0] = true)) (fun v => s.size - (intOf v).toNat)
  case atStart => exact ⟨0, by omega, rfl, rfl, fun h => absurd h (by omega)⟩
  case round =>
    obtain ⟨k, hk, rfl, H2, H3⟩ := hrel
    by_cases hlt : k < s.size
    · have HD : Hid (s.data.toList.drop k = s[k] :: s.data.toList.drop (k + 1)) := drop_at s k hlt
      rcases bool_cases (Lx.isL s[k]) with HL | HL
      · go_wp2_with (go_at_call 32; refine (isLetter_b _ _ HL _).mono ?_; rintro e w' ⟨rfl, rfl⟩)
        go_round
        case rel => exact ⟨k + 1, by omega, by go_num, by show _ = _; rw [H2.out, HD.out, List.all_cons, show Lx.alnum s[k] = true from by unfold Lx.alnum; rw [HL.out]; rfl, Bool.true_and], fun _ h2 => by
          rcases Nat.eq_zero_or_pos k with h | h
          · subst h; exact HL.out
          · exact H3.out h h2⟩
        case measure => simp [intOf]; omega
      · by_cases hk0 : k = 0
        · subst hk0
          have HX : Hid (b = false) := by
            show b = _
            rw [HB.out, isWordB_at s hlt, HL.out]; rfl
          go_wp2_with (go_at_call 32; refine (isLetter_b _ _ HL _).mono ?_; rintro e w' ⟨rfl, rfl⟩)
          go_ret
          exact ⟨ret_bool HX.out.symm, rfl⟩
        · have hk1 : ((k : Int) == 0) = false := by rw [beq_eq_false_iff_ne]; omega
          have H3' : Hid (∀ h2 : 0 < s.size, Lx.isL s[0] = true) := H3.out (by omega)
          clear H3 hk0
          rcases bool_cases (Lx.isD s[k]) with HE | HE
          · go_wp2_with (first | (go_at_call 32; refine (isLetter_b _ _ HL _).mono ?_; rintro e w' ⟨rfl, rfl⟩) | (go_at_call 34; refine (isDigit_b _ _ HE _).mono ?_; rintro e w' ⟨rfl, rfl⟩))
            go_round
            case rel => exact ⟨k + 1, by omega, by go_num, by show _ = _; rw [H2.out, HD.out, List.all_cons, show Lx.alnum s[k] = true from by unfold Lx.alnum; rw [HE.out]; simp, Bool.true_and], fun _ h2 => H3'.out h2⟩
            case measure => simp [intOf]; omega
          · have HX : Hid (b = false) := by
              show b = _
              rw [HB.out, isWordB_at s (by omega), H2.out, HD.out, List.all_cons, show Lx.alnum s[k] = false from by unfold Lx.alnum; rw [HE.out, HL.out]; rfl, Bool.false_and, Bool.and_false]
            go_wp2_with (first | (go_at_call 32; refine (isLetter_b _ _ HL _).mono ?_; rintro e w' ⟨rfl, rfl⟩) | (go_at_call 34; refine (isDigit_b _ _ HE _).mono ?_; rintro e w' ⟨rfl, rfl⟩))
            go_ret
            exact ⟨ret_bool HX.out.symm, rfl⟩
    · have he : k = s.size := by omega
      subst he
      by_cases h0 : s.size = 0
      · have hn : s.toList.isEmpty = true := by rw [List.isEmpty_iff, toList_nil_iff]; exact h0
        have HX : Hid (b = false) := by
          show b = _
          have : s.data.toList = [] := by rw [← List.length_eq_zero_iff, len_at]; exact h0
          rw [HB.out, this]; rfl
        clear h0
        go_wp2_with fail
        go_ret
        exact ⟨ret_bool (by rw [HX.out]), rfl⟩
      · have hn : s.toList.isEmpty = false := by
          rw [Bool.eq_false_iff]
          intro h
          rw [List.isEmpty_iff, toList_nil_iff] at h
          exact h0 h
        have HX : Hid (b = true) := by
          show b = _
          rw [HB.out, isWordB_at s (by omega), H3.out (by omega) (by omega), H2.out, drop_end s _ (Nat.le_refl _)]; rfl
        clear h0
        go_wp2_with fail
        go_ret
        exact ⟨ret_bool (by rw [HX.out]), rfl⟩
theorem isWord_b (s : ByteArray) (b : Bool) (H : Hid (Lx.isWordB s.data.toList = b)) (w : World) (hs : s.size ≤ 9000) :
    Calls Try.prog 25 #[.string s] w fun e w' => e = .returned (.bool b) ∧ w = w' := by
  have h : Lx.isWordB s.data.toList = b := H
  rw [← h]; exact isWord_any s w hs
theorem isName_b (s : ByteArray) (b : Bool) (H : Hid (Lx.isNameB s.data.toList = b)) (w : World) (hs : s.size ≤ 9000) (hm : ML w) :
    Calls Try.prog 16 #[.string s] w fun e w' => e = .returned (.bool b) ∧ w = w' := by
  have H0 : Hid (b = (decide (s.size ≤ 12) && (Lx.isWordB s.data.toList && !Lx.isRes s.data.toList))) := by
    show b = _
    rw [← H.out]; unfold Lx.isNameB; rw [len_at]
  clear H
  by_cases h12 : s.size ≤ 12
  · rcases bool_cases (Lx.isWordB s.data.toList) with HW | HW
    · rcases bool_cases (Lx.isRes s.data.toList) with HR | HR
      all_goals
        have HX := H0.out
        rw [HW.out, HR.out] at HX
        have HY : Hid (b = _) := HX
        clear HX H0
        go_enter Try.func16, Try.ntmps16
        go_wp2_with (first | (go_at_call 25; refine (isWord_b _ _ HW _ hs).mono ?_; rintro e w' ⟨rfl, rfl⟩) | (go_at_call 17; refine (reserved_b _ _ HR _ hs hm).mono ?_; rintro e w' ⟨rfl, rfl⟩))
        go_ret
        exact ⟨ret_bool (by rw [HY.out]; simp [h12]), rfl⟩
    · have HX := H0.out
      rw [HW.out] at HX
      have HY : Hid (b = _) := HX
      clear HX H0
      go_enter Try.func16, Try.ntmps16
      go_wp2_with (go_at_call 25; refine (isWord_b _ _ HW _ hs).mono ?_; rintro e w' ⟨rfl, rfl⟩)
      go_ret
      exact ⟨ret_bool (by rw [HY.out]; simp), rfl⟩
  · go_enter Try.func16, Try.ntmps16
    go_wp2_with fail
    go_ret
    exact ⟨ret_bool (by rw [H0.out]; simp [h12]), rfl⟩
theorem risName_b (s : ByteArray) (b : Bool) (H : Hid (Lx.isNameB s.data.toList = b)) (w : World) (hs : s.size ≤ 9000) :
    Calls Try.prog 18 #[.string s] w fun e w' => e = .returned (.bool b) ∧ w = w' := by
  have H0 : Hid (b = (decide (s.size ≤ 12) && (Lx.isWordB s.data.toList && !Lx.isRes s.data.toList))) := by
    show b = _
    rw [← H.out]; unfold Lx.isNameB; rw [len_at]
  clear H
  by_cases h0 : s.size < 1
  · have HX : Hid (b = false) := by
      show b = _
      have : s.data.toList = [] := by rw [← List.length_eq_zero_iff, len_at]; omega
      rw [H0.out, this]; simp [Lx.isWordB]
    go_enter Try.func18, Try.ntmps18
    go_wp2_with fail
    go_ret
    exact ⟨ret_bool HX.out.symm, rfl⟩
  · by_cases h12 : s.size ≤ 12
    · rcases bool_cases (Lx.isL s[0]) with HL | HL
      · rcases bool_cases (Lx.isRes s.data.toList) with HR | HR
        · have HX : Hid (b = false) := by show b = _; rw [H0.out, HR.out]; simp
          go_enter Try.func18, Try.ntmps18
          go_wp2_with (first | (go_at_call 27; refine (letter_b _ _ HL _).mono ?_; rintro e w' ⟨rfl, rfl⟩) | (go_at_call 19; refine (rreserved_b _ _ HR _ hs).mono ?_; rintro e w' ⟨rfl, rfl⟩))
          go_ret
          exact ⟨ret_bool HX.out.symm, rfl⟩
        · obtain ⟨n, hn⟩ : ∃ n, n = Lx.wlen s.data.toList := ⟨_, rfl⟩
          have HX : Hid (b = ((n : Int) == (s.size : Int))) := by
            show b = _
            rw [H0.out, HR.out, isWordB_at s (by omega), HL.out]
            have := @Lx.wlen_full s.data.toList
            rw [← hn, len_at] at this
            rw [Bool.eq_iff_iff]
            simp only [Bool.and_eq_true, decide_eq_true_eq, Bool.true_and, Bool.not_false, Bool.and_true, beq_iff_eq]
            rw [← this]
            omega
          have HN : Hid (n = 0 + Lx.wlen (s.data.toList.drop 0)) := by show n = _; rw [List.drop_zero, Nat.zero_add]; exact hn
          clear hn
          go_enter Try.func18, Try.ntmps18
          go_wp2_with (first | (go_at_call 27; refine (letter_b _ _ HL _).mono ?_; rintro e w' ⟨rfl, rfl⟩) | (go_at_call 19; refine (rreserved_b _ _ HR _ hs).mono ?_; rintro e w' ⟨rfl, rfl⟩))
          refine (rrun_n s 0 n HN _ hs (by omega)).mono ?_
          rintro e w' ⟨rfl, rfl⟩
          go_wp2_with fail
          go_ret
          exact ⟨ret_bool HX.out.symm, rfl⟩
      · have HX : Hid (b = false) := by show b = _; rw [H0.out, isWordB_at s (by omega), HL.out]; simp
        go_enter Try.func18, Try.ntmps18
        go_wp2_with (go_at_call 27; refine (letter_b _ _ HL _).mono ?_; rintro e w' ⟨rfl, rfl⟩)
        go_ret
        exact ⟨ret_bool HX.out.symm, rfl⟩
    · have HX : Hid (b = false) := by show b = _; rw [H0.out]; simp [h12]
      go_enter Try.func18, Try.ntmps18
      go_wp2_with fail
      go_ret
      exact ⟨ret_bool HX.out.symm, rfl⟩

theorem res_word (l : Lx.Bytes) : Lx.isRes l = true → l.all Lx.isL = true ∧ l ≠ [] := fun h => ⟨isRes_letters l h, by
  rintro rfl
  exact absurd h (by decide)⟩
theorem lex_of_T (l : Lx.Bytes) (h : l.length ≤ 8192) : Lx.lexT l = Lx.lex 0 l := by unfold Lx.lexT; rw [if_pos h]
theorem names_not (l : Lx.Bytes) (h : l.length ≤ 8192) (hn : ∀ t, Lx.lexT l ≠ ([t], none)) : Lx.isNameB l = false ∧ Lx.isRes l = false := by
  rw [lex_of_T l h] at hn
  exact ⟨Bool.eq_false_iff.2 fun h => hn _ ((Lx.name_one l).2 h), Bool.eq_false_iff.2 fun h => hn _ ((Lx.word_one l (res_word l)).2 h)⟩
theorem names_one (l : Lx.Bytes) (h : l.length ≤ 8192) (t : Lx.Tok) (ht : Lx.lexT l = ([t], none)) (b1 b2 b3 b4 : Bool) (h1 : decide (t.kind = 0) = b1) (h2 : decide (t.kind = 2) = b2) (h3 : decide (t.text = l) = b3) (h4 : decide (t.at_ = 0) = b4) :
    Lx.isNameB l = (b1 && (b3 && b4)) ∧ Lx.isRes l = (b2 && (b3 && b4)) := by
  rw [lex_of_T l h] at ht
  have n1 := Lx.name_one l
  have n2 := Lx.word_one l (res_word l)
  rw [ht] at n1 n2
  subst h1 h2 h3 h4
  obtain ⟨k, x, a⟩ := t
  constructor
  · rw [Bool.eq_iff_iff, ← n1]; simp
  · rw [Bool.eq_iff_iff, ← n2]; simp

theorem names_far (s : ByteArray) (w : World) (hz : s.size ≤ maxLen) (hm : ML w) (hs : 100 < s.size) :
    Calls Try.prog 8 #[.string s] w fun e w' => e = .returned (.bool true) ∧ Below w.heap.size w w' := by
  unfold maxLen at hz
  go_enter Try.func8, Try.ntmps8
  go_wp2_with fail
  refine (known_any _ hm).mono ?_
  rintro e w1 ⟨rfl, hb1⟩
  go_wp2_with fail
  go_ret
  exact ⟨rfl, hb1⟩
theorem names_no (s : ByteArray) (w : World) (hm : ML w) (hs : s.size ≤ 100) (ts : List Lx.Tok) (a c : Nat) (H : Hid (Lx.lexT s.data.toList = (ts, some (a, c)))) (hc1 : ((c : Int) == 0) = false) (H1 : Hid (Lx.isNameB s.data.toList = false)) (H2 : Hid (Lx.isRes s.data.toList = false)) :
    Calls Try.prog 8 #[.string s] w fun e w' => e = .returned (.bool true) ∧ Below w.heap.size w w' := by
  have hmp := hm.pos
  go_enter Try.func8, Try.ntmps8
  go_wp2_with fail
  refine (known_any _ hm).mono ?_
  rintro e w1 ⟨rfl, hb1⟩
  have hm1 := hm.below hmp hb1
  go_wp2_with fail
  refine (lex_no s ts a c _ H (by unfold maxLen; omega) hm1).mono ?_
  rintro e w2 ⟨⟨A, d, rfl⟩, hb2⟩
  have hb2' := hb1.trans (hb2.mono hb1.size)
  have hm2 := hm.below hmp hb2'
  have HB := Lib.hid hb2'
  clear hb1 hb2 hm1 hm hb2'
  go_wp2_with fail
  refine (isName_b s false H1 _ (by omega) hm2).mono ?_
  rintro e w3 ⟨rfl, rfl⟩
  go_wp2_with fail
  refine (reserved_b s false H2 _ (by omega) hm2).mono ?_
  rintro e w3 ⟨rfl, rfl⟩
  go_wp2_with fail
  refine (risName_b s false H1 _ (by omega)).mono ?_
  rintro e w3 ⟨rfl, rfl⟩
  go_wp2_with fail
  refine (rreserved_b s false H2 _ (by omega)).mono ?_
  rintro e w3 ⟨rfl, rfl⟩
  go_wp2_with fail
  go_ret
  exact ⟨rfl, HB.out⟩
theorem names_many (s : ByteArray) (w : World) (hm : ML w) (hs : s.size ≤ 100) (ts : List Lx.Tok) (n : Nat) (H : Hid (Lx.lexT s.data.toList = (ts, none))) (HN : Hid (n = ts.length)) (hn1 : ((n : Int) == 1) = false) (H1 : Hid (Lx.isNameB s.data.toList = false)) (H2 : Hid (Lx.isRes s.data.toList = false)) :
    Calls Try.prog 8 #[.string s] w fun e w' => e = .returned (.bool true) ∧ Below w.heap.size w w' := by
  have hmp := hm.pos
  go_enter Try.func8, Try.ntmps8
  go_wp2_with fail
  refine (known_any _ hm).mono ?_
  rintro e w1 ⟨rfl, hb1⟩
  have hm1 := hm.below hmp hb1
  go_wp2_with fail
  refine (lex_ok s ts n _ H HN (by unfold maxLen; omega) hm1).mono ?_
  rintro e w2 ⟨⟨A, d, rfl, _, _⟩, hb2⟩
  have hb2' := hb1.trans (hb2.mono hb1.size)
  have hm2 := hm.below hmp hb2'
  have HB := Lib.hid hb2'
  clear hb1 hb2 hm1 hm hb2'
  go_wp2_with fail
  refine (isName_b s false H1 _ (by omega) hm2).mono ?_
  rintro e w3 ⟨rfl, rfl⟩
  go_wp2_with fail
  refine (reserved_b s false H2 _ (by omega) hm2).mono ?_
  rintro e w3 ⟨rfl, rfl⟩
  go_wp2_with fail
  refine (risName_b s false H1 _ (by omega)).mono ?_
  rintro e w3 ⟨rfl, rfl⟩
  go_wp2_with fail
  refine (rreserved_b s false H2 _ (by omega)).mono ?_
  rintro e w3 ⟨rfl, rfl⟩
  go_wp2_with fail
  go_ret
  exact ⟨rfl, HB.out⟩
set_option maxHeartbeats 4000000 in
theorem names_single (s : ByteArray) (w : World) (hm : ML w) (hs : s.size ≤ 100) (ts : List Lx.Tok) (H : Hid (Lx.lexT s.data.toList = (ts, none))) (HN : Hid (1 = ts.length)) (p q : Int) (tx : ByteArray) (b1 b2 b3 b4 : Bool)
    (c0 : Hid ((tvals ts)[0]? = some (.int .i64 p))) (c1 : Hid ((tvals ts)[1]? = some (.string tx))) (c2 : Hid ((tvals ts)[2]? = some (.int .i64 q))) (h1 : (p == 0) = b1) (h2 : (p == 2) = b2) (h3 : (tx.toList == s.toList) = b3) (h4 : (q == 0) = b4) (h12 : b1 = true → b2 = true → False)
    (H1 : Hid (Lx.isNameB s.data.toList = (b1 && (b3 && b4)))) (H2 : Hid (Lx.isRes s.data.toList = (b2 && (b3 && b4)))) :
    Calls Try.prog 8 #[.string s] w fun e w' => e = .returned (.bool true) ∧ Below w.heap.size w w' := by
  have hmp := hm.pos
  have hg1 := tokGuard
  have hg2 := tokHeld
  have hcs : (b1 = true ∧ b2 = false) ∨ (b1 = false ∧ b2 = true) ∨ (b1 = false ∧ b2 = false) := by
    cases b1 <;> cases b2 <;> simp at h12 ⊢
  clear h12
  rcases hcs with ⟨rfl, rfl⟩ | ⟨rfl, rfl⟩ | ⟨rfl, rfl⟩ <;> cases b3 <;> cases b4
  all_goals
    go_enter Try.func8, Try.ntmps8
    go_wp2_with fail
    refine (known_any _ hm).mono ?_
    rintro e w1 ⟨rfl, hb1⟩
    have hm1 := hm.below hmp hb1
    go_wp2_with fail
    refine (lex_ok s ts 1 _ H HN (by unfold maxLen; omega) hm1).mono ?_
    rintro e w2 ⟨⟨A, d, rfl, hr, _⟩, hb2⟩
    have hb2' := hb1.trans (hb2.mono hb1.size)
    have hm2 := hm.below hmp hb2'
    obtain ⟨g, rfl, hg, hc⟩ := hr.2 (by omega)
    have a0 := hc _ _ c0.out
    have a1 := hc _ _ c1.out
    have a2 := hc _ _ c2.out
    have HB := Lib.hid hb2'
    clear hb1 hb2 hm1 hb2' hc hr
    go_wp2_with fail
    refine (isName_b s _ H1 _ (by omega) hm2).mono ?_
    rintro e w3 ⟨rfl, rfl⟩
    go_wp2_with fail
    refine (reserved_b s _ H2 _ (by omega) hm2).mono ?_
    rintro e w3 ⟨rfl, rfl⟩
    go_wp2_with fail
    refine (risName_b s _ H1 _ (by omega)).mono ?_
    rintro e w3 ⟨rfl, rfl⟩
    go_wp2_with fail
    refine (rreserved_b s _ H2 _ (by omega)).mono ?_
    rintro e w3 ⟨rfl, rfl⟩
    go_wp2_with fail
    go_ret
    exact ⟨rfl, HB.out⟩
theorem names_walk (s : ByteArray) (w : World) (hz : s.size ≤ maxLen) (hm : ML w) :
    Calls Try.prog 8 #[.string s] w fun e w' => e = .returned (.bool true) ∧ Below w.heap.size w w' := by
  by_cases hs : s.size ≤ 100
  · have ls : s.data.toList.length ≤ 8192 := by rw [len_at]; omega
    rcases lexT_cases s.data.toList with ⟨ts, h1⟩ | ⟨ts, a, c, h1⟩
    · by_cases hn : ts.length = 1
      · obtain ⟨t, rfl⟩ := List.length_eq_one_iff.1 hn
        obtain ⟨n1, n2⟩ := names_one _ ls t h1 _ _ _ _ rfl rfl rfl rfl
        refine names_single s w hm hs [t] h1 rfl t.kind t.at_ ⟨t.text.toArray⟩ _ _ _ _ rfl rfl rfl ?_ ?_ ?_ ?_ ?_ n1 n2
        · rw [Bool.eq_iff_iff]; simp
        · rw [Bool.eq_iff_iff]; simp; omega
        · rw [Lib.toList_data, Lib.toList_data, Bool.eq_iff_iff]; simp
        · rw [Bool.eq_iff_iff]; simp
        · intro g1 g2
          simp only [decide_eq_true_eq] at g1 g2
          omega
      · obtain ⟨n1, n2⟩ := names_not _ ls (fun t ht => by rw [h1] at ht; simp only [Prod.mk.injEq] at ht; rw [ht.1] at hn; exact hn rfl)
        exact names_many s w hm hs ts ts.length h1 rfl (by rw [beq_eq_false_iff_ne]; omega) n1 n2
    · obtain ⟨_, q2, _⟩ := lexT_pre _ _ _ _ h1
      obtain ⟨n1, n2⟩ := names_not _ ls (fun t ht => by rw [h1] at ht; simp at ht)
      exact names_no s w hm hs ts a c h1 (by rw [beq_eq_false_iff_ne]; omega) n1 n2
  · exact names_far s w hz hm (by omega)

set_option maxRecDepth 100000 in
theorem lexerNames_lifted (os : Os) (started : os.Started) (H : Type) (enc : TypeId × Value → H) :
    ReturnsInHanded {} Try.checked os 8 .any (Rows.lexerNamesSpec.pre6 enc Try.prog Try.f8 Rows.lexerNamesRow.domain false) (Rows.lexerNamesSpec.post enc Try.prog Try.f8 false true false false) := by
  refine returnsInHanded_of_change_shaped (C := Try.checked) Try.own started (by kernel_rfl) Try.func8
    (ChangeSpec.witness6 (enc := enc) (C := Try.checked) false ⟨#[], #[.string ⟨#[]⟩], []⟩ 8 (by kernel_rfl) (by kernel_rfl) (by kernel_rfl) (by kernel_rfl)) ?_
  intro W base args ds gs before hval0 hW hcnd0 _ hsh _
  clear hcnd0
  have hval : ∀ (j : Nat) t v, Try.f8.params[j]? = some t → args[j]? = some v → Value.okWide Try.prog W .any base t v := hval0
  have hW' := hW
  obtain ⟨p, q, hA0, hV, rfl, hfz, hnd⟩ := hW
  have hA : DataW.TrodAll enc Try.prog W 0 (fun _ => true) true Try.f8.params.toList args.toList ds p := hA0
  rw [Try.params8] at hA hval
  obtain ⟨v0, d0, rfl, rfl, h0⟩ := trodAll_one hA
  obtain ⟨rfl, rfl⟩ := trodVars_none hV
  obtain ⟨s0, rfl, rfl, rfl, ws0⟩ := open_string Try.underlying9 (hval 0 9 v0 rfl rfl) h0
  clear hA0 hval0
  simp only [List.append_nil] at hW'
  have hml : ML W := Try.laysM219.s1_3 W hsh
  refine (names_walk s0 W ws0 hml).mono fun e W' ⟨he, hb⟩ => ?_
  subst he
  exact ⟨_, rfl, _, _, _, [], [], [], hW', trodAll_mk1 (shut_bool Try.underlying4 _), trodAll_mk1 (shut_string Try.underlying9 ws0), rfl, hb.frame _, fun h => by cases h⟩

theorem lexerNames_holds : Rows.LexerNamesSaid :=
  OpenClaim.holds_of_wide 8 Try.f8 rfl rfl rfl rfl rfl rfl rfl ⟨rfl, rfl, rfl, rfl, rfl⟩ rfl rfl rfl rfl rfl (by kernel_rfl) Try.func8 (by kernel_rfl)
    (of_decide_eq_true (by kernel_rfl)) (by unfold Func.isWrapper; rw [if_neg (of_decide_eq_false (by kernel_rfl))]; exact ⟨rfl, rfl⟩)
    (fun os started H enc _ => lexerNames_lifted os started H enc)
#print axioms lexerNames_holds
end Go.Proofs.Ythenhajgmbanjaa
