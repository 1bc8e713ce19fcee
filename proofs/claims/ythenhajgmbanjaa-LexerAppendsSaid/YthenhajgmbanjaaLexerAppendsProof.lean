/-
  LexerAppends: the tokens of two texts with a line feed between them are those of the first and then those of the second, moved. No condition.
-/
import Derived.Test.YthenhajgmbanjaaLxM
namespace Go.Proofs.Ythenhajgmbanjaa
open Go.RowKit Go.ChangeShapes Go.WideShapes Go.ChangeAt
open Go.ChangeMaps (open_string shut_string)

theorem at_le (l : Lx.Bytes) (ts : List Lx.Tok) (h : Lx.lex 0 l = (ts, none)) (i : Nat) (t : Lx.Tok) (ht : ts[i]? = some t) : t.at_ ≤ l.length := by
  obtain ⟨p, h1, _, h3, _⟩ := Lx.lex_mid 0 l ts h i t ht
  omega
theorem app_no (s t : Lx.Bytes) (hs : s.length ≤ 2000) (ht : t.length ≤ 2000) (ts us : List Lx.Tok) (a c : Nat) (h1 : Lx.lexT s = (ts, none)) (h2 : Lx.lexT t = (us, some (a, c))) :
    Lx.lexT (s ++ 10 :: t) = (ts ++ us.map (Lx.shT (s.length + 1)), some (a + s.length + 1, c)) := by
  have g1 := (lexT_lex s ts h1).2
  unfold Lx.lexT at h2
  rw [if_pos (by omega)] at h2
  unfold Lx.lexT
  rw [if_pos (by simp; omega), Lx.lex_app t 0 s ts g1, Nat.zero_add]
  have := Lx.lex_shift (s.length + 1) 0 t
  rw [Nat.zero_add] at this
  rw [this, h2]
  rfl
theorem app_ok (s t : Lx.Bytes) (hs : s.length ≤ 2000) (ht : t.length ≤ 2000) (ts us : List Lx.Tok) (h1 : Lx.lexT s = (ts, none)) (h2 : Lx.lexT t = (us, none)) :
    Lx.lexT (s ++ 10 :: t) = (ts ++ us.map (Lx.shT (s.length + 1)), none) := by
  have g1 := (lexT_lex s ts h1).2
  have g2 := (lexT_lex t us h2).2
  unfold Lx.lexT
  rw [if_pos (by simp; omega), Lx.lex_app t 0 s ts g1, Nat.zero_add]
  have := Lx.lex_shift (s.length + 1) 0 t
  rw [Nat.zero_add] at this
  rw [this, g2]
  rfl
theorem cat_data (s t : ByteArray) : (s ++ ⟨#[10]⟩ ++ t : ByteArray).data.toList = s.data.toList ++ 10 :: t.data.toList := by simp
theorem cat_size (s t : ByteArray) (hs : s.size ≤ 2000) (ht : t.size ≤ 2000) : (s ++ ⟨#[10]⟩ ++ t : ByteArray).size ≤ maxLen := by
  have := len_at (s ++ ⟨#[10]⟩ ++ t : ByteArray)
  rw [cat_data, List.length_append, List.length_cons, len_at, len_at] at this
  unfold maxLen; omega
theorem lex_some (s : ByteArray) (w : World) (hs : s.size ≤ maxLen) (hm : ML w) :
    Calls Try.prog 11 #[.string s] w fun e w' => (∃ (A : Option Addr) (n c : Nat) (i k : Int), e = .returned (.tuple #[.slice A n c, .int .i64 i, .int .i64 k])) ∧ Below w.heap.size w w' := by
  refine (lexT_any s w hs hm).mono ?_
  rintro e w' ⟨⟨A, c, rfl, hr⟩, hb⟩
  exact ⟨⟨A, _, c, _, _, rfl⟩, hb⟩

theorem appends_far (s t : ByteArray) (w : World) (hz : s.size ≤ maxLen) (hy : t.size ≤ maxLen) (hm : ML w) (hs : 2000 < s.size ∨ (s.size ≤ 2000 ∧ 2000 < t.size)) :
    Calls Try.prog 7 #[.string s, .string t] w fun e w' => e = .returned (.bool true) ∧ Below w.heap.size w w' := by
  unfold maxLen at hz hy
  rcases hs with hs | ⟨hs, ht⟩
  all_goals
    go_enter Try.func7, Try.ntmps7
    go_wp2_with fail
    refine (known_any _ hm).mono ?_
    rintro e w1 ⟨rfl, hb1⟩
    go_wp2_with fail
    go_ret
    exact ⟨rfl, hb1⟩
theorem appends_err (s t : ByteArray) (w : World) (hm : ML w) (hs : s.size ≤ 2000) (ht : t.size ≤ 2000) (ts : List Lx.Tok) (a c : Nat) (H : Hid (Lx.lexT s.data.toList = (ts, some (a, c)))) (hc1 : ((c : Int) == 0) = false) :
    Calls Try.prog 7 #[.string s, .string t] w fun e w' => e = .returned (.bool true) ∧ Below w.heap.size w w' := by
  have hmp := hm.pos
  have hcz := cat_size s t hs ht
  go_enter Try.func7, Try.ntmps7
  go_wp2_with fail
  refine (known_any _ hm).mono ?_
  rintro e w1 ⟨rfl, hb1⟩
  have hm1 := hm.below hmp hb1
  go_wp2_with fail
  refine (lex_no s ts a c _ H (by unfold maxLen; omega) hm1).mono ?_
  rintro e w2 ⟨⟨A, d, rfl⟩, hb2⟩
  have hb2' := hb1.trans (hb2.mono hb1.size)
  have hm2 := hm.below hmp hb2'
  clear hb1 hb2 hm1
  go_wp2_with fail
  refine (lex_some t _ (by unfold maxLen; omega) hm2).mono ?_
  rintro e w3 ⟨⟨A3, n3, c3, i3, k3, rfl⟩, hb3⟩
  have hb3' := hb2'.trans (hb3.mono hb2'.size)
  have hm3 := hm.below hmp hb3'
  clear hb2' hb3 hm2
  go_wp2_with fail
  refine (lex_some _ _ ?_ hm3).mono ?_
  · exact hcz
  rintro e w4 ⟨⟨A4, n4, c4, i4, k4, rfl⟩, hb4⟩
  have HB := Lib.hid (hb3'.trans (hb4.mono hb3'.size))
  clear hb3' hb4 hm3 hm hcz
  go_wp2_with fail
  go_ret
  exact ⟨rfl, HB.out⟩
theorem appends_no (s t : ByteArray) (w : World) (hm : ML w) (hs : s.size ≤ 2000) (ht : t.size ≤ 2000) (ts us vs : List Lx.Tok) (a c n x : Nat) (H1 : Hid (Lx.lexT s.data.toList = (ts, none))) (HN : Hid (n = ts.length))
    (H2 : Hid (Lx.lexT t.data.toList = (us, some (a, c)))) (H3 : Hid (Lx.lexT (s ++ ⟨#[10]⟩ ++ t : ByteArray).data.toList = (vs, some (x, c)))) (hx : Hid (x = a + s.size + 1)) (ha : a ≤ 2000) (hc1 : ((c : Int) == 0) = false) :
    Calls Try.prog 7 #[.string s, .string t] w fun e w' => e = .returned (.bool true) ∧ Below w.heap.size w w' := by
  have hmp := hm.pos
  have hcz := cat_size s t hs ht
  have hxx : ((x : Int) == (a : Int) + (s.size : Int) + 1) = true := by rw [beq_iff_eq]; have := hx.out; omega
  go_enter Try.func7, Try.ntmps7
  go_wp2_with fail
  refine (known_any _ hm).mono ?_
  rintro e w1 ⟨rfl, hb1⟩
  have hm1 := hm.below hmp hb1
  go_wp2_with fail
  refine (lex_ok s ts n _ H1 HN (by unfold maxLen; omega) hm1).mono ?_
  rintro e w2 ⟨⟨A, d, rfl, _, _⟩, hb2⟩
  have hb2' := hb1.trans (hb2.mono hb1.size)
  have hm2 := hm.below hmp hb2'
  clear hb1 hb2 hm1
  go_wp2_with fail
  refine (lex_no t us a c _ H2 (by unfold maxLen; omega) hm2).mono ?_
  rintro e w3 ⟨⟨A3, d3, rfl⟩, hb3⟩
  have hb3' := hb2'.trans (hb3.mono hb2'.size)
  have hm3 := hm.below hmp hb3'
  clear hb2' hb3 hm2
  go_wp2_with fail
  refine (lex_no _ vs x c _ H3 hcz hm3).mono ?_
  rintro e w4 ⟨⟨A4, d4, rfl⟩, hb4⟩
  have HB := Lib.hid (hb3'.trans (hb4.mono hb3'.size))
  clear hb3' hb4 hm3 hm hcz
  go_wp2_with fail
  go_ret
  exact ⟨ret_bool (by simp), HB.out⟩
theorem Rd.take {w : World} {A : Option Addr} {n m : Nat} {xs ys : List Value} (h : Rd w 3 A (n + m) (xs ++ ys)) (hx : xs.length = n * 3) : Rd w 3 A n xs :=
  ⟨hx, fun h0 => by
    obtain ⟨g, hA, hg, hc⟩ := h.2 (by omega)
    exact ⟨g, hA, hg, fun j u hu => hc j u (by
      have := (List.getElem?_eq_some_iff.1 hu).1
      rw [List.getElem?_append_left this]; exact hu)⟩⟩
theorem tvals_app (ts us : List Lx.Tok) : tvals (ts ++ us) = tvals ts ++ tvals us := by simp [tvals]
theorem same_bare (ts : List Lx.Tok) (n : Nat) (A B : Option Addr) (c d : Nat) (w : World) (hn : Hid (n = ts.length)) (hl : n ≤ 9000) (ha : Hid (Rd w 3 A n (tvals ts))) (hb : Hid (Rd w 3 B n (tvals ts))) :
    Calls Try.prog 13 #[.slice A n c, .slice B n d] w fun e w' => e = .returned (.bool true) ∧ ∃ q, w' = w.drewN q :=
  same_n ts n A B c d w hn hl ha.out hb.out

set_option maxHeartbeats 1000000 in
theorem appends_ok (s t : ByteArray) (w : World) (hm : ML w) (hs : s.size ≤ 2000) (ht : t.size ≤ 2000) (ts us : List Lx.Tok) (n m : Nat) (H1 : Hid (Lx.lexT s.data.toList = (ts, none))) (HN : Hid (n = ts.length)) (HM : Hid (m = us.length)) (hn : n ≤ 2000) (hmm : m ≤ 2000)
    (H2 : Hid (Lx.lexT t.data.toList = (us, none))) (H3 : Hid (Lx.lexT (s ++ ⟨#[10]⟩ ++ t : ByteArray).data.toList = (ts ++ us.map (Lx.shT (s.size + 1)), none))) (H4 : Hid (∀ (i : Nat) (x : Lx.Tok), us[i]? = some x → x.at_ ≤ 2000)) :
    Calls Try.prog 7 #[.string s, .string t] w fun e w' => e = .returned (.bool true) ∧ Below w.heap.size w w' := by
  have hmp := hm.pos
  have hcz := cat_size s t hs ht
  have HNM : Hid (n + m = (ts ++ us.map (Lx.shT (s.size + 1))).length) := by
    show _ = _
    rw [List.length_append, List.length_map, HN.out, HM.out]
  go_enter Try.func7, Try.ntmps7
  go_wp2_with fail
  refine (known_any _ hm).mono ?_
  rintro e w1 ⟨rfl, hb1⟩
  have hm1 := hm.below hmp hb1
  go_wp2_with fail
  refine (lex_ok s ts n _ H1 HN (by unfold maxLen; omega) hm1).mono ?_
  rintro e w2 ⟨⟨A, d, rfl, hr2, _⟩, hb2⟩
  have hb2' := hb1.trans (hb2.mono hb1.size)
  have hm2 := hm.below hmp hb2'
  have HR2 := Lib.hid hr2
  clear hb1 hb2 hm1 hr2
  go_wp2_with fail
  refine (lex_ok t us m _ H2 HM (by unfold maxLen; omega) hm2).mono ?_
  rintro e w3 ⟨⟨A3, d3, rfl, hr3, _⟩, hb3⟩
  have hb3' := hb2'.trans (hb3.mono hb2'.size)
  have hm3 := hm.below hmp hb3'
  have HR2b := Lib.hid (HR2.out.below hb3)
  have HR3 := Lib.hid hr3
  clear hb2' hb3 hm2 hr3 HR2
  go_wp2_with fail
  refine (lex_ok _ _ (n + m) _ H3 HNM hcz hm3).mono ?_
  rintro e w4 ⟨⟨A4, d4, rfl, hr4, hcap4⟩, hb4⟩
  have hb4' := hb3'.trans (hb4.mono hb3'.size)
  have HR2 := Lib.hid (HR2b.out.below hb4)
  have HR3c := Lib.hid (HR3.out.below hb4)
  have HR4 := Lib.hid hr4
  have HR4a : Hid (Rd w4 3 A4 n (tvals ts)) := (show Rd w4 3 A4 (n + m) (tvals ts ++ tvals (us.map (Lx.shT (s.size + 1)))) from by rw [← tvals_app]; exact hr4).take (by rw [tvals_len, HN.out])
  clear hb3' hb4 hm3 hr4 HR2b HR3
  go_wp2_with fail
  refine (same_bare ts n A A4 d d4 _ HN (by omega) HR2 HR4a).mono ?_
  rintro e w5 ⟨rfl, q, hq⟩
  have hb5 : Below w.heap.size w w5 := by rw [hq]; exact below_drewN hb4' q
  have HR3 : Hid (Rd w5 3 A3 m (tvals us)) := by rw [hq]; exact HR3c.out
  have HRC : Hid (Rd w5 3 A4 (n + m) (tvals (ts ++ us.map (Lx.shT (s.size + 1))))) := by rw [hq]; exact HR4.out
  clear hb4' HR2 HR4a HR3c HR4 hq
  by_cases hm0 : 0 < m
  · obtain ⟨g2, rfl, hg2, hc2⟩ := HR3.out.2 hm0
    obtain ⟨g3, rfl, hg3, hc3⟩ := HRC.out.2 (by omega)
    have HC2 := Lib.hid hc2
    have HC3 := Lib.hid hc3
    clear hc2 hc3 HR3 HRC
    go_wp2_with fail
    go_loopw [84] (fun v wr => ∃ k : Nat, k ≤ m ∧ v = .int .i64 k ∧ Below w5.heap.size w5 wr) (fun v _ => m - (intOf v).toNat)
    case atStart => exact ⟨0, by omega, rfl, Below.refl _ _⟩
    case round =>
      obtain ⟨k, hk, rfl, hbr⟩ := hrel
      by_cases hlt : k < m
      · have hlt1 : k < us.length := by rw [← HM.out]; exact hlt
        obtain ⟨x0, x1, x2⟩ := tval_at us k hlt1
        have hlt2 : n + k < (ts ++ us.map (Lx.shT (s.size + 1))).length := by rw [← HNM.out]; omega
        obtain ⟨y0, y1, y2⟩ := tval_at (ts ++ us.map (Lx.shT (s.size + 1))) (n + k) hlt2
        have hel : (ts ++ us.map (Lx.shT (s.size + 1)))[n + k] = Lx.shT (s.size + 1) us[k] := by
          rw [List.getElem_append_right (by rw [← HN.out]; omega), List.getElem_map]
          congr 2
          rw [← HN.out]; omega
        rw [hel] at y0 y1 y2
        have ha := H4.out k us[k] (List.getElem?_eq_getElem hlt1)
        have a0 := (hbr.cell (p := ⟨g2, k * 3, none⟩) hg2).trans (HC2.out _ _ x0)
        have a1 := (hbr.cell (p := ⟨g2, k * 3 + 1, none⟩) hg2).trans (HC2.out _ _ x1)
        have a2 := (hbr.cell (p := ⟨g2, k * 3 + 2, none⟩) hg2).trans (HC2.out _ _ x2)
        have c0 := (hbr.cell (p := ⟨g3, (n + k) * 3, none⟩) hg3).trans (HC3.out _ _ y0)
        have c1 := (hbr.cell (p := ⟨g3, (n + k) * 3 + 1, none⟩) hg3).trans (HC3.out _ _ y1)
        have c2 := (hbr.cell (p := ⟨g3, (n + k) * 3 + 2, none⟩) hg3).trans (HC3.out _ _ y2)
        clear x0 x1 x2 y0 y1 y2 hel
        obtain ⟨kd, ekd⟩ : ∃ kd : Int, kd = ((us[k].kind : Nat) : Int) := ⟨_, rfl⟩
        obtain ⟨tx, etx⟩ : ∃ tx : ByteArray, tx = ⟨us[k].text.toArray⟩ := ⟨_, rfl⟩
        obtain ⟨at0, eat⟩ : ∃ at0 : Nat, at0 = us[k].at_ := ⟨_, rfl⟩
        have c2' : wr.cell? ⟨g3, (n + k) * 3 + 2, none⟩ = some (.int .i64 ((at0 : Int) + ((s.size : Int) + 1))) := by
          rw [c2, eat]; show some (Value.int .i64 ((us[k].at_ + (s.size + 1) : Nat) : Int)) = _; congr 2
        change wr.cell? ⟨g3, (n + k) * 3, none⟩ = some (.int .i64 ((us[k].kind : Nat) : Int)) at c0
        change wr.cell? ⟨g3, (n + k) * 3 + 1, none⟩ = some (.string ⟨us[k].text.toArray⟩) at c1
        rw [← ekd] at a0 c0
        rw [← etx] at a1 c1
        rw [← eat] at a2 ha
        clear ekd etx eat c2
        have hg2' : g2 < wr.heap.size := Nat.lt_of_lt_of_le hg2 hbr.size
        have hg3' : g3 < wr.heap.size := Nat.lt_of_lt_of_le hg3 hbr.size
        have hk1 := tokGuard
        have hk2 := tokHeld
        have i1 : (0 : Int) ≤ (n : Int) + (k : Int) := by omega
        have i2 : (n : Int) + (k : Int) < (n : Int) + (m : Int) := by omega
        go_wp2_with fail
        go_quiet (fail)
        go_wp2_with fail
        go_roundw
        case rel => exact ⟨k + 1, by omega, by go_num, below_drewN (hbr.alloc hbr.size _) _⟩
        case measure => simp [intOf]; omega
      · go_wp2_with fail
        go_ret
        exact ⟨rfl, hb5.trans (hbr.mono hb5.size)⟩
  · have hz : m = 0 := by omega
    subst hz
    clear HR3 HRC
    go_wp2_with fail
    refine wp_loop_rounds 1 ?_
    rw [rounds_succ]
    go_wp2_with fail
    go_ret
    exact ⟨rfl, hb5⟩
theorem appends_walk (s t : ByteArray) (w : World) (hz : s.size ≤ maxLen) (hy : t.size ≤ maxLen) (hm : ML w) :
    Calls Try.prog 7 #[.string s, .string t] w fun e w' => e = .returned (.bool true) ∧ Below w.heap.size w w' := by
  by_cases hs : s.size ≤ 2000
  · by_cases ht : t.size ≤ 2000
    · have ls : s.data.toList.length ≤ 2000 := by rw [len_at]; exact hs
      have lt : t.data.toList.length ≤ 2000 := by rw [len_at]; exact ht
      rcases lexT_cases s.data.toList with ⟨ts, h1⟩ | ⟨ts, a, c, h1⟩
      · have l1 := Lx.lexT_len s.data.toList
        rw [h1] at l1
        rcases lexT_cases t.data.toList with ⟨us, h2⟩ | ⟨us, a, c, h2⟩
        · have l2 := Lx.lexT_len t.data.toList
          rw [h2] at l2
          have h3 := app_ok _ _ ls lt ts us h1 h2
          rw [len_at, ← cat_data] at h3
          refine appends_ok s t w hm hs ht ts us ts.length us.length h1 rfl rfl ?_ ?_ h2 h3 ?_
          · simp only at l1; omega
          · simp only at l2; omega
          · intro i x hx
            have := at_le _ us (lexT_lex _ us h2).2 i x hx
            omega
        · obtain ⟨q1, q2, _⟩ := lexT_pre _ _ _ _ h2
          have h3 := app_no _ _ ls lt ts us a c h1 h2
          rw [len_at, ← cat_data] at h3
          exact appends_no s t w hm hs ht ts us _ a c ts.length _ h1 rfl h2 h3 rfl (by omega) (by rw [beq_eq_false_iff_ne]; omega)
      · obtain ⟨_, q2, _⟩ := lexT_pre _ _ _ _ h1
        exact appends_err s t w hm hs ht ts a c h1 (by rw [beq_eq_false_iff_ne]; omega)
    · exact appends_far s t w hz hy hm (.inr ⟨hs, by omega⟩)
  · exact appends_far s t w hz hy hm (.inl (by omega))

set_option maxRecDepth 100000 in
theorem lexerAppends_lifted (os : Os) (started : os.Started) (H : Type) (enc : TypeId × Value → H) :
    ReturnsInHanded {} Try.checked os 7 .any (Rows.lexerAppendsSpec.pre6 enc Try.prog Try.f7 Rows.lexerAppendsRow.domain false) (Rows.lexerAppendsSpec.post enc Try.prog Try.f7 false true false false) := by
  refine returnsInHanded_of_change_shaped (C := Try.checked) Try.own started (by kernel_rfl) Try.func7
    (ChangeSpec.witness6 (enc := enc) (C := Try.checked) false ⟨#[], #[.string ⟨#[]⟩, .string ⟨#[]⟩], []⟩ 8 (by kernel_rfl) (by kernel_rfl) (by kernel_rfl) (by kernel_rfl)) ?_
  intro W base args ds gs before hval0 hW hcnd0 _ hsh _
  clear hcnd0
  have hval : ∀ (j : Nat) t v, Try.f7.params[j]? = some t → args[j]? = some v → Value.okWide Try.prog W .any base t v := hval0
  have hW' := hW
  obtain ⟨p, q, hA0, hV, rfl, hfz, hnd⟩ := hW
  have hA : DataW.TrodAll enc Try.prog W 0 (fun _ => true) true Try.f7.params.toList args.toList ds p := hA0
  rw [Try.params7] at hA hval
  obtain ⟨v0, v1, d0, d1, p0, p1, rfl, rfl, rfl, h0, h1⟩ := trodAll_two hA
  obtain ⟨rfl, rfl⟩ := trodVars_none hV
  obtain ⟨s0, rfl, rfl, rfl, ws0⟩ := open_string Try.underlying9 (hval 0 9 v0 rfl rfl) h0
  obtain ⟨s1, rfl, rfl, rfl, ws1⟩ := open_string Try.underlying9 (hval 1 9 v1 rfl rfl) h1
  clear hA0 hval0
  simp only [List.append_nil] at hW'
  have hml : ML W := Try.laysM219.s1_3 W hsh
  refine (appends_walk s0 s1 W ws0 ws1 hml).mono fun e W' ⟨he, hb⟩ => ?_
  subst he
  exact ⟨_, rfl, _, _, _, [], [], [], hW', trodAll_mk1 (shut_bool Try.underlying4 _), trodAll_mk2 (shut_string Try.underlying9 ws0) (shut_string Try.underlying9 ws1), rfl, hb.frame _, fun h => by cases h⟩

theorem lexerAppends_holds : Rows.LexerAppendsSaid :=
  OpenClaim.holds_of_wide 7 Try.f7 rfl rfl rfl rfl rfl rfl rfl ⟨rfl, rfl, rfl, rfl, rfl⟩ rfl rfl rfl rfl rfl (by kernel_rfl) Try.func7 (by kernel_rfl)
    (of_decide_eq_true (by kernel_rfl)) (by unfold Func.isWrapper; rw [if_neg (of_decide_eq_false (by kernel_rfl))]; exact ⟨rfl, rfl⟩)
    (fun os started H enc _ => lexerAppends_lifted os started H enc)
#print axioms lexerAppends_holds
end Go.Proofs.Ythenhajgmbanjaa
