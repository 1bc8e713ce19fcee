/-
  LexerJoins: the tokens of a text, joined, are the tokens of the joined text, but for their offsets. No condition.
-/
import Derived.Test.YthenhajgmbanjaaLxJ
namespace Go.Proofs.Ythenhajgmbanjaa
open Go.RowKit Go.ChangeShapes Go.WideShapes Go.ChangeAt
open Go.ChangeMaps (open_string shut_string)

theorem joins_far (s : ByteArray) (w : World) (hz : s.size ≤ maxLen) (hm : ML w) (hs : 4000 < s.size) :
    Calls Try.prog 9 #[.string s] w fun e w' => e = .returned (.bool true) ∧ Below w.heap.size w w' := by
  unfold maxLen at hz
  go_enter Try.func9, Try.ntmps9
  go_wp2_with fail
  refine (known_any _ hm).mono ?_
  rintro e w1 ⟨rfl, hb1⟩
  go_wp2_with fail
  go_ret
  exact ⟨rfl, hb1⟩
theorem joins_no (s : ByteArray) (w : World) (hm : ML w) (hs : s.size ≤ 4000) (ts : List Lx.Tok) (a c : Nat) (H : Hid (Lx.lexT s.data.toList = (ts, some (a, c)))) (hc1 : ((c : Int) == 0) = false) :
    Calls Try.prog 9 #[.string s] w fun e w' => e = .returned (.bool true) ∧ Below w.heap.size w w' := by
  have hmp := hm.pos
  go_enter Try.func9, Try.ntmps9
  go_wp2_with fail
  refine (known_any _ hm).mono ?_
  rintro e w1 ⟨rfl, hb1⟩
  have hm1 := hm.below hmp hb1
  go_wp2_with fail
  refine (lex_no s ts a c _ H (by unfold maxLen; omega) hm1).mono ?_
  rintro e w2 ⟨⟨A, d, rfl⟩, hb2⟩
  have HB := Lib.hid (hb1.trans (hb2.mono hb1.size))
  clear hb1 hb2 hm1 hm
  go_wp2_with fail
  go_ret
  exact ⟨rfl, HB.out⟩
theorem join_r (ts : List Lx.Tok) (n : Nat) (A : Option Addr) (c : Nat) (r : ByteArray) (w : World) (HR : Hid (r = ⟨(jpre ts n).toArray⟩)) (HN : Hid (n = ts.length)) (hn : n ≤ 9000) (hr : Hid (Rd w 3 A n (tvals ts))) (HL : Hid (∀ k, (jpre ts k).length ≤ 9000)) (HT : Hid (∀ (k : Nat) (h : k < ts.length), ts[k].text.length ≤ 9000)) :
    Calls Try.prog 20 #[.slice A n c] w fun e w' => e = .returned (.string r) ∧ Below w.heap.size w w' := by
  have h : r = ⟨(jpre ts n).toArray⟩ := HR
  rw [h]; exact join_any ts n A c w HN hn hr HL HT
theorem rjoin_r (ts : List Lx.Tok) (n : Nat) (A : Option Addr) (c : Nat) (r : ByteArray) (w : World) (HR : Hid (r = ⟨(jpre ts n).toArray⟩)) (HN : Hid (n = ts.length)) (hn : n ≤ 9000) (hr : Hid (Rd w 3 A n (tvals ts))) (HL : Hid (∀ k, (jpre ts k).length ≤ 9000)) (HT : Hid (∀ (k : Nat) (h : k < ts.length), ts[k].text.length ≤ 9000)) :
    Calls Try.prog 21 #[.slice A n c] w fun e w' => e = .returned (.string r) ∧ w = w' := by
  have h : r = ⟨(jpre ts n).toArray⟩ := HR
  rw [h]; exact rjoin_any ts n A c w HN hn hr HL HT

set_option maxHeartbeats 1000000 in
theorem joins_ok (s r : ByteArray) (w : World) (hm : ML w) (hs : s.size ≤ 4000) (ts us : List Lx.Tok) (n : Nat) (hn9 : n ≤ 9000) (H : Hid (Lx.lexT s.data.toList = (ts, none))) (HN : Hid (n = ts.length)) (HNU : Hid (n = us.length)) (HR : Hid (r = ⟨(jpre ts n).toArray⟩)) (hrz : r.size ≤ maxLen)
    (H2 : Hid (Lx.lexT r.data.toList = (us, none))) (HK : Hid (ts.map Lx.kt = us.map Lx.kt)) (HL : Hid (∀ k, (jpre ts k).length ≤ 9000)) (HT : Hid (∀ (k : Nat) (h : k < ts.length), ts[k].text.length ≤ 9000)) :
    Calls Try.prog 9 #[.string s] w fun e w' => e = .returned (.bool true) ∧ Below w.heap.size w w' := by
  have hmp := hm.pos
  go_enter Try.func9, Try.ntmps9
  go_wp2_with fail
  refine (known_any _ hm).mono ?_
  rintro e w1 ⟨rfl, hb1⟩
  have hm1 := hm.below hmp hb1
  go_wp2_with fail
  refine (lex_ok s ts n _ H HN (by unfold maxLen; omega) hm1).mono ?_
  rintro e w2 ⟨⟨A, d, rfl, hr2, _⟩, hb2⟩
  have hb2' := hb1.trans (hb2.mono hb1.size)
  have HR2 := Lib.hid hr2
  clear hb1 hb2 hm1 hr2
  go_wp2_with fail
  refine (join_r ts n A d r _ HR HN hn9 HR2 HL HT).mono ?_
  rintro e w3 ⟨rfl, hb3⟩
  have hb3' := hb2'.trans (hb3.mono hb2'.size)
  have HR3 := Lib.hid (HR2.out.below hb3)
  have hm3 := hm.below hmp hb3'
  clear hb2' hb3 hm HR2
  go_wp2_with fail
  refine (lex_ok r us n _ H2 HNU hrz hm3).mono ?_
  rintro e w4 ⟨⟨A4, d4, rfl, hr4, _⟩, hb4⟩
  have HB4 := Lib.hid (hb3'.trans (hb4.mono hb3'.size))
  have HRa := Lib.hid (HR3.out.below hb4)
  have HR4 := Lib.hid hr4
  clear hb3' hb4 hm3 HR3 hr4
  go_wp2_with fail
  refine (alike_n ts us n A A4 d d4 _ HN HK hn9 HRa HR4).mono ?_
  rintro e w5 ⟨rfl, q, rfl⟩
  have HRb : Hid (Rd (w4.drewN q) 3 A n (tvals ts)) := HRa.out
  go_wp2_with fail
  refine (rjoin_r ts n A d r _ HR HN hn9 HRb HL HT).mono ?_
  rintro e w6 ⟨rfl, rfl⟩
  go_wp2_with fail
  go_ret
  exact ⟨ret_bool (by simp), below_drewN HB4.out q⟩

theorem sum_take (l : List Nat) (k : Nat) : (l.take k).sum ≤ l.sum := by
  induction l generalizing k with
  | nil => simp
  | cons a l ih =>
    cases k with
    | zero => simp
    | succ k => simp only [List.take_succ_cons, List.sum_cons]; have := ih k; omega
theorem sum_mem (l : List Nat) (k : Nat) (h : k < l.length) : l[k] ≤ l.sum := by
  induction l generalizing k with
  | nil => simp at h
  | cons a l ih =>
    cases k with
    | zero => simp
    | succ k => simp only [List.getElem_cons_succ, List.sum_cons]; have := ih k (by simpa using h); omega
theorem joins_walk (s : ByteArray) (w : World) (hz : s.size ≤ maxLen) (hm : ML w) :
    Calls Try.prog 9 #[.string s] w fun e w' => e = .returned (.bool true) ∧ Below w.heap.size w w' := by
  by_cases hs : s.size ≤ 4000
  · rcases lexT_cases s.data.toList with ⟨ts, h1⟩ | ⟨ts, a, c, h1⟩
    · have l1 := Lx.lexT_len s.data.toList
      rw [h1, len_at] at l1
      simp only at l1
      have hlx := (lexT_lex _ ts h1).2
      have hsum := Lx.lex_sum 0 s.data.toList
      rw [hlx, len_at] at hsum
      have hL : ∀ k, (jpre ts k).length ≤ 8000 := by
        intro k
        have j1 := Lx.join_len ((ts.take k).map (·.text))
        rw [List.map_map, List.length_map, List.length_take] at j1
        have j2 := sum_take (ts.map (·.text.length)) k
        rw [List.map_take] at j1
        have e : (List.length ∘ fun x : Lx.Tok => x.text) = fun x : Lx.Tok => x.text.length := rfl
        rw [e] at j1
        unfold jpre
        simp only at hsum
        have j3 : (Lx.joinF ((ts.take k).map (·.text))).length = (Lx.joinF (List.take k (List.map (fun x => x.text) ts))).length := by rw [List.map_take]
        rw [List.map_take] at j1
        rw [j3]
        have j4 : (List.take k (List.map (fun x : Lx.Tok => x.text.length) ts)).sum ≤ 4000 := by omega
        have j5 : min k ts.length ≤ 4000 := by omega
        omega
      have hT : ∀ (k : Nat) (h : k < ts.length), ts[k].text.length ≤ 9000 := by
        intro k h
        have := sum_mem (ts.map (·.text.length)) k (by simpa using h)
        rw [List.getElem_map] at this
        simp only at hsum
        omega
      obtain ⟨us, u1, u2⟩ := Lx.lex_join ts (fun t ht => Lx.good_of 0 s.data.toList t (by rw [hlx]; exact ht)) 0
      have hjn : jpre ts ts.length = Lx.joinF (ts.map (·.text)) := by unfold jpre; rw [List.take_length]
      have hr8 := hL ts.length
      have hrs : (⟨(jpre ts ts.length).toArray⟩ : ByteArray).size ≤ 8000 := by rw [← len_at]; exact hr8
      refine joins_ok s ⟨(jpre ts ts.length).toArray⟩ w hm hs ts us ts.length (by omega) h1 rfl ?_ rfl (by unfold maxLen; omega) ?_ u2 (fun k => by have := hL k; omega) hT
      · show _ = _
        have := congrArg List.length u2
        rw [List.length_map, List.length_map] at this; exact this
      · show Lx.lexT (jpre ts ts.length) = _
        unfold Lx.lexT
        rw [if_pos (by omega), hjn]; exact u1
    · obtain ⟨_, q2, _⟩ := lexT_pre _ _ _ _ h1
      exact joins_no s w hm hs ts a c h1 (by rw [beq_eq_false_iff_ne]; omega)
  · exact joins_far s w hz hm (by omega)

set_option maxRecDepth 100000 in
theorem lexerJoins_lifted (os : Os) (started : os.Started) (H : Type) (enc : TypeId × Value → H) :
    ReturnsInHanded {} Try.checked os 9 .any (Rows.lexerJoinsSpec.pre6 enc Try.prog Try.f9 Rows.lexerJoinsRow.domain false) (Rows.lexerJoinsSpec.post enc Try.prog Try.f9 false true false false) := by
  refine returnsInHanded_of_change_shaped (C := Try.checked) Try.own started (by kernel_rfl) Try.func9
    (ChangeSpec.witness6 (enc := enc) (C := Try.checked) false ⟨#[], #[.string ⟨#[]⟩], []⟩ 8 (by kernel_rfl) (by kernel_rfl) (by kernel_rfl) (by kernel_rfl)) ?_
  intro W base args ds gs before hval0 hW hcnd0 _ hsh _
  clear hcnd0
  have hval : ∀ (j : Nat) t v, Try.f9.params[j]? = some t → args[j]? = some v → Value.okWide Try.prog W .any base t v := hval0
  have hW' := hW
  obtain ⟨p, q, hA0, hV, rfl, hfz, hnd⟩ := hW
  have hA : DataW.TrodAll enc Try.prog W 0 (fun _ => true) true Try.f9.params.toList args.toList ds p := hA0
  rw [Try.params9] at hA hval
  obtain ⟨v0, d0, rfl, rfl, h0⟩ := trodAll_one hA
  obtain ⟨rfl, rfl⟩ := trodVars_none hV
  obtain ⟨s0, rfl, rfl, rfl, ws0⟩ := open_string Try.underlying9 (hval 0 9 v0 rfl rfl) h0
  clear hA0 hval0
  simp only [List.append_nil] at hW'
  have hml : ML W := Try.laysM219.s1_3 W hsh
  refine (joins_walk s0 W ws0 hml).mono fun e W' ⟨he, hb⟩ => ?_
  subst he
  exact ⟨_, rfl, _, _, _, [], [], [], hW', trodAll_mk1 (shut_bool Try.underlying4 _), trodAll_mk1 (shut_string Try.underlying9 ws0), rfl, hb.frame _, fun h => by cases h⟩

theorem lexerJoins_holds : Rows.LexerJoinsSaid :=
  OpenClaim.holds_of_wide 9 Try.f9 rfl rfl rfl rfl rfl rfl rfl ⟨rfl, rfl, rfl, rfl, rfl⟩ rfl rfl rfl rfl rfl (by kernel_rfl) Try.func9 (by kernel_rfl)
    (of_decide_eq_true (by kernel_rfl)) (by unfold Func.isWrapper; rw [if_neg (of_decide_eq_false (by kernel_rfl))]; exact ⟨rfl, rfl⟩)
    (fun os started H enc _ => lexerJoins_lifted os started H enc)
#print axioms lexerJoins_holds
end Go.Proofs.Ythenhajgmbanjaa
