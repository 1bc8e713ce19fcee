/-
  Plain laws of the lexer, second part: covers, spaces, names, joins.
-/
import Derived.Test.YthenhajgmbanjaaLxP
namespace Go.Proofs.Ythenhajgmbanjaa.Lx

/-! ### Covers -/
/-- A text of white space and comments: the state behind it (in a comment or not), or none. -/
def emst : Bool → Bytes → Option Bool
  | f, [] => some f
  | f, c :: l => if c == 10 then emst false l else if c == 35 then emst true l else if (!f && (!(c == 32) && !(c == 9))) then none else emst f l
def emptyB (l : Bytes) : Bool := (emst false l).isSome
theorem emst_app (a b : Bytes) (f : Bool) : emst f (a ++ b) = (emst f a).bind fun g => emst g b := by
  induction a generalizing f with
  | nil => rfl
  | cons c a ih =>
    rw [List.cons_append]
    simp only [emst]
    split
    · exact ih _
    · split
      · exact ih _
      · split
        · rfl
        · exact ih _
theorem emst_skip (l : Bytes) : emst true (l.take (skipc l)) = some true := by
  induction l with
  | nil => rfl
  | cons c l ih =>
    by_cases hc : (c == 10) = true
    · simp [skipc, hc, emst]
    · have hc' := Bool.eq_false_iff.2 hc
      have e : skipc (c :: l) = skipc l + 1 := by simp only [skipc, hc', Bool.false_eq_true, if_false]
      rw [e, List.take_succ_cons]
      simp only [emst, hc', Bool.false_eq_true, if_false, Bool.not_true, Bool.false_and]
      split <;> exact ih
theorem skipc_next (l : Bytes) : l.drop (skipc l) = [] ∨ ∃ r, l.drop (skipc l) = 10 :: r := by
  induction l with
  | nil => exact .inl rfl
  | cons c l ih =>
    by_cases hc : (c == 10) = true
    · have : c = 10 := by simpa using hc
      subst this
      exact .inr ⟨l, by simp [skipc]⟩
    · have hc' := Bool.eq_false_iff.2 hc
      have e : skipc (c :: l) = skipc l + 1 := by simp only [skipc, hc', Bool.false_eq_true, if_false]
      rw [e, List.drop_succ_cons]
      exact ih
/-- The tokens stand in the text from e on, in order, and between them there is nothing but white space and comments. -/
def Cov (l : Bytes) : Nat → List Tok → Prop
  | e, [] => emptyB (l.drop e) = true ∧ e ≤ l.length
  | e, t :: ts => e ≤ t.at_ ∧ 0 < t.text.length ∧ t.at_ + t.text.length ≤ l.length ∧ (l.drop t.at_).take t.text.length = t.text ∧ emptyB ((l.drop e).take (t.at_ - e)) = true ∧ Cov l (t.at_ + t.text.length) ts
theorem slice_snoc (l : Bytes) (e j k : Nat) (h : e ≤ j) : (l.drop e).take (j + k - e) = (l.drop e).take (j - e) ++ (l.drop j).take k := by
  rw [show j + k - e = (j - e) + k from by omega, List.take_add, List.drop_drop, show e + (j - e) = j from by omega]
theorem cov_lex (l : Bytes) : ∀ (j : Nat) (m : Bytes) (ts : List Tok), lex j m = (ts, none) → m = l.drop j → j ≤ l.length → ∀ (e : Nat) (fl : Bool), e ≤ j → emst false ((l.drop e).take (j - e)) = some fl → (fl = true → m = [] ∨ ∃ r, m = 10 :: r) → Cov l e ts := by
  refine lex_rec ?_ ?_ ?_ ?_ ?_
  · intro j ts h hm hj e fl he hs _
    rw [lex_nil] at h
    simp only [Prod.mk.injEq, and_true] at h
    subst h
    refine ⟨?_, by omega⟩
    have hle : l.length ≤ j := by
      have := congrArg List.length hm
      simp at this; omega
    rw [List.take_of_length_le (by simp; omega)] at hs
    unfold emptyB; rw [hs]; rfl
  · intro j c r hw ih ts h hm hj e fl he hs hf
    rw [lex_white _ _ _ hw] at h
    have hlt : j < l.length := by
      have := congrArg List.length hm
      simp at this; omega
    refine ih ts h (by rw [← List.drop_drop, ← hm]; rfl) (by omega) e false (by omega) ?_ (fun h => by cases h)
    rw [slice_snoc l e j 1 he, emst_app, hs, ← hm]
    simp only [Option.bind_some, List.take_succ_cons, List.take_zero]
    unfold white at hw
    simp only [Bool.or_eq_true, beq_iff_eq] at hw
    have hf0 : c = 10 ∨ fl = false := by
      cases fl
      · exact .inr rfl
      · rcases hf rfl with h | ⟨_, h⟩
        · cases h
        · simp only [List.cons.injEq] at h; exact .inl h.1
    rcases hw with rfl | rfl | rfl
    · rcases hf0 with h | rfl
      · exact absurd h (by decide)
      · rfl
    · rcases hf0 with h | rfl
      · exact absurd h (by decide)
      · rfl
    · cases fl <;> rfl
  · intro j r ih ts h hm hj e fl he hs hf
    rw [lex_comment] at h
    have hk := skipc_le (35 :: r)
    have hlt : j + skipc (35 :: r) ≤ l.length := by
      have := congrArg List.length hm
      simp at this hk; omega
    refine ih ts h (by rw [hm, List.drop_drop]) hlt e true (by omega) ?_ (fun _ => skipc_next _)
    rw [slice_snoc l e j _ he, emst_app, hs, ← hm]
    simp only [Option.bind_some]
    have hs1 : skipc (35 :: r) = skipc r + 1 := by simp [skipc]
    rw [hs1, List.take_succ_cons]
    have := emst_skip r
    simp only [emst]
    exact this
  · intro j c r h1 h2 h3 ih ts h hm hj e fl he hs hf
    rw [lex_tok _ _ _ h1 h2 h3] at h
    have hp := tok_pos _ h3
    have hl := tok_le (c :: r)
    have hlen : (c :: r).length = l.length - j := by rw [hm, List.length_drop]
    obtain ⟨ts', rfl⟩ : ∃ ts', ts = ⟨(tokOf (c :: r)).2.1, (c :: r).take (tokOf (c :: r)).2.2, j⟩ :: ts' := by
      simp only [cons, Prod.mk.injEq] at h
      exact ⟨_, h.1.symm⟩
    have h' : lex (j + (tokOf (c :: r)).2.2) ((c :: r).drop (tokOf (c :: r)).2.2) = (ts', none) := by
      simp only [cons, Prod.mk.injEq, List.cons.injEq, true_and] at h
      exact Prod.ext h.1 h.2
    have htl : ((c :: r).take (tokOf (c :: r)).2.2).length = (tokOf (c :: r)).2.2 := by rw [List.length_take]; omega
    refine ⟨he, by rw [htl]; exact hp, by rw [htl]; show j + _ ≤ _; omega, by rw [htl, ← hm], by unfold emptyB; rw [hs]; rfl, ?_⟩
    rw [htl]
    exact ih ts' h' (by rw [hm, List.drop_drop]) (by omega) _ false (Nat.le_refl _) (by rw [Nat.sub_self]; rfl) (fun h => by cases h)
  · intro j c r h1 h2 h3 ts hh
    rw [lex_err _ _ _ h1 h2 h3] at hh
    simp at hh
theorem cov_all (l : Bytes) (ts : List Tok) (h : lex 0 l = (ts, none)) : Cov l 0 ts :=
  cov_lex l 0 l ts h rfl (Nat.zero_le _) 0 false (Nat.le_refl _) rfl (fun h => by cases h)

/-! ### Something white behind a token -/
theorem skipc_cut (l x : Bytes) (p : Nat) (h : skipc l < p) (h2 : skipc l < l.length) : skipc (l.take p ++ x) = skipc l := by
  induction l generalizing p with
  | nil => simp at h2
  | cons c l ih =>
    obtain ⟨q, rfl⟩ : ∃ q, p = q + 1 := ⟨p - 1, by omega⟩
    rw [List.take_succ_cons, List.cons_append]
    by_cases hc : (c == 10) = true
    · simp only [skipc, hc, if_true]
    · have hc' := Bool.eq_false_iff.2 hc
      have e : skipc (c :: l) = skipc l + 1 := by simp only [skipc, hc', Bool.false_eq_true, if_false]
      rw [e] at h h2
      simp only [skipc, hc', Bool.false_eq_true, if_false]
      rw [ih q (by omega) (by simpa using h2)]
theorem lex_mid : ∀ (j : Nat) (l : Bytes) (ts : List Tok), lex j l = (ts, none) → ∀ (i : Nat) (t : Tok), ts[i]? = some t → ∃ p, j + p = t.at_ + t.text.length ∧ 0 < p ∧ p ≤ l.length ∧ j ≤ t.at_ ∧
    lex (j + p) (l.drop p) = (ts.drop (i + 1), none) ∧ ∀ b x, white b = true → lex j (l.take p ++ b :: x) = (ts.take (i + 1) ++ (lex (j + p) (b :: x)).1, (lex (j + p) (b :: x)).2) := by
  refine lex_rec ?_ ?_ ?_ ?_ ?_
  · intro j ts h i t ht
    rw [lex_nil] at h
    simp only [Prod.mk.injEq, and_true] at h
    subst h
    simp at ht
  · intro j c r hw ih ts h i t ht
    rw [lex_white _ _ _ hw] at h
    obtain ⟨p, h1, h2, h3, h4, h5, h6⟩ := ih ts h i t ht
    refine ⟨p + 1, by omega, by omega, by simp; omega, by omega, ?_, fun b x hb => ?_⟩
    · rw [List.drop_succ_cons, show j + (p + 1) = j + 1 + p from by omega, h5]
    · rw [List.take_succ_cons, List.cons_append, lex_white _ _ _ hw, h6 b x hb, show j + (p + 1) = j + 1 + p from by omega]
  · intro j r ih ts h i t ht
    rw [lex_comment] at h
    obtain ⟨p, h1, h2, h3, h4, h5, h6⟩ := ih ts h i t ht
    have hk := skipc_le (35 :: r)
    rw [List.length_drop] at h3
    refine ⟨skipc (35 :: r) + p, by omega, by omega, by omega, by omega, ?_, fun b x hb => ?_⟩
    · rw [← List.drop_drop, ← Nat.add_assoc, h5]
    · have e1 : ((35 :: r).take (skipc (35 :: r) + p) ++ b :: x).drop (skipc (35 :: r)) = ((35 :: r).drop (skipc (35 :: r))).take p ++ b :: x := by
        rw [List.drop_append_of_le_length (by rw [List.length_take]; omega), List.drop_take, Nat.add_sub_cancel_left]
      have e2 := skipc_cut (35 :: r) (b :: x) (skipc (35 :: r) + p) (by omega) (by omega)
      obtain ⟨q, hq⟩ : ∃ q, skipc (35 :: r) + p = q + 1 := ⟨skipc (35 :: r) + p - 1, by omega⟩
      have e3 : (35 :: r).take (skipc (35 :: r) + p) ++ b :: x = 35 :: (r.take q ++ b :: x) := by rw [hq, List.take_succ_cons, List.cons_append]
      rw [e3] at e1 e2
      rw [e3, lex_comment, e2, e1, h6 b x hb, Nat.add_assoc]
  · intro j c r h1 h2 h3 ih ts h i t ht
    rw [lex_tok _ _ _ h1 h2 h3] at h
    have hp := tok_pos _ h3
    have hl := tok_le (c :: r)
    obtain ⟨ts', rfl⟩ : ∃ ts', ts = ⟨(tokOf (c :: r)).2.1, (c :: r).take (tokOf (c :: r)).2.2, j⟩ :: ts' := by
      simp only [cons, Prod.mk.injEq] at h
      exact ⟨_, h.1.symm⟩
    have h' : lex (j + (tokOf (c :: r)).2.2) ((c :: r).drop (tokOf (c :: r)).2.2) = (ts', none) := by
      simp only [cons, Prod.mk.injEq, List.cons.injEq, true_and] at h
      exact Prod.ext h.1 h.2
    have htl : ((c :: r).take (tokOf (c :: r)).2.2).length = (tokOf (c :: r)).2.2 := by rw [List.length_take]; omega
    have step : ∀ (p : Nat) (b : UInt8) (x : Bytes), (tokOf (c :: r)).2.2 ≤ p → white b = true →
        lex j ((c :: r).take p ++ b :: x) = cons ⟨(tokOf (c :: r)).2.1, (c :: r).take (tokOf (c :: r)).2.2, j⟩ (lex (j + (tokOf (c :: r)).2.2) (((c :: r).drop (tokOf (c :: r)).2.2).take (p - (tokOf (c :: r)).2.2) ++ b :: x)) := by
      intro p b x hpp hb
      have e2 := tok_sep c r (b :: x) p (.inr ⟨b, x, rfl, hb⟩) hpp (by omega)
      have e4 := take_wlen_sep (c :: r) (b :: x) p _ hpp hl
      have e5 : ((c :: r).take p ++ b :: x).drop (tokOf (c :: r)).2.2 = ((c :: r).drop (tokOf (c :: r)).2.2).take (p - (tokOf (c :: r)).2.2) ++ b :: x := by
        rw [List.drop_append_of_le_length (by rw [List.length_take]; omega), List.drop_take]
      obtain ⟨q, hq⟩ : ∃ q, p = q + 1 := ⟨p - 1, by omega⟩
      have e3 : (c :: r).take p ++ b :: x = c :: (r.take q ++ b :: x) := by rw [hq, List.take_succ_cons, List.cons_append]
      rw [e3] at e2 e4 e5 ⊢
      rw [lex_tok _ _ _ h1 h2 (by rw [e2]; exact h3), e2, e4, e5]
    cases i with
    | zero =>
      simp only [List.getElem?_cons_zero, Option.some.injEq] at ht
      subst ht
      refine ⟨(tokOf (c :: r)).2.2, by rw [htl], hp, hl, Nat.le_refl _, ?_, fun b x hb => ?_⟩
      · rw [h']; rfl
      · rw [step _ b x (Nat.le_refl _) hb, Nat.sub_self, List.take_zero, List.nil_append]
        rfl
    | succ i =>
      rw [List.getElem?_cons_succ] at ht
      obtain ⟨p, g1, g2, g3, g4, g5, g6⟩ := ih ts' h' i t ht
      rw [List.length_drop] at g3
      refine ⟨(tokOf (c :: r)).2.2 + p, by omega, by omega, by omega, by omega, ?_, fun b x hb => ?_⟩
      · rw [← List.drop_drop, ← Nat.add_assoc, g5]; rfl
      · rw [step _ b x (by omega) hb, Nat.add_sub_cancel_left, g6 b x hb, Nat.add_assoc]
        rfl
  · intro j c r h1 h2 h3 ts hh
    rw [lex_err _ _ _ h1 h2 h3] at hh
    simp at hh
/-- Kinds and texts. -/
def kt (t : Tok) : Nat × Bytes := (t.kind, t.text)
def pad : Bytes := [9, 35, 59, 32, 36, 10, 32]
theorem lex_pad (j : Nat) (d : Bytes) : lex j (pad ++ d) = shift 7 (lex j d) := by
  show lex j (9 :: 35 :: 59 :: 32 :: 36 :: 10 :: 32 :: d) = _
  rw [lex_white _ _ _ (by decide), lex_comment]
  have e : skipc (35 :: 59 :: 32 :: 36 :: 10 :: 32 :: d) = 4 := by simp [skipc]
  rw [e]
  show lex (j + 1 + 4) (10 :: 32 :: d) = _
  rw [lex_white _ _ _ (by decide), lex_white _ _ _ (by decide), show j + 1 + 4 + 1 + 1 = j + 7 from by omega, lex_shift]
theorem lex_spaces (l : Bytes) (ts : List Tok) (h : lex 0 l = (ts, none)) (i : Nat) (t : Tok) (ht : ts[i]? = some t) :
    t.at_ + t.text.length ≤ l.length ∧ ∃ us, lex 0 (l.take (t.at_ + t.text.length) ++ (pad ++ l.drop (t.at_ + t.text.length))) = (us, none) ∧ ts.map kt = us.map kt := by
  obtain ⟨p, h1, _, h3, _, h5, h6⟩ := lex_mid 0 l ts h i t ht
  rw [Nat.zero_add] at h1 h5
  subst h1
  refine ⟨h3, ts.take (i + 1) ++ (ts.drop (i + 1)).map (shT 7), ?_, ?_⟩
  · have e : l.take (t.at_ + t.text.length) ++ (pad ++ l.drop (t.at_ + t.text.length)) = l.take (t.at_ + t.text.length) ++ 9 :: (pad.tail ++ l.drop (t.at_ + t.text.length)) := rfl
    have e2 : lex (0 + (t.at_ + t.text.length)) (9 :: (pad.tail ++ l.drop (t.at_ + t.text.length))) = shift 7 (lex (0 + (t.at_ + t.text.length)) (l.drop (t.at_ + t.text.length))) := lex_pad _ _
    rw [e, h6 9 _ (by decide), e2, Nat.zero_add, h5]
    rfl
  · rw [List.map_append, List.map_map]
    have : (kt ∘ shT 7) = kt := rfl
    rw [this, ← List.map_append, List.take_append_drop]

/-! ### Names -/
def isWordB (l : Bytes) : Bool := match l with | [] => false | c :: _ => isL c && l.all alnum
def isNameB (l : Bytes) : Bool := decide (l.length ≤ 12) && (isWordB l && !isRes l)
theorem wlen_full {l : Bytes} : wlen l = l.length ↔ l.all alnum = true := by
  induction l with
  | nil => simp [wlen]
  | cons c l ih =>
    by_cases hc : alnum c = true
    · simp [wlen, hc, ih]
    · simp [wlen, hc]
theorem lex_at_ge : ∀ (j : Nat) (l : Bytes) (t : Tok), t ∈ (lex j l).1 → j ≤ t.at_ := by
  refine lex_rec ?_ ?_ ?_ ?_ ?_
  · intro j t h; simp [lex_nil] at h
  · intro j c r hw ih t h
    rw [lex_white _ _ _ hw] at h
    have := ih t h; omega
  · intro j r ih t h
    rw [lex_comment] at h
    have := ih t h; omega
  · intro j c r h1 h2 h3 ih t h
    rw [lex_tok _ _ _ h1 h2 h3] at h
    simp only [cons, List.mem_cons] at h
    rcases h with rfl | h
    · exact Nat.le_refl _
    · have := ih t h; omega
  · intro j c r h1 h2 h3 t h
    rw [lex_err _ _ _ h1 h2 h3] at h
    simp at h
theorem one_tok (l : Bytes) (k : Nat) : lex 0 l = ([⟨k, l, 0⟩], none) ↔ (tokOf l = (0, k, l.length) ∧ ∃ c r, l = c :: r ∧ white c = false ∧ (c == 35) = false) := by
  constructor
  · intro h
    cases l with
    | nil => simp [lex_nil] at h
    | cons c r =>
      by_cases h1 : white c = true
      · rw [lex_white _ _ _ h1] at h
        have := lex_at_ge 1 r ⟨k, c :: r, 0⟩ (by rw [show (0 + 1 : Nat) = 1 from rfl] at h; rw [h]; simp)
        simp at this
      · have h1' := Bool.eq_false_iff.2 h1
        by_cases h2 : c = 35
        · subst h2
          rw [lex_comment] at h
          have hs : 0 < skipc (35 :: r) := by simp [skipc]
          have := lex_at_ge _ _ ⟨k, 35 :: r, 0⟩ (by rw [h]; simp)
          simp at this; omega
        · have h2' : (c == 35) = false := by simpa using h2
          by_cases h3 : (tokOf (c :: r)).1 = 0
          · rw [lex_tok _ _ _ h1' h2' h3] at h
            simp only [cons, Prod.mk.injEq, List.cons.injEq, Tok.mk.injEq] at h
            obtain ⟨⟨⟨g1, g2, _⟩, _⟩, _⟩ := h
            have hl := tok_le (c :: r)
            have g3 := congrArg List.length g2
            rw [List.length_take] at g3
            exact ⟨Prod.ext h3 (Prod.ext g1 (by show (tokOf (c :: r)).2.2 = (c :: r).length; omega)), c, r, rfl, h1', h2'⟩
          · rw [lex_err _ _ _ h1' h2' h3] at h
            simp at h
  · rintro ⟨h, c, r, rfl, h1, h2⟩
    rw [lex_tok _ _ _ h1 h2 (by rw [h]), h]
    simp only
    rw [List.take_length, List.drop_length, lex_nil]
    rfl
theorem name_one (l : Bytes) : lex 0 l = ([⟨0, l, 0⟩], none) ↔ isNameB l = true := by
  rw [one_tok]
  constructor
  · rintro ⟨h, c, r, rfl, _, _⟩
    by_cases hl : isL c = true
    · simp only [tokOf, hl, if_true] at h
      split at h
      · simp at h
      · rename_i hr
        split at h
        · simp at h
        · rename_i h12
          simp only [Prod.mk.injEq, true_and] at h
          have hw := wlen_full.1 h
          rw [h, List.take_length] at hr
          unfold isNameB
          rw [← h]
          simp only [Bool.and_eq_true, decide_eq_true_eq, Bool.not_eq_true']
          refine ⟨by omega, ?_, Bool.eq_false_iff.2 hr⟩
          simp only [isWordB, hl, Bool.true_and]; exact hw
    · by_cases hd : isD c = true
      · simp [tokOf, hl, hd] at h
      · simp only [tokOf, hl, hd, if_false, Bool.false_eq_true] at h
        simp at h
  · intro h
    unfold isNameB at h
    simp only [Bool.and_eq_true, decide_eq_true_eq, Bool.not_eq_true'] at h
    obtain ⟨h12, hw, hr⟩ := h
    cases l with
    | nil => simp [isWordB] at hw
    | cons c r =>
      simp only [isWordB, Bool.and_eq_true] at hw
      obtain ⟨hl, ha⟩ := hw
      have hf := wlen_full.2 ha
      refine ⟨?_, c, r, rfl, ?_, ?_⟩
      · simp only [tokOf, hl, if_true, hf, List.take_length, hr, Bool.false_eq_true, if_false]
        rw [if_neg (by omega)]
      · refine Bool.eq_false_iff.2 fun h => ?_
        have := white_not_alnum h
        simp [alnum, hl] at this
      · refine Bool.eq_false_iff.2 fun h => ?_
        have : c = 35 := by simpa using h
        subst this
        exact absurd hl (by decide)
theorem word_one (l : Bytes) (hres : isRes l = true → l.all isL = true ∧ l ≠ []) : lex 0 l = ([⟨2, l, 0⟩], none) ↔ isRes l = true := by
  rw [one_tok]
  constructor
  · rintro ⟨h, c, r, rfl, _, _⟩
    by_cases hl : isL c = true
    · simp only [tokOf, hl, if_true] at h
      split at h
      · rename_i hr
        simp only [Prod.mk.injEq, true_and] at h
        rw [h, List.take_length] at hr
        exact hr
      · split at h <;> simp at h
    · by_cases hd : isD c = true
      · simp [tokOf, hl, hd] at h
      · simp only [tokOf, hl, hd, if_false, Bool.false_eq_true] at h
        simp at h
  · intro h
    obtain ⟨ha, hne⟩ := hres h
    cases l with
    | nil => exact absurd rfl hne
    | cons c r =>
      rw [List.all_eq_true] at ha
      have hl : isL c = true := ha c (by simp)
      have hf : wlen (c :: r) = (c :: r).length := wlen_full.2 (by
        rw [List.all_eq_true]
        intro x hx
        simp [alnum, ha x hx])
      refine ⟨?_, c, r, rfl, ?_, ?_⟩
      · simp only [tokOf, hl, if_true, hf, List.take_length, h]
      · refine Bool.eq_false_iff.2 fun h => ?_
        have := white_not_alnum h
        simp [alnum, hl] at this
      · refine Bool.eq_false_iff.2 fun h => ?_
        have : c = 35 := by simpa using h
        subst this
        exact absurd hl (by decide)

/-! ### Joins -/
def joinF : List Bytes → Bytes
  | [] => []
  | [t] => t
  | t :: u :: r => t ++ 32 :: joinF (u :: r)
/-- A token whose text is read as that token wherever it stands alone. -/
def Good (t : Tok) : Prop := (∃ c r, t.text = c :: r ∧ white c = false ∧ (c == 35) = false) ∧ ∀ x, Sep x → tokOf (t.text ++ x) = (0, t.kind, t.text.length)
theorem good_of : ∀ (j : Nat) (l : Bytes) (t : Tok), t ∈ (lex j l).1 → Good t := by
  refine lex_rec ?_ ?_ ?_ ?_ ?_
  · intro j t h; simp [lex_nil] at h
  · intro j c r hw ih t h
    rw [lex_white _ _ _ hw] at h
    exact ih t h
  · intro j r ih t h
    rw [lex_comment] at h
    exact ih t h
  · intro j c r h1 h2 h3 ih t h
    rw [lex_tok _ _ _ h1 h2 h3] at h
    simp only [cons, List.mem_cons] at h
    rcases h with rfl | h
    · have hp := tok_pos _ h3
      have hl := tok_le (c :: r)
      refine ⟨?_, fun x hx => ?_⟩
      · obtain ⟨q, hq⟩ : ∃ q, (tokOf (c :: r)).2.2 = q + 1 := ⟨(tokOf (c :: r)).2.2 - 1, by omega⟩
        exact ⟨c, r.take q, by show (c :: r).take _ = _; rw [hq, List.take_succ_cons], h1, h2⟩
      · show tokOf ((c :: r).take _ ++ x) = _
        rw [tok_sep c r x _ hx (Nat.le_refl _) hp]
        have : ((c :: r).take (tokOf (c :: r)).2.2).length = (tokOf (c :: r)).2.2 := by rw [List.length_take]; omega
        exact Prod.ext h3 (Prod.ext rfl this.symm)
    · exact ih t h
  · intro j c r h1 h2 h3 t h
    rw [lex_err _ _ _ h1 h2 h3] at h
    simp at h
theorem lex_good (t : Tok) (ht : Good t) (j : Nat) (x : Bytes) (hx : Sep x) : lex j (t.text ++ x) = cons ⟨t.kind, t.text, j⟩ (lex (j + t.text.length) x) := by
  obtain ⟨⟨c, r, hc, h1, h2⟩, h⟩ := ht
  have e := h x hx
  rw [hc, List.cons_append] at e
  rw [hc, List.cons_append, lex_tok _ _ _ h1 h2 (by rw [e]), e]
  simp only
  rw [← List.cons_append, List.take_left', List.drop_left'] <;> rfl
theorem lex_join (ts : List Tok) (h : ∀ t ∈ ts, Good t) : ∀ j : Nat, ∃ us, lex j (joinF (ts.map (·.text))) = (us, none) ∧ ts.map kt = us.map kt := by
  induction ts with
  | nil => intro j; exact ⟨[], rfl, rfl⟩
  | cons t ts ih =>
    intro j
    have ht := h t (by simp)
    cases ts with
    | nil =>
      refine ⟨[⟨t.kind, t.text, j⟩], ?_, rfl⟩
      have := lex_good t ht j [] (.inl rfl)
      rw [List.append_nil] at this
      show lex j t.text = _
      rw [this]; rfl
    | cons u ts =>
      obtain ⟨us, h1, h2⟩ := ih (fun x hx => h x (by simp only [List.mem_cons] at hx ⊢; exact .inr hx)) (j + t.text.length + 1)
      refine ⟨⟨t.kind, t.text, j⟩ :: us, ?_, ?_⟩
      · show lex j (t.text ++ 32 :: joinF ((u :: ts).map (·.text))) = _
        rw [lex_good t ht j _ (.inr ⟨32, _, rfl, by decide⟩), lex_white _ _ _ (by decide), h1]
        rfl
      · show kt t :: (u :: ts).map kt = _
        rw [h2]; rfl
theorem join_len (bs : List Bytes) : (joinF bs).length ≤ (bs.map List.length).sum + bs.length := by
  induction bs with
  | nil => simp [joinF]
  | cons t bs ih =>
    cases bs with
    | nil => simp [joinF]
    | cons u r =>
      simp only [joinF, List.length_append, List.length_cons, List.map_cons, List.sum_cons] at ih ⊢
      omega
theorem lex_sum : ∀ (j : Nat) (l : Bytes), ((lex j l).1.map (·.text.length)).sum ≤ l.length := by
  refine lex_rec ?_ ?_ ?_ ?_ ?_
  · intro j; simp [lex_nil]
  · intro j c r hw ih
    rw [lex_white _ _ _ hw, List.length_cons]; omega
  · intro j r ih
    rw [lex_comment]
    rw [List.length_drop] at ih
    omega
  · intro j c r h1 h2 h3 ih
    rw [lex_tok _ _ _ h1 h2 h3]
    have hl := tok_le (c :: r)
    simp only [cons, List.map_cons, List.sum_cons]
    rw [List.length_take]
    rw [List.length_drop] at ih
    omega
  · intro j c r h1 h2 h3
    rw [lex_err _ _ _ h1 h2 h3]; simp
end Go.Proofs.Ythenhajgmbanjaa.Lx
