/-
  Plain laws of the lexer: locality of tokens, and what the statements ask of the tokens of a text; no program is in sight here.
-/
import Derived.Test.YthenhajgmbanjaaLx
namespace Go.Proofs.Ythenhajgmbanjaa.Lx

theorem lex_rec {P : Nat → Bytes → Prop} (nil : ∀ j, P j []) (whi : ∀ j c r, white c = true → P (j + 1) r → P j (c :: r))
    (hash : ∀ j r, P (j + skipc (35 :: r)) ((35 :: r).drop (skipc (35 :: r))) → P j (35 :: r))
    (tok : ∀ j c r, white c = false → (c == 35) = false → (tokOf (c :: r)).1 = 0 → P (j + (tokOf (c :: r)).2.2) ((c :: r).drop (tokOf (c :: r)).2.2) → P j (c :: r))
    (err : ∀ j c r, white c = false → (c == 35) = false → (tokOf (c :: r)).1 ≠ 0 → P j (c :: r)) : ∀ j l, P j l := by
  have key : ∀ (f j : Nat) (l : Bytes), l.length ≤ f → P j l := by
    intro f
    induction f with
    | zero =>
      intro j l h
      have : l = [] := List.eq_nil_of_length_eq_zero (by omega)
      subst this; exact nil j
    | succ f ih =>
      intro j l h
      cases l with
      | nil => exact nil j
      | cons c r =>
        simp only [List.length_cons] at h
        by_cases h1 : white c = true
        · exact whi j c r h1 (ih _ _ (by omega))
        · have h1' := Bool.eq_false_iff.2 h1
          by_cases h2 : c = 35
          · subst h2
            refine hash j r (ih _ _ ?_)
            have hs : 0 < skipc (35 :: r) := by simp [skipc]
            simp; omega
          · have h2' : (c == 35) = false := by simpa using h2
            by_cases h3 : (tokOf (c :: r)).1 = 0
            · refine tok j c r h1' h2' h3 (ih _ _ ?_)
              have hp := tok_pos _ h3
              simp; omega
            · exact err j c r h1' h2' h3
  intro j l
  exact key l.length j l (Nat.le_refl _)

/-- What follows a token and parts it from the rest: nothing, or white space. -/
def Sep (x : Bytes) : Prop := x = [] ∨ ∃ b m, x = b :: m ∧ white b = true
theorem white_not_alnum {b : UInt8} (h : white b = true) : alnum b = false := by
  unfold white at h
  simp only [Bool.or_eq_true, beq_iff_eq] at h
  rcases h with h | h | h <;> subst h <;> decide
theorem wlen_sep (l x : Bytes) (p : Nat) (hx : Sep x) (hp : wlen l ≤ p) : wlen (l.take p ++ x) = wlen l := by
  induction l generalizing p with
  | nil =>
    simp only [List.take_nil, List.nil_append]
    rcases hx with rfl | ⟨b, m, rfl, hb⟩
    · rfl
    · simp [wlen, white_not_alnum hb]
  | cons c l ih =>
    by_cases hc : alnum c = true
    · have e : wlen (c :: l) = wlen l + 1 := by simp [wlen, hc]
      rw [e] at hp ⊢
      cases p with
      | zero => omega
      | succ p =>
        rw [List.take_succ_cons, List.cons_append]
        have := ih p (by omega)
        simp [wlen, hc, this]
    · have e : wlen (c :: l) = 0 := by simp [wlen, hc]
      rw [e]
      cases p with
      | zero =>
        simp only [List.take_zero, List.nil_append]
        rcases hx with rfl | ⟨b, m, rfl, hb⟩
        · rfl
        · simp [wlen, white_not_alnum hb]
      | succ p =>
        rw [List.take_succ_cons, List.cons_append]
        simp [wlen, hc]
theorem take_wlen_sep (l x : Bytes) (p n : Nat) (hp : n ≤ p) (hn : n ≤ l.length) : (l.take p ++ x).take n = l.take n := by
  rw [List.take_append_of_le_length (by rw [List.length_take]; omega), List.take_take, Nat.min_eq_left hp]
theorem sg2_white (c b : UInt8) (hb : white b = true) : sg2 [c, b] = false := by
  unfold white at hb
  simp only [Bool.or_eq_true, beq_iff_eq] at hb
  rcases hb with hb | hb | hb <;> subst hb <;> simp [sg2]
theorem sg2_one (c : UInt8) : sg2 [c] = false := by simp [sg2]
theorem sgn_sep (c : UInt8) (r x : Bytes) (p : Nat) (hx : Sep x) (hp : sgn (c :: r) ≤ p) (h1 : 1 ≤ p) : sgn ((c :: r).take p ++ x) = sgn (c :: r) := by
  obtain ⟨p, rfl⟩ : ∃ q, p = q + 1 := ⟨p - 1, by omega⟩
  rw [List.take_succ_cons, List.cons_append]
  have t1 : (c :: (r.take p ++ x)).take 1 = (c :: r).take 1 := rfl
  unfold sgn
  rw [t1]
  have hs1 : sgn (c :: r) = if sg2 ((c :: r).take 2) then 2 else if sg1 ((c :: r).take 1) then 1 else 0 := rfl
  rw [hs1] at hp
  cases r with
  | nil =>
    rcases hx with rfl | ⟨b, m, rfl, hb⟩
    · simp
    · have e1 : (c :: (List.take p [] ++ b :: m)).take 2 = [c, b] := by simp
      have e2 : ([c] : Bytes).take 2 = [c] := rfl
      rw [e1, e2, sg2_white c b hb, sg2_one]
  | cons d r =>
    have e2 : (c :: d :: r).take 2 = [c, d] := rfl
    rw [e2] at hp ⊢
    cases p with
    | zero =>
      have hf : sg2 [c, d] = false := by
        cases h : sg2 [c, d]
        · rfl
        · rw [h] at hp; simp at hp
      rw [hf]
      rcases hx with rfl | ⟨b, m, rfl, hb⟩
      · have e1 : (c :: (List.take 0 (d :: r) ++ [])).take 2 = [c] := rfl
        rw [e1, sg2_one]
      · have e1 : (c :: (List.take 0 (d :: r) ++ b :: m)).take 2 = [c, b] := rfl
        rw [e1, sg2_white c b hb]
    | succ p =>
      have e1 : (c :: (List.take (p + 1) (d :: r) ++ x)).take 2 = [c, d] := rfl
      rw [e1]
theorem tok_sep (c : UInt8) (r x : Bytes) (p : Nat) (hx : Sep x) (hp : (tokOf (c :: r)).2.2 ≤ p) (h1 : 1 ≤ p) : tokOf ((c :: r).take p ++ x) = tokOf (c :: r) := by
  obtain ⟨q, rfl⟩ : ∃ q, p = q + 1 := ⟨p - 1, by omega⟩
  have e0 : (c :: r).take (q + 1) ++ x = c :: (r.take q ++ x) := by rw [List.take_succ_cons, List.cons_append]
  by_cases hl : isL c = true
  · have hw : wlen (c :: r) ≤ q + 1 := by
      have : (tokOf (c :: r)).2.2 = wlen (c :: r) := by
        simp only [tokOf, hl, if_true]
        (repeat' split) <;> rfl
      omega
    have e1 := wlen_sep (c :: r) x (q + 1) hx hw
    have e2 := take_wlen_sep (c :: r) x (q + 1) (wlen (c :: r)) hw (wlen_le _)
    rw [e0] at e1 e2 ⊢
    simp only [tokOf, hl, if_true, e1, e2]
  · have hl' := Bool.eq_false_iff.2 hl
    by_cases hd : isD c = true
    · have hw : wlen (c :: r) ≤ q + 1 := by
        have : (tokOf (c :: r)).2.2 = wlen (c :: r) := by simp [tokOf, hl', hd]
        omega
      have e1 := wlen_sep (c :: r) x (q + 1) hx hw
      have e2 := take_wlen_sep (c :: r) x (q + 1) (wlen (c :: r)) hw (wlen_le _)
      rw [e0] at e1 e2 ⊢
      simp only [tokOf, hl', hd, Bool.false_eq_true, if_false, if_true, e1, e2]
    · have hd' := Bool.eq_false_iff.2 hd
      have hw : sgn (c :: r) ≤ q + 1 := by
        have : (tokOf (c :: r)).2.2 = sgn (c :: r) := by simp [tokOf, hl', hd']
        omega
      have e1 := sgn_sep c r x (q + 1) hx hw (by omega)
      rw [e0] at e1 ⊢
      simp only [tokOf, hl', hd', Bool.false_eq_true, if_false, e1]

/-! ### Moving the offsets -/
def shT (d : Nat) (t : Tok) : Tok := ⟨t.kind, t.text, t.at_ + d⟩
def shift (d : Nat) (r : List Tok × Option (Nat × Nat)) : List Tok × Option (Nat × Nat) := (r.1.map (shT d), r.2.map fun x => (x.1 + d, x.2))
theorem lex_shift (d : Nat) : ∀ (j : Nat) (l : Bytes), lex (j + d) l = shift d (lex j l) := by
  refine lex_rec (fun j => rfl) ?_ ?_ ?_ ?_
  · intro j c r h ih
    rw [lex_white _ _ _ h, lex_white _ _ _ h, show j + d + 1 = j + 1 + d from by omega, ih]
  · intro j r ih
    rw [lex_comment, lex_comment, show j + d + skipc (35 :: r) = j + skipc (35 :: r) + d from by omega, ih]
  · intro j c r h1 h2 h3 ih
    rw [lex_tok _ _ _ h1 h2 h3, lex_tok _ _ _ h1 h2 h3, show j + d + (tokOf (c :: r)).2.2 = j + (tokOf (c :: r)).2.2 + d from by omega, ih]
    simp [cons, shift, shT]
  · intro j c r h1 h2 h3
    rw [lex_err _ _ _ h1 h2 h3, lex_err _ _ _ h1 h2 h3]
    simp [shift]

/-! ### What stands before an error -/
theorem skipc_take (l : Bytes) (p : Nat) (h : skipc l ≤ p) : skipc (l.take p) = skipc l := by
  induction l generalizing p with
  | nil => simp [skipc]
  | cons c l ih =>
    by_cases hc : (c == 10) = true
    · cases p with
      | zero => simp [skipc, hc]
      | succ p => simp [skipc, hc]
    · have hc' := Bool.eq_false_iff.2 hc
      have e : skipc (c :: l) = skipc l + 1 := by simp only [skipc, hc', Bool.false_eq_true, if_false]
      rw [e] at h ⊢
      cases p with
      | zero => omega
      | succ p =>
        rw [List.take_succ_cons]
        simp only [skipc, hc', Bool.false_eq_true, if_false]
        rw [ih p (by omega)]
theorem lex_prefix : ∀ (j : Nat) (l : Bytes) (ts : List Tok) (a c : Nat), lex j l = (ts, some (a, c)) → j ≤ a ∧ a ≤ j + l.length ∧ c ≠ 0 ∧ lex j (l.take (a - j)) = (ts, none) := by
  refine lex_rec ?_ ?_ ?_ ?_ ?_
  · intro j ts a c h; simp [lex_nil] at h
  · intro j b r h ih ts a c hh
    rw [lex_white _ _ _ h] at hh
    obtain ⟨i1, i2, i3, i4⟩ := ih ts a c hh
    refine ⟨by omega, by simp only [List.length_cons]; omega, i3, ?_⟩
    rw [show a - j = (a - (j + 1)) + 1 from by omega, List.take_succ_cons, lex_white _ _ _ h]
    exact i4
  · intro j r ih ts a c hh
    rw [lex_comment] at hh
    obtain ⟨i1, i2, i3, i4⟩ := ih ts a c hh
    have hs := skipc_le (35 :: r)
    have hs0 : 0 < skipc (35 :: r) := by simp [skipc]
    refine ⟨by omega, by rw [List.length_drop] at i2; omega, i3, ?_⟩
    obtain ⟨p, hp⟩ : ∃ p, a - j = p + 1 := ⟨a - j - 1, by omega⟩
    have e1 : (35 :: r).take (a - j) = 35 :: r.take p := by rw [hp, List.take_succ_cons]
    have e2 : skipc (35 :: r.take p) = skipc (35 :: r) := by rw [← e1]; exact skipc_take _ _ (by omega)
    rw [e1, lex_comment, e2, ← e1, List.drop_take]
    rw [show a - j - skipc (35 :: r) = a - (j + skipc (35 :: r)) from by omega]
    exact i4
  · intro j b r h1 h2 h3 ih ts a c hh
    rw [lex_tok _ _ _ h1 h2 h3] at hh
    have hp := tok_pos _ h3
    have hl := tok_le (b :: r)
    obtain ⟨ts', rfl⟩ : ∃ ts', ts = ⟨(tokOf (b :: r)).2.1, (b :: r).take (tokOf (b :: r)).2.2, j⟩ :: ts' := by
      simp only [cons, Prod.mk.injEq] at hh
      exact ⟨_, hh.1.symm⟩
    have hh' : lex (j + (tokOf (b :: r)).2.2) ((b :: r).drop (tokOf (b :: r)).2.2) = (ts', some (a, c)) := by
      simp only [cons, Prod.mk.injEq, List.cons.injEq, true_and] at hh
      exact Prod.ext hh.1 hh.2
    obtain ⟨i1, i2, i3, i4⟩ := ih ts' a c hh'
    rw [List.length_drop] at i2
    refine ⟨by omega, by omega, i3, ?_⟩
    obtain ⟨p, hpp⟩ : ∃ p, a - j = p + 1 := ⟨a - j - 1, by omega⟩
    have e1 : (b :: r).take (a - j) = b :: r.take p := by rw [hpp, List.take_succ_cons]
    have e2 : tokOf (b :: r.take p) = tokOf (b :: r) := by
      have := tok_sep b r [] (a - j) (.inl rfl) (by omega) (by omega)
      rw [List.append_nil, e1] at this; exact this
    rw [e1, lex_tok _ _ _ h1 h2 (by rw [e2]; exact h3), e2, ← e1, List.drop_take, List.take_take, Nat.min_eq_left (by omega)]
    rw [show a - j - (tokOf (b :: r)).2.2 = a - (j + (tokOf (b :: r)).2.2) from by omega, i4]
    rfl
  · intro j b r h1 h2 h3 ts a c hh
    rw [lex_err _ _ _ h1 h2 h3] at hh
    simp only [Prod.mk.injEq, Option.some.injEq] at hh
    obtain ⟨rfl, rfl, rfl⟩ := hh
    exact ⟨Nat.le_refl _, by omega, h3, by rw [Nat.sub_self, List.take_zero, lex_nil]⟩

/-! ### Two texts with a line feed between them -/
theorem skipc_app (l m : Bytes) : skipc (l ++ 10 :: m) = skipc l := by
  induction l with
  | nil => simp [skipc]
  | cons c l ih =>
    rw [List.cons_append]
    by_cases hc : (c == 10) = true
    · simp [skipc, hc]
    · have hc' := Bool.eq_false_iff.2 hc
      simp only [skipc, hc', Bool.false_eq_true, if_false, ih]
theorem lex_app (m : Bytes) : ∀ (j : Nat) (l : Bytes) (ts : List Tok), lex j l = (ts, none) → lex j (l ++ 10 :: m) = (ts ++ (lex (j + l.length + 1) m).1, (lex (j + l.length + 1) m).2) := by
  refine lex_rec ?_ ?_ ?_ ?_ ?_
  · intro j ts h
    rw [lex_nil] at h
    simp only [Prod.mk.injEq, and_true] at h
    subst h
    rw [List.nil_append, lex_white _ _ _ (by decide)]
    simp
  · intro j c r h ih ts hh
    rw [lex_white _ _ _ h] at hh
    rw [List.cons_append, lex_white _ _ _ h, ih ts hh]
    simp only [List.length_cons, show j + 1 + r.length + 1 = j + (r.length + 1) + 1 from by omega]
  · intro j r ih ts hh
    rw [lex_comment] at hh
    have hs := skipc_le (35 :: r)
    have e2 : skipc (35 :: (r ++ 10 :: m)) = skipc (35 :: r) := by rw [← List.cons_append]; exact skipc_app _ _
    rw [List.cons_append, lex_comment, e2, ← List.cons_append, List.drop_append_of_le_length hs, ih ts hh]
    rw [List.length_drop, show j + skipc (35 :: r) + ((35 :: r).length - skipc (35 :: r)) + 1 = j + (35 :: r).length + 1 from by omega]
  · intro j c r h1 h2 h3 ih ts hh
    rw [lex_tok _ _ _ h1 h2 h3] at hh
    have hl := tok_le (c :: r)
    obtain ⟨ts', rfl⟩ : ∃ ts', ts = ⟨(tokOf (c :: r)).2.1, (c :: r).take (tokOf (c :: r)).2.2, j⟩ :: ts' := by
      simp only [cons, Prod.mk.injEq] at hh
      exact ⟨_, hh.1.symm⟩
    have hh' : lex (j + (tokOf (c :: r)).2.2) ((c :: r).drop (tokOf (c :: r)).2.2) = (ts', none) := by
      simp only [cons, Prod.mk.injEq, List.cons.injEq, true_and] at hh
      exact Prod.ext hh.1 hh.2
    have e2 : tokOf (c :: (r ++ 10 :: m)) = tokOf (c :: r) := by
      have := tok_sep c r (10 :: m) (c :: r).length (.inr ⟨10, m, rfl, by decide⟩) hl (by simp)
      rw [List.take_length, List.cons_append] at this; exact this
    rw [List.cons_append, lex_tok _ _ _ h1 h2 (by rw [e2]; exact h3), e2, ← List.cons_append, List.drop_append_of_le_length hl, List.take_append_of_le_length hl, ih ts' hh']
    rw [List.length_drop, show j + (tokOf (c :: r)).2.2 + ((c :: r).length - (tokOf (c :: r)).2.2) + 1 = j + (c :: r).length + 1 from by omega]
    rfl
  · intro j c r h1 h2 h3 ts hh
    rw [lex_err _ _ _ h1 h2 h3] at hh
    simp at hh
end Go.Proofs.Ythenhajgmbanjaa.Lx
