/-
  The plain lexer: what the tokens of a text are, on lists of bytes; no program is in sight here.
-/
import Derived.Lib.IndexMore
import Derived.Lib.IndexBytes
namespace Go.Proofs.Ythlhicegchkjjaa.Lx

abbrev Bytes := List UInt8

/-- A lower-case letter. -/
def isL (c : UInt8) : Bool := decide (97 ≤ c.toNat) && decide (c.toNat ≤ 122)
/-- A digit. -/
def isD (c : UInt8) : Bool := decide (48 ≤ c.toNat) && decide (c.toNat ≤ 57)
def alnum (c : UInt8) : Bool := isL c || isD c
/-- White space. -/
def white (c : UInt8) : Bool := c == 32 || (c == 9 || c == 10)
/-- The number of letters and digits at the head. -/
def wlen : Bytes → Nat
  | [] => 0
  | c :: l => if alnum c then wlen l + 1 else 0
/-- The number of bytes ahead of the line's end. -/
def skipc : Bytes → Nat
  | [] => 0
  | c :: l => if c == 10 then 0 else skipc l + 1

/-- The reserved words, each between spaces. -/
def resText : Bytes := [32, 116, 121, 112, 101, 32, 115, 101, 99, 114, 101, 116, 32, 112, 117, 98, 108, 105, 99, 32, 114, 97, 110, 100, 111, 109, 32, 118, 97, 114, 32, 104, 97, 116, 99, 104, 32, 102, 117, 110, 99, 32, 114, 101, 116, 117, 114, 110, 32, 98, 101, 103, 105, 110, 32, 101, 110, 100, 32, 98, 111, 111, 108, 32, 105, 110, 116, 32, 97, 114, 114, 97, 121, 32, 111, 102, 32, 114, 101, 99, 111, 114, 100, 32, 116, 114, 117, 101, 32, 102, 97, 108, 115, 101, 32, 99, 97, 108, 108, 32, 114, 101, 108, 101, 97, 115, 101, 32, 111, 117, 116, 112, 117, 116, 32, 119, 97, 105, 116, 32, 105, 102, 32, 101, 108, 115, 101, 32, 119, 104, 105, 108, 101, 32, 108, 105, 109, 105, 116, 32, 102, 111, 114, 32, 116, 111, 32, 115, 101, 116, 116, 108, 101, 32, 109, 105, 110, 32, 109, 97, 120, 32]
/-- Is a text a reserved word? -/
def isRes (w : Bytes) : Bool := !w.isEmpty && (!decide (0 ≤ Lib.indexByte w 32) && Lib.contains resText (32 :: (w ++ [32])))

/-- A sign of two bytes. -/
def sg2 (l : Bytes) : Bool :=
  l == [46, 46] || (l == [61, 61] || (l == [33, 61] || (l == [60, 61] || (l == [62, 61] || (l == [38, 38] || l == [124, 124])))))
/-- The signs of one byte. -/
def singles : Bytes := [59, 58, 44, 46, 61, 43, 45, 42, 47, 37, 60, 62, 33, 63, 40, 41, 91, 93, 123, 125]
def sg1 (l : Bytes) : Bool := match l with | [c] => singles.contains c | _ => false
/-- The length of the sign at the head; 0: there is none. -/
def sgn (l : Bytes) : Nat := if sg2 (l.take 2) then 2 else if sg1 (l.take 1) then 1 else 0
theorem sg2_len {l : Bytes} (h : sg2 l = true) : l.length = 2 := by
  simp only [sg2, Bool.or_eq_true, beq_iff_eq] at h
  rcases h with h | h | h | h | h | h | h <;> rw [h] <;> rfl
theorem sg1_len {l : Bytes} (h : sg1 l = true) : l.length = 1 := by
  match l, h with
  | [c], _ => rfl

/-- A number, cut off above the greatest one. -/
def satur (n : Nat) : Nat := if n ≤ 1048576 then n else 1048577
/-- A number that goes on from n, cut off above the greatest one. -/
def val (n : Nat) (l : Bytes) : Nat := l.foldl (fun n c => satur (10 * n + (c.toNat - 48))) n
theorem val_cons (n : Nat) (c : UInt8) (l : Bytes) : val n (c :: l) = val (satur (10 * n + (c.toNat - 48))) l := by
  unfold val; rw [List.foldl_cons]
theorem satur_le (n : Nat) : satur n ≤ 1048577 := by unfold satur; split <;> omega
theorem satur_id {n : Nat} (h : n ≤ 1048576) : satur n = n := by unfold satur; split <;> omega
theorem satur_big {n : Nat} (h : 1048576 < n) : satur n = 1048577 := by unfold satur; split <;> omega
theorem val_big (l : Bytes) : ∀ n : Nat, 1048576 < n → 1048576 < val n l := by
  induction l with
  | nil => intro n h; exact h
  | cons c l ih => intro n h; rw [val_cons]; exact ih _ (by rw [satur_big (by omega)]; omega)
/-- The code of a text of letters and digits that begins with a digit. -/
def numCode (l : Bytes) : Nat :=
  if l.all isD then (if l.head? == some 48 && decide (1 < l.length) then 6 else if 1048576 < val 0 l then 3 else 0) else 6

/-- The token at the head: its code, its kind, its length. -/
def tokOf (l : Bytes) : Nat × Nat × Nat :=
  match l with
  | [] => (6, 3, 0)
  | c :: _ =>
    if isL c then (if isRes (l.take (wlen l)) then (0, 2, wlen l) else if 12 < wlen l then (7, 0, wlen l) else (0, 0, wlen l))
    else if isD c then (numCode (l.take (wlen l)), 1, wlen l)
    else (if sgn l = 0 then 6 else 0, 3, sgn l)

structure Tok where
  kind : Nat
  text : Bytes
  at_ : Nat
  deriving DecidableEq

def cons (t : Tok) (r : List Tok × Option (Nat × Nat)) : List Tok × Option (Nat × Nat) := (t :: r.1, r.2)

/-- The tokens ahead of the first error, and that error: its offset and its code. -/
def lexF : Nat → Nat → Bytes → List Tok × Option (Nat × Nat)
  | 0, _, _ => ([], none)
  | f + 1, i, l =>
    match l with
    | [] => ([], none)
    | c :: r =>
      if white c then lexF f (i + 1) r
      else if c == 35 then lexF f (i + skipc l) (l.drop (skipc l))
      else if (tokOf l).1 = 0 then cons ⟨(tokOf l).2.1, l.take (tokOf l).2.2, i⟩ (lexF f (i + (tokOf l).2.2) (l.drop (tokOf l).2.2))
      else ([], some (i, (tokOf l).1))
def lex (i : Nat) (l : Bytes) : List Tok × Option (Nat × Nat) := lexF l.length i l

theorem wlen_le (l : Bytes) : wlen l ≤ l.length := by
  induction l with
  | nil => simp [wlen]
  | cons c l ih => unfold wlen; split <;> simp <;> omega
theorem skipc_le (l : Bytes) : skipc l ≤ l.length := by
  induction l with
  | nil => simp [skipc]
  | cons c l ih => unfold skipc; split <;> simp <;> omega
theorem sgn_le (l : Bytes) : sgn l ≤ l.length := by
  unfold sgn
  split
  · rename_i h; have := sg2_len h; rw [List.length_take] at this; omega
  · split
    · rename_i h; have := sg1_len h; rw [List.length_take] at this; omega
    · omega
theorem tok_le (l : Bytes) : (tokOf l).2.2 ≤ l.length := by
  unfold tokOf
  split
  · simp
  · rename_i c r
    have h1 := wlen_le (c :: r)
    have h2 := sgn_le (c :: r)
    (repeat' split) <;> assumption
theorem tok_pos (l : Bytes) (h : (tokOf l).1 = 0) : 0 < (tokOf l).2.2 := by
  unfold tokOf at h ⊢
  split at h
  · simp at h
  · rename_i c r
    by_cases h1 : isL c
    · have hw : 0 < wlen (c :: r) := by simp [wlen, alnum, h1]
      simp only [h1, if_true] at h ⊢
      (repeat' split) <;> assumption
    · by_cases h2 : isD c
      · have hw : 0 < wlen (c :: r) := by simp [wlen, alnum, h2]
        simp [h1, h2, hw]
      · simp only [h1, h2, if_false, Bool.false_eq_true] at h ⊢
        split at h
        · simp at h
        · omega

theorem lexF_fuel (f : Nat) : ∀ (g i : Nat) (l : Bytes), l.length ≤ f → l.length ≤ g → lexF f i l = lexF g i l := by
  induction f with
  | zero =>
    intro g i l hf hg
    have : l = [] := List.eq_nil_of_length_eq_zero (by omega)
    subst this
    cases g <;> rfl
  | succ f ih =>
    intro g i l hf hg
    cases l with
    | nil => cases g <;> rfl
    | cons c r =>
      simp only [List.length_cons] at hf hg
      cases g with
      | zero => omega
      | succ g =>
        simp only [lexF]
        by_cases h1 : white c
        · simp only [h1, if_true]
          exact ih g _ r (by omega) (by omega)
        · simp only [h1, Bool.false_eq_true, if_false]
          by_cases h2 : c == 35
          · simp only [h2, if_true]
            have hs : 0 < skipc (c :: r) := by
              have : c = 35 := by simpa using h2
              subst this
              simp [skipc]
            exact ih g _ _ (by simp; omega) (by simp; omega)
          · simp only [h2, Bool.false_eq_true, if_false]
            by_cases h3 : (tokOf (c :: r)).1 = 0
            · simp only [h3, if_true]
              have hp := tok_pos _ h3
              rw [ih g _ _ (by simp; omega) (by simp; omega)]
            · simp only [h3, if_false]

theorem lex_nil (i : Nat) : lex i [] = ([], none) := rfl
theorem lex_white (i : Nat) (c : UInt8) (r : Bytes) (h : white c = true) : lex i (c :: r) = lex (i + 1) r := by
  unfold lex
  rw [List.length_cons]
  simp only [lexF, h, if_true]
theorem lex_comment (i : Nat) (r : Bytes) : lex i (35 :: r) = lex (i + skipc (35 :: r)) ((35 :: r).drop (skipc (35 :: r))) := by
  have hs : 0 < skipc (35 :: r) := by simp [skipc]
  unfold lex
  rw [List.length_cons]
  simp only [lexF, show white 35 = false from rfl, Bool.false_eq_true, if_false, beq_self_eq_true, if_true]
  exact lexF_fuel _ _ _ _ (by simp; omega) (by simp)
theorem lex_tok (i : Nat) (c : UInt8) (r : Bytes) (h1 : white c = false) (h2 : (c == 35) = false) (h3 : (tokOf (c :: r)).1 = 0) :
    lex i (c :: r) = cons ⟨(tokOf (c :: r)).2.1, (c :: r).take (tokOf (c :: r)).2.2, i⟩ (lex (i + (tokOf (c :: r)).2.2) ((c :: r).drop (tokOf (c :: r)).2.2)) := by
  have hp := tok_pos _ h3
  unfold lex
  rw [List.length_cons]
  simp only [lexF, h1, h2, h3, Bool.false_eq_true, if_false, if_true]
  rw [lexF_fuel _ _ _ _ (by simp; omega) (Nat.le_refl _)]
theorem lex_err (i : Nat) (c : UInt8) (r : Bytes) (h1 : white c = false) (h2 : (c == 35) = false) (h3 : (tokOf (c :: r)).1 ≠ 0) :
    lex i (c :: r) = ([], some (i, (tokOf (c :: r)).1)) := by
  unfold lex
  rw [List.length_cons]
  simp only [lexF, h1, h2, h3, Bool.false_eq_true, if_false]

theorem lexF_len (f : Nat) : ∀ (i : Nat) (l : Bytes), l.length ≤ f → (lexF f i l).1.length ≤ l.length := by
  induction f with
  | zero => intro i l _; simp [lexF]
  | succ f ih =>
    intro i l hf
    cases l with
    | nil => simp [lexF]
    | cons c r =>
      simp only [List.length_cons] at hf
      simp only [lexF]
      by_cases h1 : white c
      · simp only [h1, if_true, List.length_cons]
        have := ih (i + 1) r (by omega)
        omega
      · simp only [h1, Bool.false_eq_true, if_false]
        by_cases h2 : c == 35
        · simp only [h2, if_true]
          have hs : 0 < skipc (c :: r) := by
            have : c = 35 := by simpa using h2
            subst this
            simp [skipc]
          have := ih (i + skipc (c :: r)) ((c :: r).drop (skipc (c :: r))) (by simp; omega)
          simp at this ⊢; omega
        · simp only [h2, Bool.false_eq_true, if_false]
          by_cases h3 : (tokOf (c :: r)).1 = 0
          · simp only [h3, if_true, cons, List.length_cons]
            have hp := tok_pos _ h3
            have := ih (i + (tokOf (c :: r)).2.2) ((c :: r).drop (tokOf (c :: r)).2.2) (by simp; omega)
            have hl := tok_le (c :: r)
            simp at this hl ⊢; omega
          · simp only [h3, if_false]; simp
theorem lex_len (i : Nat) (l : Bytes) : (lex i l).1.length ≤ l.length := lexF_len _ i l (Nat.le_refl _)
/-- What Lex finds in a text of any length. -/
def lexT (l : Bytes) : List Tok × Option (Nat × Nat) := if l.length ≤ 8192 then lex 0 l else ([], some (0, 5))
theorem lexT_len (l : Bytes) : (lexT l).1.length ≤ l.length := by
  unfold lexT; split
  · exact lex_len 0 l
  · simp

def isWordB (l : Bytes) : Bool := match l with | [] => false | c :: _ => isL c && l.all alnum
def isNameB (l : Bytes) : Bool := decide (l.length ≤ 12) && (isWordB l && !isRes l)
theorem wlen_full {l : Bytes} : wlen l = l.length ↔ l.all alnum = true := by
  induction l with
  | nil => simp [wlen]
  | cons c l ih =>
    by_cases hc : alnum c = true
    · simp [wlen, hc, ih]
    · simp [wlen, hc]
end Go.Proofs.Ythlhicegchkjjaa.Lx
