/-
  Texts of sets; no program is in sight here.
-/
import Derived.Test.YtpapbpekihgnlaaDoorBsZd
namespace Go.Proofs.YtpapbpekihgnlaaDoor
namespace Tx
open Lib (decDigits)

def dig (c : UInt8) : Bool := decide (48 ≤ c.toNat) && decide (c.toNat ≤ 57)
def val (l : List UInt8) : Nat := l.foldl (fun n c => 10 * n + (c.toNat - 48)) 0
theorem val_snoc (l : List UInt8) (c : UInt8) : val (l ++ [c]) = 10 * val l + (c.toNat - 48) := by simp [val]
theorem val_le_app (l r : List UInt8) : val l ≤ val (l ++ r) := by
  induction r generalizing l with
  | nil => simp
  | cons c r ih =>
    have h1 := ih (l ++ [c])
    rw [val_snoc, List.append_assoc] at h1
    simp only [List.cons_append, List.nil_append] at h1
    omega
theorem ofNat_toNat (d : Nat) (h : d < 10) : (UInt8.ofNat (48 + d)).toNat = 48 + d := by
  rw [UInt8.toNat_ofNat']
  omega
theorem dec_big {u : Nat} (h : ¬ u < 10) : decDigits u = decDigits (u / 10) ++ [UInt8.ofNat (48 + u % 10)] := by
  rw [decDigits, dif_neg h]
theorem dec_dig (n : Nat) : ∀ c ∈ decDigits n, dig c = true := by
  induction n using Nat.strongRecOn with
  | _ n ih =>
    intro c hc
    by_cases h : n < 10
    · rw [Lib.decDigits_one h] at hc
      obtain rfl := List.mem_singleton.1 hc
      unfold dig
      rw [ofNat_toNat n h]
      simp; omega
    · rw [dec_big h] at hc
      rcases List.mem_append.1 hc with h1 | h1
      · exact ih (n / 10) (by omega) c h1
      · obtain rfl := List.mem_singleton.1 h1
        unfold dig
        rw [ofNat_toNat _ (Nat.mod_lt _ (by decide))]
        simp; omega
theorem dec_ne (n : Nat) : decDigits n ≠ [] := by
  by_cases h : n < 10
  · rw [Lib.decDigits_one h]; simp
  · rw [dec_big h]; simp
theorem val_dec (n : Nat) : val (decDigits n) = n := by
  induction n using Nat.strongRecOn with
  | _ n ih =>
    by_cases h : n < 10
    · rw [Lib.decDigits_one h]
      show 10 * 0 + ((UInt8.ofNat (48 + n)).toNat - 48) = n
      rw [ofNat_toNat n h]; omega
    · rw [dec_big h, val_snoc, ih (n / 10) (by omega), ofNat_toNat _ (Nat.mod_lt _ (by decide))]
      omega
/-- A numeral without leading zeros. -/
def numOk (l : List UInt8) : Prop := l ≠ [] ∧ (∀ c ∈ l, dig c = true) ∧ (l.length ≤ 1 ∨ l.head? ≠ some 48)
theorem dec_ok (n : Nat) : numOk (decDigits n) := by
  refine ⟨dec_ne n, dec_dig n, ?_⟩
  by_cases h : n < 10
  · left; rw [Lib.decDigits_one h]; exact Nat.le_refl _
  · right
    induction n using Nat.strongRecOn with
    | _ n ih =>
      rw [dec_big h]
      by_cases h2 : n / 10 < 10
      · rw [Lib.decDigits_one h2]
        intro e
        have e1 := Option.some.inj e
        have e2 := ofNat_toNat (n / 10) h2
        rw [e1] at e2
        have : (48 : UInt8).toNat = 48 := rfl
        omega
      · have h3 := ih (n / 10) (by omega) h2
        cases hd : decDigits (n / 10) with
        | nil => exact absurd hd (dec_ne _)
        | cons a l => rw [hd] at h3; exact h3
theorem head_val {l : List UInt8} (h0 : l ≠ []) (hd : ∀ c ∈ l, dig c = true) (hh : l.head? ≠ some 48) : 1 ≤ val l := by
  cases l with
  | nil => exact absurd rfl h0
  | cons a l =>
    have h1 := val_le_app [a] l
    have h2 : val [a] = a.toNat - 48 := by show 10 * 0 + _ = _; omega
    have h3 := hd a (List.mem_cons_self ..)
    unfold dig at h3
    rw [Bool.and_eq_true, decide_eq_true_iff, decide_eq_true_iff] at h3
    have h4 : a.toNat ≠ 48 := fun e => hh (by
      show some a = some 48
      rw [show a = 48 from UInt8.toNat_inj.1 e])
    show 1 ≤ val ([a] ++ l)
    omega
theorem ok_dec : ∀ (k : Nat) (l : List UInt8), l.length = k → numOk l → decDigits (val l) = l := by
  intro k
  induction k with
  | zero => intro l hl h; exact absurd (List.eq_nil_of_length_eq_zero hl) h.1
  | succ k ih =>
    intro l hl h
    obtain ⟨p, c, rfl⟩ : ∃ p c, l = p ++ [c] := ⟨l.dropLast, l.getLast h.1, (List.dropLast_concat_getLast h.1).symm⟩
    have hc := h.2.1 c (by simp)
    unfold dig at hc
    rw [Bool.and_eq_true, decide_eq_true_iff, decide_eq_true_iff] at hc
    have hcc : UInt8.ofNat (48 + (c.toNat - 48)) = c := by
      rw [show 48 + (c.toNat - 48) = c.toNat by omega]
      exact UInt8.ofNat_toNat
    by_cases hp : p = []
    · subst hp
      show decDigits (10 * 0 + (c.toNat - 48)) = [c]
      rw [show 10 * 0 + (c.toNat - 48) = c.toNat - 48 by omega, Lib.decDigits_one (by omega), hcc]
    · have hpd : ∀ x ∈ p, dig x = true := fun x hx => h.2.1 x (by simp [hx])
      have hh : p.head? ≠ some 48 := by
        rcases h.2.2 with h1 | h1
        · rw [List.length_append] at h1
          have := List.length_pos_iff.2 hp
          rw [List.length_singleton] at h1; omega
        · cases p with
          | nil => exact absurd rfl hp
          | cons a q => exact h1
      have hv := head_val hp hpd hh
      have hk : decDigits (val p) = p := ih p (by rw [List.length_append] at hl; simp at hl; omega) ⟨hp, hpd, .inr hh⟩
      rw [val_snoc, dec_big (by omega), show (10 * val p + (c.toNat - 48)) / 10 = val p by omega, show (10 * val p + (c.toNat - 48)) % 10 = c.toNat - 48 by omega, hk, hcc]

/-- The members written, with a comma ahead of the first or not. -/
def more : Bool → List Nat → List UInt8
  | _, [] => []
  | b, x :: xs => (if b then [44, 32] else []) ++ (decDigits x ++ more true xs)
theorem more_app (b : Bool) (xs ys : List Nat) : more b (xs ++ ys) = more b xs ++ more (b || !xs.isEmpty) ys := by
  induction xs generalizing b with
  | nil => simp [more]
  | cons x xs ih =>
    rw [List.cons_append, more, more, ih true]
    simp
theorem parts_more (ms : List Nat) (k : Nat) (h : k ≤ ms.length) : parts ms k = more false (ms.take k) := by
  induction k with
  | zero => simp [parts, more]
  | succ k ih =>
    have hk : k < ms.length := by omega
    rw [List.take_add_one, List.getElem?_eq_getElem hk, more_app, parts, ih (by omega)]
    have hg : ms.getD k 0 = ms[k] := by rw [List.getD_eq_getElem?_getD, List.getElem?_eq_getElem hk]; rfl
    rw [hg]
    have he : (false || !(ms.take k).isEmpty) = decide (0 < k) := by
      cases k with
      | zero => simp
      | succ k => cases ms with
        | nil => simp at hk
        | cons a l => simp
    rw [he]
    by_cases h0 : 0 < k
    · simp [more, h0]
    · simp [more, h0]
theorem text_more {m : Nat} {ws : List Nat} (hv : Bs.vld m ws = true) : textR m ws = 123 :: (more false (membR m ws) ++ (125 :: 47 :: decDigits m)) := by
  unfold textR
  rw [if_pos hv, parts_more _ _ (Nat.le_refl _), List.take_length, Int.toNat_natCast]
  simp
/-- Digits come to an end at what is none. -/
theorem span_dec (n : Nat) (r : List UInt8) (h : ∀ c, r.head? = some c → dig c = false) : (decDigits n ++ r).takeWhile dig = decDigits n := by
  rw [List.takeWhile_append_of_pos (dec_dig n)]
  cases r with
  | nil => simp
  | cons c r => rw [List.takeWhile_cons_of_neg (by rw [h c rfl]; simp)]; simp
theorem dec_cancel {n n' : Nat} {r r' : List UInt8} (h : ∀ c, r.head? = some c → dig c = false) (h' : ∀ c, r'.head? = some c → dig c = false) (e : decDigits n ++ r = decDigits n' ++ r') : n = n' ∧ r = r' := by
  have e1 := congrArg (List.takeWhile dig) e
  rw [span_dec n r h, span_dec n' r' h'] at e1
  have e2 := congrArg val e1
  rw [val_dec, val_dec] at e2
  subst e2
  exact ⟨rfl, List.append_cancel_left e⟩
theorem head_more (xs : List Nat) (r : List UInt8) (hr : r.head? = some 125) : ∀ c, (more true xs ++ r).head? = some c → dig c = false := by
  intro c hc
  cases xs with
  | nil => simp only [more, List.nil_append] at hc; rw [hr] at hc; cases hc; rfl
  | cons x xs => simp [more] at hc; subst hc; rfl
theorem more_cancel : ∀ (b : Bool) (xs ys : List Nat) (r r' : List UInt8), r.head? = some 125 → r'.head? = some 125 → more b xs ++ r = more b ys ++ r' → xs = ys ∧ r = r'
  | b, [], [], r, r', _, _, e => ⟨rfl, e⟩
  | b, [], y :: ys, r, r', h, h', e => by
    exfalso
    cases b with
    | true =>
      have := congrArg List.head? e
      simp [more, h] at this
    | false =>
      have e1 : r = decDigits y ++ (more true ys ++ r') := by simpa [more] using e
      cases hd : decDigits y with
      | nil => exact dec_ne y hd
      | cons c l =>
        rw [e1, hd] at h
        have hc : c = 125 := by simpa using h
        have := dec_dig y c (by rw [hd]; simp)
        rw [hc] at this
        cases this
  | b, x :: xs, [], r, r', h, h', e => by
    exfalso
    cases b with
    | true =>
      have := congrArg List.head? e
      simp [more, h'] at this
    | false =>
      have e1 : decDigits x ++ (more true xs ++ r) = r' := by simpa [more] using e
      cases hd : decDigits x with
      | nil => exact dec_ne x hd
      | cons c l =>
        rw [← e1, hd] at h'
        have hc : c = 125 := by simpa using h'
        have := dec_dig x c (by rw [hd]; simp)
        rw [hc] at this
        cases this
  | b, x :: xs, y :: ys, r, r', h, h', e => by
    have e1 : decDigits x ++ (more true xs ++ r) = decDigits y ++ (more true ys ++ r') := by
      rw [more, more, List.append_assoc, List.append_assoc, List.append_assoc, List.append_assoc] at e
      exact List.append_cancel_left e
    obtain ⟨rfl, e2⟩ := dec_cancel (head_more xs r h) (head_more ys r' h') e1
    obtain ⟨rfl, e3⟩ := more_cancel true xs ys r r' h h' e2
    exact ⟨rfl, e3⟩
theorem text_inj {m m' : Nat} {ws ws' : List Nat} (hv : Bs.vld m ws = true) (hv' : Bs.vld m' ws' = true) (hf : Bs.fits ws) (hf' : Bs.fits ws') (e : textR m ws = textR m' ws') : m = m' ∧ ws = ws' := by
  rw [text_more hv, text_more hv'] at e
  obtain ⟨e1, e2⟩ := more_cancel false _ _ _ _ rfl rfl (List.cons.inj e).2
  have e3 := congrArg val (List.cons.inj (List.cons.inj e2).2).2
  rw [val_dec, val_dec] at e3
  subst e3
  have h1 := memb_of hv hf
  have h2 := memb_of hv' hf'
  rw [e1, h2] at h1
  exact ⟨rfl, (Prod.mk.inj (Prod.mk.inj h1).2).1.symm⟩
/-- A text of a valid set. -/
def isText (t : List UInt8) (m : Nat) (ws : List Nat) : Prop := Bs.vld m ws = true ∧ Bs.fits ws ∧ textR m ws = t
open Classical in
/-- What Parse returns. -/
noncomputable def parR (t : List UInt8) : Int × List Nat × Int :=
  if h : ∃ p : Nat × List Nat, isText t p.1 p.2 then ((Classical.choose h).1, (Classical.choose h).2, 0) else (0, [], 6)
theorem parR_ok {t : List UInt8} {m : Nat} {ws : List Nat} (h : isText t m ws) : parR t = ((m : Int), ws, 0) := by
  have hh : ∃ p : Nat × List Nat, isText t p.1 p.2 := ⟨(m, ws), h⟩
  unfold parR
  rw [dif_pos hh]
  have hc := Classical.choose_spec hh
  obtain ⟨e1, e2⟩ := text_inj hc.1 h.1 hc.2.1 h.2.1 (hc.2.2.trans h.2.2.symm)
  rw [e1, e2]
theorem parR_bad {t : List UInt8} (h : ∀ m ws, ¬ isText t m ws) : parR t = (0, [], 6) := by
  unfold parR
  rw [dif_neg (by rintro ⟨p, hp⟩; exact h _ _ hp)]
theorem parR_cases (t : List UInt8) : (∃ m ws, isText t m ws ∧ parR t = ((m : Int), ws, 0)) ∨ ((∀ m ws, ¬ isText t m ws) ∧ parR t = (0, [], 6)) := by
  by_cases h : ∃ m ws, isText t m ws
  · obtain ⟨m, ws, h⟩ := h
    exact .inl ⟨m, ws, h, parR_ok h⟩
  · have h' : ∀ m ws, ¬ isText t m ws := fun m ws hh => h ⟨m, ws, hh⟩
    exact .inr ⟨h', parR_bad h'⟩
theorem parR_len (t : List UInt8) : (parR t).2.1.length ≤ 64 := by
  rcases parR_cases t with ⟨m, ws, h, e⟩ | ⟨_, e⟩
  · rw [e]
    have h1 := Bs.vld_iff.1 h.1
    show ws.length ≤ 64
    omega
  · rw [e]; simp
end Tx
end Go.Proofs.YtpapbpekihgnlaaDoor
