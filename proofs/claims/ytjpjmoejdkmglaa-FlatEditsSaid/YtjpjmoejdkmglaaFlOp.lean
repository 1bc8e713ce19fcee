/-
  Plain laws: the order of observations.
-/
import Derived.Test.YtjpjmoejdkmglaaFl
namespace Go.Proofs.Ytjpjmoejdkmglaa
open Go.RowKit

def cmpZ (a b : Int) : Int := if a < b then -1 else if b < a then 1 else 0
def cmpL : List Int → List Int → Int
  | [], [] => 0
  | [], _ :: _ => -1
  | _ :: _, [] => 1
  | a :: as, b :: bs => if cmpZ a b ≠ 0 then cmpZ a b else cmpL as bs
def cmpO (a b : List Int) (s t : Int) : Int := if cmpL a b ≠ 0 then cmpL a b else cmpZ s t
theorem cmpZ_cases (a b : Int) : (cmpZ a b = -1 ∧ a < b) ∨ (cmpZ a b = 0 ∧ a = b) ∨ (cmpZ a b = 1 ∧ b < a) := by
  unfold cmpZ
  rcases Int.lt_trichotomy a b with h | h | h
  · rw [if_pos h]; exact .inl ⟨rfl, h⟩
  · rw [if_neg (by omega), if_neg (by omega)]; exact .inr (.inl ⟨rfl, h⟩)
  · rw [if_neg (by omega), if_pos h]; exact .inr (.inr ⟨rfl, h⟩)
theorem cmpZ_neg (a b : Int) : cmpZ a b = -cmpZ b a := by
  have h1 := cmpZ_cases a b
  have h2 := cmpZ_cases b a
  omega
theorem cmpL_neg : ∀ (a b : List Int), cmpL a b = -cmpL b a
  | [], [] => by rw [cmpL]; rfl
  | [], _ :: _ => by rw [cmpL, cmpL]
  | _ :: _, [] => by rw [cmpL, cmpL]; rfl
  | a :: as, b :: bs => by
    rw [cmpL, cmpL]
    have h1 := cmpZ_neg a b
    have h2 := cmpL_neg as bs
    by_cases h : cmpZ a b = 0
    · have hb : cmpZ b a = 0 := by omega
      rw [if_neg (by simpa using h), if_neg (by simpa using hb)]
      exact h2
    · have hb : cmpZ b a ≠ 0 := by omega
      rw [if_pos h, if_pos hb]
      exact h1
theorem cmpL_in : ∀ (a b : List Int), cmpL a b = -1 ∨ cmpL a b = 0 ∨ cmpL a b = 1
  | [], [] => by rw [cmpL]; simp
  | [], _ :: _ => by rw [cmpL]; simp
  | _ :: _, [] => by rw [cmpL]; simp
  | a :: as, b :: bs => by
    rw [cmpL]
    have h1 := cmpZ_cases a b
    have h2 := cmpL_in as bs
    split <;> omega
theorem cmpL_eq : ∀ (a b : List Int), cmpL a b = 0 ↔ a = b
  | [], [] => by rw [cmpL]; simp
  | [], _ :: _ => by rw [cmpL]; simp
  | _ :: _, [] => by rw [cmpL]; simp
  | a :: as, b :: bs => by
    rw [cmpL, List.cons.injEq, ← cmpL_eq as bs]
    have h1 := cmpZ_cases a b
    by_cases h : cmpZ a b = 0
    · rw [if_neg (by simpa using h)]
      have : a = b := by omega
      simp [this]
    · rw [if_pos h]
      constructor
      · intro h2; exact absurd h2 h
      · rintro ⟨h2, _⟩; omega
theorem cmpL_0 {a b : Int} (as bs : List Int) (h : cmpZ a b = 0) : cmpL (a :: as) (b :: bs) = cmpL as bs := by rw [cmpL, if_neg (by simpa using h)]
theorem cmpL_1 {a b : Int} (as bs : List Int) (h : cmpZ a b ≠ 0) : cmpL (a :: as) (b :: bs) = cmpZ a b := by rw [cmpL, if_pos h]
theorem cmpL_trans : ∀ (a b c : List Int), cmpL a b ≤ 0 → cmpL b c ≤ 0 → cmpL a c ≤ 0 ∧ (cmpL a c = 0 → cmpL a b = 0 ∧ cmpL b c = 0)
  | [], [], [], _, _ => by rw [cmpL]; simp
  | [], [], _ :: _, _, _ => by rw [cmpL, cmpL]; simp
  | [], _ :: _, [], _, h => by rw [cmpL] at h; omega
  | [], _ :: _, _ :: _, _, _ => by simp only [cmpL]; simp
  | _ :: _, [], _, h, _ => by rw [cmpL] at h; omega
  | _ :: _, _ :: _, [], _, h => by rw [cmpL] at h; omega
  | a :: as, b :: bs, c :: cs, h1, h2 => by
    have x := cmpZ_cases a b
    have y := cmpZ_cases b c
    have z := cmpZ_cases a c
    by_cases e1 : cmpZ a b = 0
    · rw [cmpL_0 _ _ e1] at h1 ⊢
      by_cases e2 : cmpZ b c = 0
      · rw [cmpL_0 _ _ e2] at h2 ⊢
        rw [cmpL_0 _ _ (show cmpZ a c = 0 by omega)]
        exact cmpL_trans as bs cs h1 h2
      · rw [cmpL_1 _ _ e2] at h2 ⊢
        rw [cmpL_1 _ _ (show cmpZ a c ≠ 0 by omega)]
        omega
    · rw [cmpL_1 _ _ e1] at h1 ⊢
      have e3 : cmpZ a c = -1 := by
        by_cases e2 : cmpZ b c = 0
        · omega
        · rw [cmpL_1 _ _ e2] at h2; omega
      rw [cmpL_1 _ _ (show cmpZ a c ≠ 0 by omega)]
      omega
theorem cmpO_neg (a b : List Int) (s t : Int) : cmpO a b s t = -cmpO b a t s := by
  unfold cmpO
  have h := cmpL_neg a b
  have h2 := cmpZ_neg s t
  by_cases e : cmpL a b = 0
  · rw [if_neg (by simpa using e), if_neg (by simp; omega)]; exact h2
  · rw [if_pos e, if_pos (by omega)]; exact h
theorem cmpO_eq (a b : List Int) (s t : Int) : cmpO a b s t = 0 ↔ s = t ∧ a = b := by
  unfold cmpO
  have h := cmpL_eq a b
  have h2 := cmpZ_cases s t
  by_cases e : cmpL a b = 0
  · rw [if_neg (by simpa using e)]
    have := h.1 e
    constructor
    · intro h3; exact ⟨by omega, this⟩
    · rintro ⟨h3, _⟩; omega
  · rw [if_pos e]
    constructor
    · intro h3; exact absurd h3 e
    · rintro ⟨_, h3⟩; exact absurd (h.2 h3) e
theorem cmpO_trans (a b c : List Int) (s t u : Int) (h1 : cmpO a b s t ≤ 0) (h2 : cmpO b c t u ≤ 0) : cmpO a c s u ≤ 0 := by
  unfold cmpO at h1 h2 ⊢
  have x := cmpZ_cases s t
  have y := cmpZ_cases t u
  have z := cmpZ_cases s u
  have hab : cmpL a b ≤ 0 := by
    by_cases e : cmpL a b = 0
    · omega
    · rw [if_pos e] at h1; exact h1
  have hbc : cmpL b c ≤ 0 := by
    by_cases e : cmpL b c = 0
    · omega
    · rw [if_pos e] at h2; exact h2
  obtain ⟨k1, k2⟩ := cmpL_trans a b c hab hbc
  by_cases e : cmpL a c = 0
  · obtain ⟨m1, m2⟩ := k2 e
    rw [if_neg (by simpa using m1)] at h1
    rw [if_neg (by simpa using m2)] at h2
    rw [if_neg (by simpa using e)]
    omega
  · rw [if_pos e]; exact k1
theorem cmpO_trans' (a b c : List Int) (s t u : Int) (h1 : 0 ≤ cmpO a b s t) (h2 : 0 ≤ cmpO b c t u) : 0 ≤ cmpO a c s u := by
  have k1 := cmpO_neg a b s t
  have k2 := cmpO_neg b c t u
  have k3 := cmpO_neg a c s u
  have := cmpO_trans c b a u t s (by omega) (by omega)
  omega
/-- The order, element by element. -/
theorem cmpL_at : ∀ (a b : List Int) (i : Nat), i < a.length → i < b.length → (∀ j, j < i → a.getD j 0 = b.getD j 0) → a.getD i 0 ≠ b.getD i 0 → cmpL a b = cmpZ (a.getD i 0) (b.getD i 0)
  | [], _, _, h, _, _, _ => by simp at h
  | _ :: _, [], _, _, h, _, _ => by simp at h
  | a :: as, b :: bs, 0, _, _, _, hne => by
    rw [cmpL, if_pos]
    · rfl
    · have := cmpZ_cases a b
      simp at hne
      omega
  | a :: as, b :: bs, i + 1, h1, h2, he, hne => by
    have h0 : a = b := by simpa using he 0 (by omega)
    subst h0
    have hz : cmpZ a a = 0 := by have := cmpZ_cases a a; omega
    rw [cmpL, if_neg (by simpa using hz)]
    simp only [List.getD_cons_succ] at hne ⊢
    exact cmpL_at as bs i (by simpa using h1) (by simpa using h2) (fun j hj => by simpa using he (j + 1) (by omega)) hne
theorem cmpL_pre : ∀ (a b : List Int), (∀ j, j < a.length → j < b.length → a.getD j 0 = b.getD j 0) → cmpL a b = cmpZ a.length b.length
  | [], [], _ => by simp [cmpL, cmpZ]
  | [], b :: bs, _ => by
    rw [cmpL]
    have := cmpZ_cases (([] : List Int).length) ((b :: bs).length)
    simp only [List.length_nil, List.length_cons] at this ⊢
    omega
  | a :: as, [], _ => by
    rw [cmpL]
    have := cmpZ_cases ((a :: as).length) (([] : List Int).length)
    simp only [List.length_nil, List.length_cons] at this ⊢
    omega
  | a :: as, b :: bs, h => by
    have h0 : a = b := by simpa using h 0 (by simp) (by simp)
    subst h0
    have hz : cmpZ a a = 0 := by have := cmpZ_cases a a; omega
    rw [cmpL_0 _ _ hz, cmpL_pre as bs (fun j h1 h2 => by simpa using h (j + 1) (by simpa using h1) (by simpa using h2))]
    have h1 := cmpZ_cases as.length bs.length
    have h2 := cmpZ_cases ((a :: as).length) ((a :: bs).length)
    simp only [List.length_cons] at h2 ⊢
    omega
end Go.Proofs.Ytjpjmoejdkmglaa
