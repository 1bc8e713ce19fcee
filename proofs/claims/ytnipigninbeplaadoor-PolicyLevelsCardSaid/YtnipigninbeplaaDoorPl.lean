/-
  The closure is an order; the first and the last level: plain laws; no program is in sight here.
-/
import Derived.Test.YtnipigninbeplaaDoorPA
namespace Go.Proofs.YtnipigninbeplaaDoor
open Go.RowKit

theorem mget_put {n : Nat} {M : Mx} (h : Sq n M) {i j : Nat} (hi : i < n) (hj : j < n) (a b : Nat) : mget (mput M i j) a b = true ↔ mget M a b = true ∨ (a = i ∧ b = j) := by
  have hl : i < M.length := by rw [h.1]; exact hi
  unfold mput mget
  by_cases ha : i = a
  · subst ha
    rw [List.getD_eq_getElem?_getD (l := M.set i _), List.getElem?_set_self hl, Option.getD_some]
    have hrl := h.2 i hi
    by_cases hb : j = b
    · subst hb
      rw [List.getD_eq_getElem?_getD, List.getElem?_set_self (by omega)]
      simp
    · rw [List.getD_eq_getElem?_getD, List.getElem?_set_ne hb, ← List.getD_eq_getElem?_getD]
      constructor
      · exact fun h => .inl h
      · rintro (h | h)
        · exact h
        · exact absurd h.2.symm hb
  · rw [List.getD_eq_getElem?_getD (l := M.set i _), List.getElem?_set_ne ha, ← List.getD_eq_getElem?_getD]
    constructor
    · exact fun h => .inl h
    · rintro (h | h)
      · exact h
      · exact absurd h.1.symm ha
theorem mget_stp {n : Nat} {M : Mx} (h : Sq n M) {k i j : Nat} (hi : i < n) (hj : j < n) (a b : Nat) : mget (stpM M k i j) a b = true ↔ mget M a b = true ∨ (a = i ∧ b = j ∧ mget M i k = true ∧ mget M k j = true) := by
  unfold stpM
  by_cases hc : (mget M i k && mget M k j) = true
  · rw [if_pos hc, mget_put h hi hj]
    rw [Bool.and_eq_true] at hc
    constructor
    · rintro (h | h)
      · exact .inl h
      · exact .inr ⟨h.1, h.2, hc⟩
    · rintro (h | h)
      · exact .inl h
      · exact .inr ⟨h.1, h.2.1⟩
  · rw [if_neg hc]
    rw [Bool.and_eq_true] at hc
    constructor
    · exact fun h => .inl h
    · rintro (h | h)
      · exact h
      · exact absurd h.2.2 hc
theorem mget_row {n k i : Nat} (hk : k < n) (hi : i < n) : ∀ (m : Nat) (M : Mx), m ≤ n → Sq n M → ∀ a b, a < n → b < n → (mget (rowM n k i m M) a b = true ↔ mget M a b = true ∨ (a = i ∧ n - m ≤ b ∧ mget M i k = true ∧ mget M k b = true))
  | 0, M, _, _, a, b, _, hb => by
    unfold rowM
    constructor
    · exact fun h => .inl h
    · rintro (h | h)
      · exact h
      · omega
  | m + 1, M, hm, hs, a, b, ha, hb => by
    have hj : n - (m + 1) < n := by omega
    have ih := mget_row hk hi m (stpM M k i (n - (m + 1))) (by omega) (hs.step _ _ _) a b ha hb
    have e := fun x y => mget_stp hs (k := k) hi hj x y
    have e1 : mget (stpM M k i (n - (m + 1))) i k = true ↔ mget M i k = true := by
      rw [e]
      constructor
      · rintro (h | h)
        · exact h
        · exact h.2.2.1
      · exact fun h => .inl h
    have e2 : mget (stpM M k i (n - (m + 1))) k b = true ↔ mget M k b = true := by
      rw [e]
      constructor
      · rintro (h | h)
        · exact h
        · rw [h.2.1]; exact h.2.2.2
      · exact fun h => .inl h
    unfold rowM
    rw [ih, e1, e2, e]
    constructor
    · rintro ((h | h) | h)
      · exact .inl h
      · exact .inr ⟨h.1, by omega, h.2.2.1, by rw [h.2.1]; exact h.2.2.2⟩
      · exact .inr ⟨h.1, by omega, h.2.2⟩
    · rintro (h | h)
      · exact .inl (.inl h)
      · by_cases hb2 : b = n - (m + 1)
        · exact .inl (.inr ⟨h.1, hb2, h.2.2.1, by rw [← hb2]; exact h.2.2.2⟩)
        · exact .inr ⟨h.1, by omega, h.2.2⟩
theorem mget_plane {n k : Nat} (hk : k < n) : ∀ (m : Nat) (M : Mx), m ≤ n → Sq n M → ∀ a b, a < n → b < n → (mget (planeM n k m M) a b = true ↔ mget M a b = true ∨ (n - m ≤ a ∧ mget M a k = true ∧ mget M k b = true))
  | 0, M, _, _, a, b, ha, _ => by
    unfold planeM
    constructor
    · exact fun h => .inl h
    · rintro (h | h)
      · exact h
      · omega
  | m + 1, M, hm, hs, a, b, ha, hb => by
    have hi : n - (m + 1) < n := by omega
    have ih := mget_plane hk m (rowM n k (n - (m + 1)) n M) (by omega) (rowM_sq n M hs) a b ha hb
    have e := fun x y (hx : x < n) (hy : y < n) => mget_row hk hi n M (Nat.le_refl _) hs x y hx hy
    have e1 : mget (rowM n k (n - (m + 1)) n M) a k = true ↔ mget M a k = true := by
      rw [e a k ha hk]
      constructor
      · rintro (h | h)
        · exact h
        · rw [h.1]; exact h.2.2.1
      · exact fun h => .inl h
    have e2 : mget (rowM n k (n - (m + 1)) n M) k b = true ↔ mget M k b = true := by
      rw [e k b hk hb]
      constructor
      · rintro (h | h)
        · exact h
        · exact h.2.2.2
      · exact fun h => .inl h
    unfold planeM
    rw [ih, e1, e2, e a b ha hb]
    constructor
    · rintro ((h | h) | h)
      · exact .inl h
      · exact .inr ⟨by omega, by rw [h.1]; exact h.2.2.1, h.2.2.2⟩
      · exact .inr ⟨by omega, h.2⟩
    · rintro (h | h)
      · exact .inl (.inl h)
      · by_cases ha2 : a = n - (m + 1)
        · exact .inl (.inr ⟨ha2, by omega, by rw [← ha2]; exact h.2.1, h.2.2⟩)
        · exact .inr ⟨by omega, h.2⟩
/-- By way of the first k levels. -/
def Way (n k : Nat) (M : Mx) : Prop := ∀ m i j, m < k → i < n → j < n → mget M i m = true → mget M m j = true → mget M i j = true
theorem way_plane {n k : Nat} {M : Mx} (hk : k < n) (hs : Sq n M) (h : Way n k M) : Way n (k + 1) (planeM n k n M) := by
  have e := fun x y (hx : x < n) (hy : y < n) => mget_plane hk n M (Nat.le_refl _) hs x y hx hy
  intro m i j hm hi hj h1 h2
  have hmn : m < n := by omega
  rw [e i m hi hmn] at h1
  rw [e m j hmn hj] at h2
  rw [e i j hi hj]
  by_cases hmk : m = k
  · subst hmk
    have h1' : mget M i m = true := by
      rcases h1 with h | h
      · exact h
      · exact h.2.1
    have h2' : mget M m j = true := by
      rcases h2 with h | h
      · exact h
      · exact h.2.2
    exact .inr ⟨by omega, h1', h2'⟩
  · have hlt : m < k := by omega
    rcases h1 with h1 | ⟨_, h1, h1b⟩
    · rcases h2 with h2 | ⟨_, h2, h2b⟩
      · exact .inl (h m i j hlt hi hj h1 h2)
      · exact .inr ⟨by omega, h m i k hlt hi hk h1 h2, h2b⟩
    · rcases h2 with h2 | ⟨_, h2, h2b⟩
      · exact .inr ⟨by omega, h1, h m k j hlt hk hj h1b h2⟩
      · exact .inr ⟨by omega, h1, h2b⟩
theorem way_clos {n : Nat} : ∀ (m : Nat) (M : Mx), m ≤ n → Sq n M → Way n (n - m) M → Way n n (closM n m M)
  | 0, M, _, _, h => h
  | m + 1, M, hm, hs, h => by
    unfold closM
    refine way_clos m _ (by omega) (planeM_sq n M hs) ?_
    have := way_plane (by omega : n - (m + 1) < n) hs h
    rw [show n - (m + 1) + 1 = n - m by omega] at this
    exact this
theorem clos_mono {n : Nat} : ∀ (m : Nat) (M : Mx), m ≤ n → Sq n M → ∀ a b, a < n → b < n → mget M a b = true → mget (closM n m M) a b = true
  | 0, _, _, _, _, _, _, _, h => h
  | m + 1, M, hm, hs, a, b, ha, hb, h => by
    unfold closM
    exact clos_mono m _ (by omega) (planeM_sq n M hs) a b ha hb ((mget_plane (by omega) n M (Nat.le_refl _) hs a b ha hb).2 (.inl h))
theorem pair_mono {n : Nat} : ∀ (l : List (Nat × Nat)) (M : Mx), (∀ p ∈ l, p.1 < n ∧ p.2 < n) → Sq n M → ∀ a b, mget M a b = true → mget (pairM M l) a b = true
  | [], _, _, _, _, _, h => h
  | p :: l, M, hp, hs, a, b, h => by
    unfold pairM
    have h1 := hp p (by simp)
    exact pair_mono l _ (fun q hq => hp q (by simp [hq])) (hs.put _ _) a b ((mget_put hs h1.1 h1.2 a b).2 (.inl h))
theorem unit_get {n a : Nat} (h : a < n) : mget (unitM n) a a = true := by
  unfold mget unitM
  simp [h]
/-- An order on the first n numbers. -/
structure Ord (n : Nat) (f : Nat → Nat → Bool) : Prop where
  rf : ∀ a, a < n → f a a = true
  tr : ∀ a b c, a < n → b < n → c < n → f a b = true → f b c = true → f a c = true
  an : ∀ a b, a < n → b < n → f a b = true → f b a = true → a = b
theorem le_ord {n : Nat} {l : List (Nat × Nat)} (hl : ∀ p ∈ l, p.1 < n ∧ p.2 < n) (hk : ¬ knotM n (leM n l)) : Ord n (upM (leM n l)) := by
  refine ⟨fun a ha => ?_, fun a b c ha hb hc h1 h2 => ?_, fun a b ha hb h1 h2 => ?_⟩
  · exact clos_mono n _ (Nat.le_refl _) (pairM_sq l _ (unitM_sq n)) a a ha ha (pair_mono l _ hl (unitM_sq n) a a (unit_get ha))
  · exact way_clos n _ (Nat.le_refl _) (pairM_sq l _ (unitM_sq n)) (fun m _ _ h => absurd h (by omega)) b a c hb ha hc h1 h2
  · refine Classical.byContradiction fun hab => hk ?_
    rw [knotM_iff]
    exact ⟨a, b, ha, hb, hab, h1, h2⟩
theorem Ord.flip {n : Nat} {M : Mx} (h : Ord n (upM M)) : Ord n (dnM M) :=
  ⟨h.rf, fun a b c ha hb hc h1 h2 => h.tr c b a hc hb ha h2 h1, fun a b ha hb h1 h2 => h.an a b ha hb h2 h1⟩
theorem bdF_is {n : Nat} {f : Nat → Nat → Bool} {a b : Nat} : ∀ (m c : Nat), bdF n f a b m = some c → isBd n f a b c = true
  | 0, _, h => by cases h
  | m + 1, c, h => by
    unfold bdF at h
    split at h
    · rename_i h1
      injection h with h
      subst h
      exact h1
    · exact bdF_is m c h
theorem bdM_is {n : Nat} {f : Nat → Nat → Bool} {a b c : Nat} (h : bdM n f a b = some c) : f a c = true ∧ f b c = true ∧ ∀ d, d < n → f a d = true → f b d = true → f c d = true := by
  have := bdF_is n c h
  unfold isBd at this
  simp only [Bool.and_eq_true, decide_eq_true_eq] at this
  exact ⟨this.1.1, this.1.2, this.2⟩
/-- The bound of the first k numbers, step by step. -/
def bndK (n : Nat) (f : Nat → Nat → Bool) : Nat → Nat
  | 0 => 0
  | k + 1 => (bdM n f (bndK n f k) k).getD 0
/-- The same by comparison. -/
def lastK (f : Nat → Nat → Bool) : Nat → Nat
  | 0 => 0
  | k + 1 => if f (lastK f k) k then k else lastK f k
theorem lastK_lt {n : Nat} {f : Nat → Nat → Bool} (hn : 0 < n) : ∀ k, k ≤ n → lastK f k < n
  | 0, _ => hn
  | k + 1, hk => by
    unfold lastK
    split
    · omega
    · exact lastK_lt hn k (by omega)
theorem bndK_up {n : Nat} {f : Nat → Nat → Bool} (ho : Ord n f) (hb : ∀ a b, a < n → b < n → (bdM n f a b).isSome = true) (hn : 0 < n) : ∀ k, k ≤ n → bndK n f k < n ∧ ∀ j, j < k → f j (bndK n f k) = true
  | 0, _ => ⟨hn, fun j hj => absurd hj (by omega)⟩
  | k + 1, hk => by
    obtain ⟨h1, h2⟩ := bndK_up ho hb hn k (by omega)
    obtain ⟨c, hc⟩ := Option.isSome_iff_exists.1 (hb (bndK n f k) k h1 (by omega))
    have e : bndK n f (k + 1) = c := by unfold bndK; rw [hc]; rfl
    have hcl := bdM_lt hc
    obtain ⟨g1, g2, _⟩ := bdM_is hc
    rw [e]
    refine ⟨hcl, fun j hj => ?_⟩
    by_cases hjk : j = k
    · rw [hjk]; exact g2
    · exact ho.tr j (bndK n f k) c (by omega) h1 hcl (h2 j (by omega)) g1
/-- Both ways end at the same number. -/
theorem bnd_last {n : Nat} {f : Nat → Nat → Bool} (ho : Ord n f) (hb : ∀ a b, a < n → b < n → (bdM n f a b).isSome = true) (hn : 0 < n) : bndK n f n = lastK f n := by
  obtain ⟨h1, h2⟩ := bndK_up ho hb hn n (Nat.le_refl _)
  obtain ⟨m, hm⟩ : ∃ m, bndK n f n = m := ⟨_, rfl⟩
  rw [hm] at h1 h2 ⊢
  have key : ∀ k, k ≤ n → m < k → lastK f k = m := by
    intro k
    induction k with
    | zero => intro _ h; omega
    | succ k ih =>
      intro hk hmk
      unfold lastK
      by_cases e : m = k
      · have hl := lastK_lt (f := f) hn k (by omega)
        rw [e] at h2 ⊢
        rw [if_pos (h2 _ hl)]
      · have hi := ih (by omega) (by omega)
        rw [hi]
        by_cases hf : f m k = true
        · exact absurd (ho.an m k h1 (by omega) hf (h2 k (by omega))) e
        · rw [if_neg hf]
  exact (key n (Nat.le_refl _) h1).symm
end Go.Proofs.YtnipigninbeplaaDoor
