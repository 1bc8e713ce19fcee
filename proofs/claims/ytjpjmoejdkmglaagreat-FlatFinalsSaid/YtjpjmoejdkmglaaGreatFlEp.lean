/-
  Plain laws: terms, steps and programs that are alike.
-/
import Derived.Test.YtjpjmoejdkmglaaGreatFl
namespace Go.Proofs.YtjpjmoejdkmglaaGreat
open Go.RowKit

mutual
def eqT : Tm → Tm → Bool
  | .mk o n ks, .mk o' n' ks' => (o == o') && ((n == n') && eqTL ks ks')
def eqTL : List Tm → List Tm → Bool
  | [], [] => true
  | k :: ks, k' :: ks' => eqT k k' && eqTL ks ks'
  | [], _ :: _ => false
  | _ :: _, [] => false
end
mutual
theorem eqT_iff : ∀ (a b : Tm), eqT a b = true ↔ a = b
  | .mk o n ks, .mk o' n' ks' => by
    rw [eqT, Bool.and_eq_true, Bool.and_eq_true, beq_iff_eq, beq_iff_eq, eqTL_iff ks ks']
    constructor
    · rintro ⟨rfl, rfl, rfl⟩; rfl
    · intro h; injection h with h1 h2 h3; exact ⟨h1, h2, h3⟩
theorem eqTL_iff : ∀ (a b : List Tm), eqTL a b = true ↔ a = b
  | [], [] => by rw [eqTL]; simp
  | k :: ks, k' :: ks' => by
    rw [eqTL, Bool.and_eq_true, eqT_iff k k', eqTL_iff ks ks']
    simp
  | [], _ :: _ => by rw [eqTL]; simp
  | _ :: _, [] => by rw [eqTL]; simp
end
theorem eqTL_len {a b : List Tm} (h : a.length ≠ b.length) : eqTL a b = false := by
  cases e : eqTL a b
  · rfl
  · rw [eqTL_iff] at e; exact absurd (by rw [e]) h
theorem eqTL_get {a b : List Tm} {i : Nat} (h : i < a.length) (h' : i < b.length) (hf : eqT a[i] b[i] = false) : eqTL a b = false := by
  cases e : eqTL a b
  · rfl
  · rw [eqTL_iff] at e; subst e; rw [(eqT_iff _ _).2 rfl] at hf; cases hf
theorem eqTL_all {a b : List Tm} (hl : a.length = b.length) (h : ∀ (i : Nat) (h : i < a.length) (h' : i < b.length), eqT a[i] b[i] = true) : eqTL a b = true := by
  rw [eqTL_iff]
  exact List.ext_getElem hl fun i h1 h2 => (eqT_iff _ _).1 (h i h1 h2)
mutual
def eqS : Sp → Sp → Bool
  | .mk d c v n t th el bs, .mk d' c' v' n' t' th' el' bs' => (d == d') && ((c == c') && ((v == v') && ((n == n') && (eqT t t' && (eqSL th th' && (eqSL el el' && (bs == bs')))))))
def eqSL : List Sp → List Sp → Bool
  | [], [] => true
  | k :: ks, k' :: ks' => eqS k k' && eqSL ks ks'
  | [], _ :: _ => false
  | _ :: _, [] => false
end
mutual
theorem eqS_iff : ∀ (a b : Sp), eqS a b = true ↔ a = b
  | .mk d c v n t th el bs, .mk d' c' v' n' t' th' el' bs' => by
    rw [eqS]
    simp only [Bool.and_eq_true, beq_iff_eq, eqT_iff, eqSL_iff th th', eqSL_iff el el']
    constructor
    · rintro ⟨rfl, rfl, rfl, rfl, rfl, rfl, rfl, rfl⟩; rfl
    · intro h; injection h with h1 h2 h3 h4 h5 h6 h7 h8; exact ⟨h1, h2, h3, h4, h5, h6, h7, h8⟩
theorem eqSL_iff : ∀ (a b : List Sp), eqSL a b = true ↔ a = b
  | [], [] => by rw [eqSL]; simp
  | k :: ks, k' :: ks' => by
    rw [eqSL, Bool.and_eq_true, eqS_iff k k', eqSL_iff ks ks']
    simp
  | [], _ :: _ => by rw [eqSL]; simp
  | _ :: _, [] => by rw [eqSL]; simp
end
theorem eqSL_len {a b : List Sp} (h : a.length ≠ b.length) : eqSL a b = false := by
  cases e : eqSL a b
  · rfl
  · rw [eqSL_iff] at e; exact absurd (by rw [e]) h
theorem eqSL_get {a b : List Sp} {i : Nat} (h : i < a.length) (h' : i < b.length) (hf : eqS a[i] b[i] = false) : eqSL a b = false := by
  cases e : eqSL a b
  · rfl
  · rw [eqSL_iff] at e; subst e; rw [(eqS_iff _ _).2 rfl] at hf; cases hf
theorem eqSL_all {a b : List Sp} (hl : a.length = b.length) (h : ∀ (i : Nat) (h : i < a.length) (h' : i < b.length), eqS a[i] b[i] = true) : eqSL a b = true := by
  rw [eqSL_iff]
  exact List.ext_getElem hl fun i h1 h2 => (eqS_iff _ _).1 (h i h1 h2)
def eqV (a b : Vr) : Bool := (a.name.toList == b.name.toList) && ((a.kind == b.kind) && ((a.low == b.low) && ((a.high == b.high) && (a.init == b.init))))
def eqH (a b : Ht) : Bool := (a.name.toList == b.name.toList) && ((a.low == b.low) && ((a.high == b.high) && eqT a.t b.t))
/-- Lists whose elements are alike, one by one. -/
def eqB {α : Type} (f : α → α → Bool) (a b : List α) : Bool := decide (a.length = b.length) && (a.zip b).all fun p => f p.1 p.2
theorem eqB_len {α : Type} {f : α → α → Bool} {a b : List α} (h : a.length ≠ b.length) : eqB f a b = false := by
  rw [eqB, decide_eq_false h]; rfl
theorem eqB_get {α : Type} {f : α → α → Bool} {a b : List α} {i : Nat} {x y : α} (h : a[i]? = some x) (h' : b[i]? = some y) (hf : f x y = false) : eqB f a b = false := by
  rw [eqB]
  have : (a.zip b).all (fun p => f p.1 p.2) = false := by
    rw [List.all_eq_false]
    refine ⟨(x, y), ?_, by simpa using hf⟩
    apply List.mem_of_getElem? (i := i)
    rw [List.getElem?_zip_eq_some]
    exact ⟨h, h'⟩
  rw [this, Bool.and_false]
theorem eqB_all {α : Type} {f : α → α → Bool} {a b : List α} (hl : a.length = b.length) (h : ∀ (i : Nat) (x y : α), a[i]? = some x → b[i]? = some y → f x y = true) : eqB f a b = true := by
  rw [eqB, decide_eq_true hl, Bool.true_and, List.all_eq_true]
  rintro ⟨x, y⟩ hp
  obtain ⟨i, hi⟩ := List.mem_iff_getElem?.1 hp
  rw [List.getElem?_zip_eq_some] at hi
  exact h i x y hi.1 hi.2
mutual
def sizeO : Sp → Nat
  | .mk _ _ _ _ _ th el _ => sizeL th + sizeL el
/-- How many steps. -/
def sizeL : List Sp → Nat
  | [] => 0
  | k :: ks => 1 + sizeO k + sizeL ks
end
/-- The steps inside of steps. -/
def sizeX (ks : List Sp) : Nat := (ks.map sizeO).sum
theorem sizeL_x (ks : List Sp) : sizeL ks = ks.length + sizeX ks := by
  induction ks with
  | nil => rw [sizeL]; rfl
  | cons k ks ih => rw [sizeL, ih]; simp only [sizeX, List.map_cons, List.sum_cons, List.length_cons]; omega
mutual
theorem sizeO_cnt : ∀ (k : Sp), sizeO k + 2 ≤ k.cnt
  | .mk d c v n t th el bs => by
    have h1 := sizeL_cnt th
    have h2 := sizeL_cnt el
    have := Tm.cnt_pos t
    rw [sizeO, Sp.cnt]; omega
theorem sizeL_cnt : ∀ (ks : List Sp), sizeL ks ≤ Sp.cntL ks
  | [] => by rw [sizeL]; omega
  | k :: ks => by
    have h1 := sizeO_cnt k
    have h2 := sizeL_cnt ks
    rw [sizeL, Sp.cntL]; omega
end
theorem sizeX_drop {ks : List Sp} {i : Nat} (h : i < ks.length) : sizeX (ks.drop i) = sizeO ks[i] + sizeX (ks.drop (i + 1)) := by
  rw [List.drop_eq_getElem_cons h, sizeX, List.map_cons, List.sum_cons]; rfl
end Go.Proofs.YtjpjmoejdkmglaaGreat
