/-
  Plain laws: the codes of steps; their upper bounds.
-/
import Derived.Test.YtjpjmoejdkmglaaGreatFlV
namespace Go.Proofs.YtjpjmoejdkmglaaGreat
open Go.RowKit

mutual
/-- The code of a step; last: it is the last one of the body. -/
def stepC (vs : List Vr) (nh : Nat) (last : Bool) : Sp → Int
  | .mk d x1 v n (.mk o tn tk) th el bs =>
    if shapedB vs nh last d v n (zeroB o tn tk.length) th.length el.length bs = false then 1
    else if numberedB d x1 n bs = false then 3
    else if termC vs false (.mk o tn tk) ≠ 0 then termC vs false (.mk o tn tk)
    else if stepsC vs nh false th ≠ 0 then stepsC vs nh false th
    else stepsC vs nh false el
/-- The first code of steps. -/
def stepsC (vs : List Vr) (nh : Nat) (top : Bool) : List Sp → Int
  | [] => 0
  | k :: ks => if stepC vs nh (top && ks.isEmpty) k ≠ 0 then stepC vs nh (top && ks.isEmpty) k else stepsC vs nh top ks
end
/-- What the inner loop has yet to look at. -/
def innerC (a b rest : Int) : Nat → Int
  | 0 => if a ≠ 0 then a else if b ≠ 0 then b else rest
  | 1 => if b ≠ 0 then b else rest
  | _ => rest

/-- Numbers of steps that are in their ranges. -/
def numN (d c n : Int) : Prop := 0 ≤ c ∧ c ≤ 67108864 ∧ (d = 4 → 0 ≤ n ∧ n ≤ 4096)
mutual
def numO : Sp → Prop
  | .mk d c _ n _ th el _ => numN d c n ∧ numL th ∧ numL el
def numL : List Sp → Prop
  | [] => True
  | k :: ks => numO k ∧ numL ks
end
def U3 := Int × Int × Int
def upN (d c n : Int) (a b : Int × Int × Int) : Int × Int × Int :=
  if d = 1 then (1, 1, c) else if d = 3 then (1 + max a.1 b.1, max a.2.1 b.2.1, c + max a.2.2 b.2.2) else if d = 4 then (1 + n * (1 + a.1), n * a.2.1, n * (c + a.2.2)) else (1, 0, c)
def upA (s t : Int × Int × Int) : Int × Int × Int := (min (s.1 + t.1) 1099511627776, min (s.2.1 + t.2.1) 1099511627776, min (s.2.2 + t.2.2) 1099511627776)
mutual
def upO : Sp → Int × Int × Int
  | .mk d c _ n _ th el _ => upN d c n (upL th (0, 0, 0)) (upL el (0, 0, 0))
/-- The upper bounds of steps, cut at 2^40. -/
def upL : List Sp → Int × Int × Int → Int × Int × Int
  | [], s => s
  | k :: ks, s => upL ks (upA s (upO k))
end
def inU (s : Int × Int × Int) : Prop := (0 ≤ s.1 ∧ s.1 ≤ 1099511627776) ∧ (0 ≤ s.2.1 ∧ s.2.1 ≤ 1099511627776) ∧ (0 ≤ s.2.2 ∧ s.2.2 ≤ 1099511627776)
def inV (s : Int × Int × Int) : Prop := (0 ≤ s.1 ∧ s.1 ≤ 9007199254740992) ∧ (0 ≤ s.2.1 ∧ s.2.1 ≤ 9007199254740992) ∧ (0 ≤ s.2.2 ∧ s.2.2 ≤ 9007199254740992)
theorem mul_cut {n x : Int} (h0 : 0 ≤ n) (h1 : n ≤ 4096) (h2 : 0 ≤ x) (h3 : x ≤ 2000000000000) : 0 ≤ n * x ∧ n * x ≤ 8192000000000000 := by
  refine ⟨Int.mul_nonneg h0 h2, ?_⟩
  have := Int.mul_le_mul h1 h3 h2 (by omega)
  omega
theorem upN_in {d c n : Int} {a b : Int × Int × Int} (hn : numN d c n) (ha : inU a) (hb : inU b) : inV (upN d c n a b) := by
  obtain ⟨h0, h1, h2⟩ := hn
  obtain ⟨a1, a2, a3⟩ := ha
  obtain ⟨b1, b2, b3⟩ := hb
  unfold upN inV
  split
  · simp only; omega
  split
  · simp only; omega
  split
  · rename_i h4
    have k1 := mul_cut (h2 h4).1 (h2 h4).2 (x := 1 + a.1) (by omega) (by omega)
    have k2 := mul_cut (h2 h4).1 (h2 h4).2 (x := a.2.1) (by omega) (by omega)
    have k3 := mul_cut (h2 h4).1 (h2 h4).2 (x := c + a.2.2) (by omega) (by omega)
    simp only; omega
  · simp only; omega
theorem upA_in {s t : Int × Int × Int} (hs : inU s) (ht : inV t) : inU (upA s t) := by
  obtain ⟨a1, a2, a3⟩ := hs
  obtain ⟨b1, b2, b3⟩ := ht
  unfold upA inU
  simp only; omega
mutual
theorem upL_in : ∀ (ks : List Sp) (s : Int × Int × Int), numL ks → inU s → inU (upL ks s)
  | [], s, _, h => by rw [upL]; exact h
  | k :: ks, s, hn, h => by
    rw [upL]
    rw [numL] at hn
    exact upL_in ks _ hn.2 (upA_in h (upO_in k hn.1))
theorem upO_in : ∀ (k : Sp), numO k → inV (upO k)
  | .mk d c v n t th el bs, h => by
    rw [upO]
    rw [numO] at h
    have h0 : inU (0, 0, 0) := by unfold inU; simp
    exact upN_in h.1 (upL_in th _ h.2.1 h0) (upL_in el _ h.2.2 h0)
end
theorem numL_get : ∀ (ks : List Sp) (i : Nat) (h : i < ks.length), numL ks → numO ks[i]
  | [], _, h, _ => by simp at h
  | k :: ks, 0, _, h => by rw [numL] at h; exact h.1
  | k :: ks, i + 1, h, hn => by rw [numL] at hn; exact numL_get ks i (by simpa using h) hn.2
theorem numbered_N {d c n : Int} {bs : List Int} (h : numberedB d c n bs = true) : numN d c n := by
  unfold numberedB at h
  simp only [Bool.and_eq_true, decide_eq_true_eq, Bool.or_eq_true, bne_iff_ne] at h
  obtain ⟨h1, h2, h3, _⟩ := h
  refine ⟨h1, ?_, ?_⟩
  · split at h2 <;> omega
  · intro h4
    rcases h3 with h3 | h3
    · exact absurd h4 h3
    · exact h3
mutual
theorem stepC_num : ∀ (k : Sp) (vs : List Vr) (nh : Nat) (last : Bool), stepC vs nh last k = 0 → numO k
  | .mk d x1 v n (.mk o tn tk) th el bs, vs, nh, last, h => by
    rw [stepC] at h
    rw [numO]
    by_cases e1 : shapedB vs nh last d v n (zeroB o tn tk.length) th.length el.length bs = false
    · rw [if_pos e1] at h; exact absurd h (by decide)
    rw [if_neg e1] at h
    by_cases e2 : numberedB d x1 n bs = false
    · rw [if_pos e2] at h; exact absurd h (by decide)
    rw [if_neg e2] at h
    by_cases e3 : termC vs false (.mk o tn tk) = 0
    · rw [if_neg (by simpa using e3)] at h
      by_cases e4 : stepsC vs nh false th = 0
      · rw [if_neg (by simpa using e4)] at h
        exact ⟨numbered_N (by simpa using e2), stepsC_num th vs nh false e4, stepsC_num el vs nh false h⟩
      · rw [if_pos e4] at h; exact absurd h e4
    · rw [if_pos e3] at h; exact absurd h e3
theorem stepsC_num : ∀ (ks : List Sp) (vs : List Vr) (nh : Nat) (top : Bool), stepsC vs nh top ks = 0 → numL ks
  | [], _, _, _, _ => by rw [numL]; trivial
  | k :: ks, vs, nh, top, h => by
    rw [stepsC] at h
    rw [numL]
    by_cases e : stepC vs nh (top && ks.isEmpty) k = 0
    · rw [if_neg (by simpa using e)] at h
      exact ⟨stepC_num k vs nh _ e, stepsC_num ks vs nh top h⟩
    · rw [if_pos e] at h; exact absurd h e
end
end Go.Proofs.YtjpjmoejdkmglaaGreat
