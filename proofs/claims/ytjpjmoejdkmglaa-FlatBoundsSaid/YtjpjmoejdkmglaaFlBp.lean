/-
  Plain law of FlatBounds: the time of a run lies within Span and Bounds.
-/
import Derived.Test.YtjpjmoejdkmglaaFlSa
namespace Go.Proofs.Ytjpjmoejdkmglaa
open Go.RowKit

def onceE (n c : Int) : Int := if 0 < n then c else 0
mutual
/-- The least time, without a cut. -/
def eLO : Sp → Int
  | .mk d c _ n (.mk o tn _) th el _ => if d = 3 then c + min (eLL th) (eLL el) else if d = 4 then (if o ≠ 0 then onceE n c else if tn ≠ 0 then n * (c + eLL th) else onceE n c) else c
def eLL : List Sp → Int
  | [] => 0
  | k :: ks => eLO k + eLL ks
end
mutual
/-- The greatest time, without a cut. -/
def eHO : Sp → Int
  | .mk d c _ n (.mk o tn _) th el _ => if d = 3 then c + max (eHL th) (eHL el) else if d = 4 then (if o ≠ 0 then n * (c + eHL th) else if tn ≠ 0 then n * (c + eHL th) else onceE n c) else c
def eHL : List Sp → Int
  | [] => 0
  | k :: ks => eHO k + eHL ks
end
mutual
/-- The upper bound on the time, without a cut. -/
def eUO : Sp → Int
  | .mk d c _ n _ th el _ => if d = 3 then c + max (eUL th) (eUL el) else if d = 4 then n * (c + eUL th) else c
def eUL : List Sp → Int
  | [] => 0
  | k :: ks => eUO k + eUL ks
end
mutual
theorem e_in : ∀ (k : Sp), numO k → 0 ≤ eLO k ∧ eLO k ≤ eHO k ∧ eHO k ≤ eUO k
  | .mk d c v n (.mk o tn tk) th el bs, hn => by
    rw [numO] at hn
    obtain ⟨⟨c0, _, hn4⟩, ht, he⟩ := hn
    have h1 := eL_in th ht
    have h2 := eL_in el he
    rw [eLO, eHO, eUO]
    by_cases h3 : d = 3
    · rw [if_pos h3, if_pos h3, if_pos h3]; omega
    rw [if_neg h3, if_neg h3, if_neg h3]
    by_cases h4 : d = 4
    · rw [if_pos h4, if_pos h4, if_pos h4]
      obtain ⟨n0, _⟩ := hn4 h4
      have k1 : 0 ≤ n * (c + eLL th) := Int.mul_nonneg n0 (by omega)
      have k2 : n * (c + eLL th) ≤ n * (c + eHL th) := Int.mul_le_mul_of_nonneg_left (by omega) n0
      have k3 : n * (c + eHL th) ≤ n * (c + eUL th) := Int.mul_le_mul_of_nonneg_left (by omega) n0
      have k4 : 0 ≤ onceE n c := by unfold onceE; split <;> omega
      have k5 : onceE n c ≤ n * (c + eLL th) := by
        unfold onceE
        split
        · have := Int.mul_le_mul_of_nonneg_right (show 1 ≤ n by omega) (show 0 ≤ c + eLL th by omega)
          omega
        · exact k1
      by_cases ho : o = 0
      · by_cases htn : tn = 0
        · simp only [ho, htn, ne_eq, not_true_eq_false, if_false]; omega
        · simp only [ho, htn, ne_eq, not_true_eq_false, not_false_eq_true, if_false, if_true]; omega
      · simp only [ho, ne_eq, not_false_eq_true, if_true]; omega
    · rw [if_neg h4, if_neg h4, if_neg h4]; omega
theorem eL_in : ∀ (ks : List Sp), numL ks → 0 ≤ eLL ks ∧ eLL ks ≤ eHL ks ∧ eHL ks ≤ eUL ks
  | [], _ => by rw [eLL, eHL, eUL]; omega
  | k :: ks, hn => by
    rw [numL] at hn
    have h1 := e_in k hn.1
    have h2 := eL_in ks hn.2
    rw [eLL, eHL, eUL]
    omega
end
mutual
theorem upL_time : ∀ (ks : List Sp) (s : Int × Int × Int), numL ks → 0 ≤ s.2.2 → s.2.2 ≤ 1099511627776 → (upL ks s).2.2 = min (s.2.2 + eUL ks) 1099511627776
  | [], s, _, h0, h1 => by rw [upL, eUL]; omega
  | k :: ks, s, hn, h0, h1 => by
    rw [numL] at hn
    have hs := upO_time k s.2.2 hn.1 h0
    rw [upL, eUL]
    have h2 : (upA s (upO k)).2.2 = min (s.2.2 + eUO k) 1099511627776 := hs
    have h3 := e_in k hn.1
    have h4 := eL_in ks hn.2
    rw [upL_time ks _ hn.2 (by rw [h2]; omega) (by rw [h2]; omega), h2]
    omega
theorem upO_time : ∀ (k : Sp) (s : Int), numO k → 0 ≤ s → min (s + (upO k).2.2) 1099511627776 = min (s + eUO k) 1099511627776
  | .mk d c v n t th el bs, s, hn, h0 => by
    rw [numO] at hn
    have h1 := upL_time th (0, 0, 0) hn.2.1 (by simp) (by simp)
    have h2 := upL_time el (0, 0, 0) hn.2.2 (by simp) (by simp)
    have g1 := eL_in th hn.2.1
    have g2 := eL_in el hn.2.2
    simp only [Int.zero_add] at h1 h2
    rw [upO, eUO, upN]
    by_cases e1 : d = 1
    · rw [if_pos e1, if_neg (by omega), if_neg (by omega)]
    rw [if_neg e1]
    by_cases e3 : d = 3
    · rw [if_pos e3, if_pos e3]; simp only [h1, h2]; have := hn.1.1; omega
    rw [if_neg e3, if_neg e3]
    by_cases e4 : d = 4
    · rw [if_pos e4, if_pos e4]
      obtain ⟨n0, _⟩ := hn.1.2.2 e4
      simp only [h1]
      exact cut_loop n0 (by omega) (by omega) c s h0 hn.1.1
    · rw [if_neg e4, if_neg e4]
end
theorem clamp_id {n lo hi : Int} (h : lo ≤ n) (h' : n ≤ hi) : clampP n lo hi = n := by unfold clampP; omega
mutual
theorem spL_time : ∀ (ks : List Sp) (s : Int × Int), numL ks → 0 ≤ s.1 → s.1 ≤ 67108865 → 0 ≤ s.2 → s.2 ≤ 67108865 → spL ks s = (min (s.1 + eLL ks) 67108865, min (s.2 + eHL ks) 67108865)
  | [], s, _, h0, h1, h2, h3 => by
    rw [spL, eLL, eHL]
    exact Prod.ext (by simp only; omega) (by simp only; omega)
  | k :: ks, s, hn, h0, h1, h2, h3 => by
    rw [numL] at hn
    have hs := spO_time k s hn.1 h0 h2
    have g1 := e_in k hn.1
    have g2 := eL_in ks hn.2
    rw [spL, eLL, eHL, hs]
    rw [spL_time ks _ hn.2 (by simp only; omega) (by simp only; omega) (by simp only; omega) (by simp only; omega)]
    exact Prod.ext (by simp only; omega) (by simp only; omega)
theorem spO_time : ∀ (k : Sp) (s : Int × Int), numO k → 0 ≤ s.1 → 0 ≤ s.2 → spA s (spO k) = (min (s.1 + eLO k) 67108865, min (s.2 + eHO k) 67108865)
  | .mk d c v n (.mk o tn tk) th el bs, s, hn, h0, h2 => by
    rw [numO] at hn
    obtain ⟨⟨c0, c1, hn4⟩, ht, he⟩ := hn
    have h1 := spL_time th (0, 0) ht (by simp) (by simp) (by simp) (by simp)
    have h3 := spL_time el (0, 0) he (by simp) (by simp) (by simp) (by simp)
    have g1 := eL_in th ht
    have g2 := eL_in el he
    simp only [Int.zero_add] at h1 h3
    rw [spO, eLO, eHO, h1, h3, clamp_id c0 (by omega), spN]
    by_cases e3 : d = 3
    · rw [if_pos e3, if_pos e3, if_pos e3]
      exact Prod.ext (by simp only [spA]; omega) (by simp only [spA]; omega)
    rw [if_neg e3, if_neg e3, if_neg e3]
    by_cases e4 : d = 4
    · rw [if_pos e4, if_pos e4, if_pos e4]
      obtain ⟨n0, n1⟩ := hn4 e4
      rw [clamp_id n0 n1]
      have q1 := cut_loop n0 g1.1 (L := 67108865) (by omega) c s.1 h0 c0
      have q2 := cut_loop n0 (show 0 ≤ eHL th by omega) (L := 67108865) (by omega) c s.2 h2 c0
      have hon : onceS n c = onceE n c := rfl
      by_cases ho : o = 0
      · by_cases htn : tn = 0
        · simp only [ho, htn, ne_eq, not_true_eq_false, if_false]
          rfl
        · simp only [ho, htn, ne_eq, not_true_eq_false, not_false_eq_true, if_false, if_true]
          exact Prod.ext q1 q2
      · simp only [ho, ne_eq, not_false_eq_true, if_true]
        exact Prod.ext rfl q2
    · rw [if_neg e4, if_neg e4, if_neg e4]
      rfl
end
mutual
/-- No step is a Settle. -/
def noSO : Sp → Prop
  | .mk d _ _ _ _ th el _ => d ≠ 6 ∧ noSL th ∧ noSL el
def noSL : List Sp → Prop
  | [] => True
  | k :: ks => noSO k ∧ noSL ks
end
/-- The time has gone on by something from a to b. -/
def Tw (a b : Int) (s s' : Ms) : Prop := s.t + a ≤ s'.t ∧ s'.t ≤ s.t + b
theorem bump_id {t c : Int} (h : 0 ≤ t) (h1 : 0 ≤ c) (h2 : t + c ≤ 4611686018427387904) : bumpT t c = t + c := IntWalk.i64_in _ (by omega)
theorem value_lit (vals : List Int) (n : Int) (ks : List Tm) : valueP vals (.mk 0 n ks) = n := by rw [valueP, nodeV, if_pos rfl]
theorem loop_hi {c h l : Int} {val : List Int → Int} {body : Ms → Ms} (hc : 0 ≤ c) (hl : 0 ≤ l) (hh : l ≤ h) (hb : ∀ s : Ms, 0 ≤ s.t → s.t + h ≤ 4611686018427387904 → Tw l h s (body s)) : ∀ (k : Nat) (s : Ms), 0 ≤ s.t → s.t + k * (c + h) ≤ 4611686018427387904 → s.t ≤ (loopM c val body k s).t ∧ (loopM c val body k s).t ≤ s.t + k * (c + h) ∧ (0 < k → s.t + c ≤ (loopM c val body k s).t)
  | 0, s, h0, h1 => by rw [loopM]; simp
  | k + 1, s, h0, h1 => by
    have hk : ((k + 1 : Nat) : Int) * (c + h) = (k : Int) * (c + h) + (c + h) := by rw [Int.natCast_add, Int.add_mul]; simp
    have hk0 : 0 ≤ (k : Int) * (c + h) := Int.mul_nonneg (by omega) (by omega)
    rw [hk] at h1
    have hbt : bumpT s.t c = s.t + c := bump_id h0 hc (by omega)
    rw [loopM, hk]
    by_cases e : val s.v = 0
    · rw [if_pos e]
      simp only [hbt]
      omega
    · rw [if_neg e]
      have h2 := hb ⟨s.v, s.o, bumpT s.t c⟩ (by simp only [hbt]; omega) (by simp only [hbt]; omega)
      obtain ⟨h3, h4⟩ := h2
      simp only [hbt] at h3 h4
      have h5 := loop_hi (val := val) hc hl hh hb k (body ⟨s.v, s.o, bumpT s.t c⟩) (by rw [hbt]; omega) (by rw [hbt]; omega)
      rw [hbt] at h5 ⊢
      omega
theorem loop_lo {c h l : Int} {val : List Int → Int} {body : Ms → Ms} (hv : ∀ x, val x ≠ 0) (hc : 0 ≤ c) (hl : 0 ≤ l) (hh : l ≤ h) (hb : ∀ s : Ms, 0 ≤ s.t → s.t + h ≤ 4611686018427387904 → Tw l h s (body s)) : ∀ (k : Nat) (s : Ms), 0 ≤ s.t → s.t + k * (c + h) ≤ 4611686018427387904 → s.t + k * (c + l) ≤ (loopM c val body k s).t
  | 0, s, h0, h1 => by rw [loopM]; simp
  | k + 1, s, h0, h1 => by
    have hk : ((k + 1 : Nat) : Int) * (c + h) = (k : Int) * (c + h) + (c + h) := by rw [Int.natCast_add, Int.add_mul]; simp
    have hk2 : ((k + 1 : Nat) : Int) * (c + l) = (k : Int) * (c + l) + (c + l) := by rw [Int.natCast_add, Int.add_mul]; simp
    have hk0 : 0 ≤ (k : Int) * (c + h) := Int.mul_nonneg (by omega) (by omega)
    rw [hk] at h1
    have hbt : bumpT s.t c = s.t + c := bump_id h0 hc (by omega)
    rw [loopM, hk2, if_neg (hv s.v)]
    have h2 := hb ⟨s.v, s.o, bumpT s.t c⟩ (by simp only [hbt]; omega) (by simp only [hbt]; omega)
    obtain ⟨h3, h4⟩ := h2
    simp only [hbt] at h3 h4
    have h5 := loop_lo (val := val) hv hc hl hh hb k (body ⟨s.v, s.o, bumpT s.t c⟩) (by rw [hbt]; omega) (by rw [hbt]; omega)
    rw [hbt] at h5 ⊢
    omega
theorem loop_stop {c : Int} {val : List Int → Int} {body : Ms → Ms} (hv : ∀ x, val x = 0) (k : Nat) (s : Ms) : (loopM c val body k s).t = if 0 < k then bumpT s.t c else s.t := by
  cases k with
  | zero => rw [loopM]; rfl
  | succ k => rw [loopM, if_pos (hv s.v), if_pos (by omega)]
mutual
theorem run_time {vs : List Vr} {hats : List Int} : ∀ (k : Sp) (s : Ms), numO k → noSO k → 0 ≤ s.t → s.t + eHO k ≤ 4611686018427387904 → Tw (eLO k) (eHO k) s (runO vs hats k s)
  | .mk d c v n (.mk o tn tk) th el bs, s, hn, hs, h0, h1 => by
    have hin := e_in _ hn
    rw [numO] at hn
    rw [noSO] at hs
    obtain ⟨⟨c0, c1, hn4⟩, ht, he⟩ := hn
    obtain ⟨h6, hs1, hs2⟩ := hs
    have g1 := eL_in th ht
    have g2 := eL_in el he
    unfold Tw
    by_cases h3 : d = 3
    · subst h3
      rw [runO_if]
      simp only [eLO, eHO, if_true] at h1 ⊢
      have hbt : bumpT s.t c = s.t + c := bump_id h0 c0 (by omega)
      by_cases hv : valueP s.v (.mk o tn tk) ≠ 0
      · rw [if_pos hv]
        have := runL_time (vs := vs) (hats := hats) th ⟨s.v, s.o, bumpT s.t c⟩ ht hs1 (by simp only [hbt]; omega) (by simp only [hbt]; omega)
        obtain ⟨q1, q2⟩ := this
        simp only [hbt] at q1 q2 ⊢
        omega
      · rw [if_neg hv]
        have := runL_time (vs := vs) (hats := hats) el ⟨s.v, s.o, bumpT s.t c⟩ he hs2 (by simp only [hbt]; omega) (by simp only [hbt]; omega)
        obtain ⟨q1, q2⟩ := this
        simp only [hbt] at q1 q2 ⊢
        omega
    by_cases h4 : d = 4
    · subst h4
      obtain ⟨n0, n1⟩ := hn4 rfl
      rw [runO_loop]
      obtain ⟨k, hk⟩ : ∃ k : Nat, n = k := ⟨n.toNat, by omega⟩
      subst hk
      rw [Int.toNat_natCast]
      have hb : ∀ s : Ms, 0 ≤ s.t → s.t + eHL th ≤ 4611686018427387904 → Tw (eLL th) (eHL th) s (runL vs hats th s) := fun s a b => runL_time th s ht hs1 a b
      simp only [eLO, eHO, show (4 : Int) ≠ 3 by decide, if_false, if_true] at h1 ⊢
      by_cases ho : o = 0
      · subst ho
        simp only [ne_eq, not_true_eq_false, if_false] at h1 ⊢
        by_cases htn : tn = 0
        · subst htn
          simp only [not_true_eq_false, if_false] at h1 ⊢
          rw [loop_stop (fun x => value_lit x 0 tk)]
          unfold onceE at h1 ⊢
          by_cases hk : 0 < k
          · rw [if_pos (by omega)] at h1
            rw [if_pos hk, if_pos (by omega), bump_id h0 c0 (by omega)]
            omega
          · rw [if_neg hk, if_neg (by omega)]; omega
        · simp only [htn, not_false_eq_true, if_true] at h1 ⊢
          have q1 := loop_hi (body := fun s => runL vs hats th s) (val := fun l => valueP l (.mk 0 tn tk)) c0 g1.1 g1.2.1 hb k s h0 h1
          have q2 := loop_lo (body := fun s => runL vs hats th s) (val := fun l => valueP l (.mk 0 tn tk)) (fun x => by rw [value_lit]; exact htn) c0 g1.1 g1.2.1 hb k s h0 h1
          exact ⟨q2, q1.2.1⟩
      · simp only [ne_eq, ho, not_false_eq_true, if_true] at h1 ⊢
        have q1 := loop_hi (body := fun s => runL vs hats th s) (val := fun l => valueP l (.mk o tn tk)) c0 g1.1 g1.2.1 hb k s h0 h1
        refine ⟨?_, q1.2.1⟩
        unfold onceE
        by_cases hk : 0 < k
        · rw [if_pos (by omega)]; exact q1.2.2 hk
        · rw [if_neg (by omega)]; have := q1.1; omega
    rw [runO_act vs hats d c v n _ th el bs s h4 h3]
    rw [eHO, if_neg h3, if_neg h4] at h1
    rw [eLO, eHO, if_neg h3, if_neg h4, if_neg h3, if_neg h4]
    have hbt : bumpT s.t c = s.t + c := bump_id h0 c0 h1
    have : (actM vs hats d v n (.mk o tn tk) bs ⟨s.v, s.o, bumpT s.t c⟩).t = s.t + c := by
      unfold actM
      split
      · exact hbt
      split
      · exact hbt
      split
      · exact hbt
      exact hbt
    rw [this]
    omega
theorem runL_time {vs : List Vr} {hats : List Int} : ∀ (ks : List Sp) (s : Ms), numL ks → noSL ks → 0 ≤ s.t → s.t + eHL ks ≤ 4611686018427387904 → Tw (eLL ks) (eHL ks) s (runL vs hats ks s)
  | [], s, _, _, _, _ => by rw [runL, eLL, eHL]; unfold Tw; omega
  | k :: ks, s, hn, hs, h0, h1 => by
    rw [numL] at hn
    rw [noSL] at hs
    have g1 := e_in k hn.1
    have g2 := eL_in ks hn.2
    rw [eHL] at h1
    have q1 := run_time (vs := vs) (hats := hats) k s hn.1 hs.1 h0 (by omega)
    have q2 := runL_time (vs := vs) (hats := hats) ks (runO vs hats k s) hn.2 hs.2 (by have := q1.1; omega) (by have := q1.2; omega)
    rw [runL, eLL, eHL]
    obtain ⟨a, b⟩ := q1
    obtain ⟨a', b'⟩ := q2
    exact ⟨by omega, by omega⟩
end
theorem shaped_six {vs : List Vr} {nh : Nat} {d v n : Int} {z : Bool} {lh le : Nat} {bs : List Int} (h : shapedB vs nh false d v n z lh le bs = true) : d ≠ 6 := by
  rintro rfl
  unfold shapedB at h
  simp only [show (6 : Int) ≠ 0 by decide, show (6 : Int) ≠ 1 by decide, show (6 : Int) ≠ 2 by decide, show (6 : Int) ≠ 3 by decide, show (6 : Int) ≠ 4 by decide, show (6 : Int) ≠ 5 by decide, if_false, if_true, Bool.and_false, Bool.false_and] at h
  cases h
mutual
theorem stepC_noS : ∀ (k : Sp) (vs : List Vr) (nh : Nat) (last : Bool), stepC vs nh last k = 0 → (last = true → k.d ≠ 6) → noSO k
  | .mk d c v n (.mk o tn tk) th el bs, vs, nh, last, h, hl => by
    have hf := stepC_fine h
    rw [stepC] at h
    by_cases e1 : shapedB vs nh last d v n (zeroB o tn tk.length) th.length el.length bs = false
    · rw [if_pos e1] at h; exact absurd h (by decide)
    rw [noSO]
    refine ⟨?_, stepsC_noS th vs nh hf.th, stepsC_noS el vs nh hf.el⟩
    cases last with
    | true => exact hl rfl
    | false => exact shaped_six (by simpa using e1)
theorem stepsC_noS : ∀ (ks : List Sp) (vs : List Vr) (nh : Nat), stepsC vs nh false ks = 0 → noSL ks
  | [], _, _, _ => by rw [noSL]; trivial
  | k :: ks, vs, nh, h => by
    rw [stepsC] at h
    rw [noSL]
    by_cases e : stepC vs nh (false && ks.isEmpty) k = 0
    · rw [if_neg (by simpa using e)] at h
      exact ⟨stepC_noS k vs nh _ e (fun e => by cases e), stepsC_noS ks vs nh h⟩
    · rw [if_pos e] at h; exact absurd h e
end
/-- Steps in order of which the last one is no Settle, or of which the last one is left out. -/
theorem top_noS : ∀ (ks : List Sp) (vs : List Vr) (nh : Nat), stepsC vs nh true ks = 0 → (∀ x, ks.getLast? = some x → x.d ≠ 6) → noSL ks
  | [], _, _, _, _ => by rw [noSL]; trivial
  | k :: ks, vs, nh, h, hl => by
    rw [stepsC] at h
    rw [noSL]
    by_cases e : stepC vs nh (true && ks.isEmpty) k = 0
    · rw [if_neg (by simpa using e)] at h
      refine ⟨stepC_noS k vs nh _ e (fun e => ?_), top_noS ks vs nh h fun x hx => hl x ?_⟩
      · have : ks = [] := by cases ks with | nil => rfl | cons a b => cases e
        subst this
        exact hl k rfl
      · cases ks with
        | nil => cases hx
        | cons a b => rw [List.getLast?_cons_cons]; exact hx
    · rw [if_pos e] at h; exact absurd h e
theorem cut_noS : ∀ (ks : List Sp) (vs : List Vr) (nh : Nat), stepsC vs nh true ks = 0 → noSL ks.dropLast
  | [], _, _, _ => by rw [List.dropLast_nil, noSL]; trivial
  | [k], _, _, _ => by show noSL []; rw [noSL]; trivial
  | k :: a :: ks, vs, nh, h => by
    rw [stepsC] at h
    rw [List.dropLast_cons_cons, noSL]
    by_cases e : stepC vs nh (true && (a :: ks).isEmpty) k = 0
    · rw [if_neg (by simpa using e)] at h
      exact ⟨stepC_noS k vs nh _ e (fun e => by cases e), cut_noS (a :: ks) vs nh h⟩
    · rw [if_pos e] at h; exact absurd h e
/-- The law, in plain words. -/
theorem bounds_law {vs : List Vr} {hs : List Ht} {ks : List Sp} {vals : List Int} (hc : checkP vs hs ks = 0) (hn : noSL ks) (hv : valOk vs vals) :
    (upL ks (0, 0, 0)).1 ≤ 4096 ∧ ((endM vs hs ks vals).o.length : Int) ≤ (upL ks (0, 0, 0)).2.1 ∧ (spL ks (0, 0)).1 ≤ (endM vs hs ks vals).t ∧ (endM vs hs ks vals).t ≤ (spL ks (0, 0)).2 ∧ (spL ks (0, 0)).2 ≤ (upL ks (0, 0, 0)).2.2 := by
  obtain ⟨_, _, hvc, _, hst, hu⟩ := checkP_zero hc
  have hnum := stepsC_num ks vs hs.length true hst
  have hvb := varsC_B hvc
  unfold upBad at hu
  simp only [Bool.or_eq_false_iff, decide_eq_false_iff_not] at hu
  obtain ⟨u1, u2, u3⟩ := hu
  have h1 := upL_time ks (0, 0, 0) hnum (by simp) (by simp)
  have h2 := spL_time ks (0, 0) hnum (by simp) (by simp) (by simp) (by simp)
  have h3 := upL_out ks (0, 0, 0) hnum (by simp) (by simp)
  have h4 := eL_in ks hnum
  simp only [Int.zero_add] at h1 h2 h3
  have hf := runL_fit hvb (hats := hatV vals hs) ks 0 ⟨vals, [], 0⟩ ⟨hv, Nat.le_refl _⟩
  have ht := runL_time (vs := vs) (hats := hatV vals hs) ks ⟨vals, [], 0⟩ hnum hn (by simp) (by simp only; omega)
  obtain ⟨t1, t2⟩ := ht
  have hol := hf.2
  simp only at t1 t2
  unfold endM
  rw [h2]
  simp only
  refine ⟨by omega, by omega, by omega, by omega, by omega⟩
end Go.Proofs.Ytjpjmoejdkmglaa
