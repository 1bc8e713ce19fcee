/-
  Plain: nesting of terms and steps.
  Plain laws of the reference's Check: sizes, nesting, upper bounds.
  The walks over the reference's sizes: nodes, nesting.
-/
import Derived.Test.YtjpjmoejdkmglaaGreatFl
import Derived.Test.YtjpjmoejdkmglaaGreatFlXc
import Derived.Test.YtjpjmoejdkmglaaGreatFlZ
import Derived.Test.YtjpjmoejdkmglaaGreatFlB
import Derived.Deep.CutRange
namespace Go.Proofs.YtjpjmoejdkmglaaGreat
open Go.RowKit

mutual
/-- The nesting of a term. -/
def tdep : Tm → Nat
  | .mk _ _ ks => tdepL ks + 1
def tdepL : List Tm → Nat
  | [] => 0
  | k :: ks => max (tdep k) (tdepL ks)
end
mutual
/-- The nesting of steps. -/
def sdepO : Sp → Nat
  | .mk _ _ _ _ _ th el _ => max (sdepL th) (sdepL el) + 1
def sdepL : List Sp → Nat
  | [] => 0
  | k :: ks => max (sdepO k) (sdepL ks)
end
mutual
/-- Is a term of a step nested too deep? -/
def tdeepO : Sp → Bool
  | .mk _ _ _ _ t th el _ => decide (12 < tdep t) || (tdeepL th || tdeepL el)
def tdeepL : List Sp → Bool
  | [] => false
  | k :: ks => tdeepO k || tdeepL ks
end
mutual
theorem tdep_le : ∀ (t : Tm), tdep t ≤ t.cnt
  | .mk _ _ ks => by simp only [tdep, Tm.cnt]; have := tdepL_le ks; omega
theorem tdepL_le : ∀ (ks : List Tm), tdepL ks ≤ Tm.cntL ks
  | [] => by simp [tdepL]
  | k :: ks => by simp only [tdepL, Tm.cntL]; have := tdep_le k; have := tdepL_le ks; omega
end
mutual
theorem sdepO_le : ∀ (k : Sp), sdepO k ≤ k.cnt
  | .mk _ _ _ _ _ th el _ => by simp only [sdepO, Sp.cnt]; have := sdepL_le th; have := sdepL_le el; omega
theorem sdepL_le : ∀ (ks : List Sp), sdepL ks ≤ Sp.cntL ks
  | [] => by simp [sdepL]
  | k :: ks => by simp only [sdepL, Sp.cntL]; have := sdepO_le k; have := sdepL_le ks; omega
end

def hdeep : List Ht → Bool
  | [] => false
  | h :: hs => decide (12 < tdep h.t) || hdeep hs
/-- The first check, of the sizes. -/
def sizesB (vs : List Vr) (hs : List Ht) (ks : List Sp) : Bool :=
  decide (vs.length ≤ 64) && (decide (hs.length ≤ 8) && (!hdeep hs && (decide (Sp.cntL ks + hcnt hs ≤ 1024) && (decide (sdepL ks ≤ 12) && !tdeepL ks))))
theorem over_step {s : Int × Bool} (h : overP s = true) (d : Int) : overP (stepM d s) = true := by
  obtain ⟨n, b⟩ := s
  cases b with
  | true => simp [overP, stepM]
  | false =>
    have h1 : 1024 < n := by simpa [overP] using h
    have h2 : decide (1024 < n + 1) = true := decide_eq_true (by omega)
    show ((false || decide (12 < d)) || decide (1024 < n + 1)) = true
    rw [h2, Bool.or_true]
theorem mT_over (t : Tm) (d : Int) {s : Int × Bool} (h : overP s = true) : overP (mT t d s) = true := by
  cases t
  rw [mT, if_pos (over_step h d)]
  exact over_step h d
theorem mTL_over : ∀ (ks : List Tm) (d : Int) {s : Int × Bool}, overP s = true → overP (mTL ks d s) = true
  | [], _, _, h => by rw [mTL]; exact h
  | k :: ks, d, _, h => by rw [mTL]; exact mTL_over ks d (mT_over k d h)
theorem mS_over (ks : List Sp) (d : Int) {s : Int × Bool} (h : overP s = true) : overP (mS ks d s) = true := by
  cases ks with
  | nil => rw [mS]; exact h
  | cons k ks => rw [mS, if_pos (over_step h d)]; exact over_step h d
theorem hM_over : ∀ (hs : List Ht) {s : Int × Bool}, overP s = true → overP (hM hs s) = true
  | [], _, h => by rw [hM]; exact h
  | k :: hs, s, h => by rw [hM, if_pos h]; exact hM_over hs h
theorem step_in {d n : Int} (h : ¬ overP (stepM d (n, false)) = true) : d ≤ 12 ∧ n + 1 ≤ 1024 ∧ stepM d (n, false) = (n + 1, false) := by
  simp only [overP, stepM, Bool.false_or, Bool.or_eq_true, decide_eq_true_eq] at h
  have h1 : d ≤ 12 := by omega
  refine ⟨h1, by omega, ?_⟩
  simp only [stepM, Bool.false_or]
  rw [decide_eq_false (by omega)]
theorem step_out {d n : Int} (h : overP (stepM d (n, false)) = true) : 12 < d ∨ 1024 < n + 1 := by
  simpa only [overP, stepM, Bool.false_or, Bool.or_eq_true, decide_eq_true_eq] using h
mutual
theorem mT_eq : ∀ (t : Tm) (d n : Int), n ≤ 1024 → d ≤ 13 → (n + t.cnt ≤ 1024 ∧ d + tdep t ≤ 13 → mT t d (n, false) = (n + t.cnt, false)) ∧ (¬ (n + t.cnt ≤ 1024 ∧ d + tdep t ≤ 13) → overP (mT t d (n, false)) = true)
  | .mk o m ks, d, n, hn, hd => by
    rw [mT]
    simp only [Tm.cnt, tdep]
    by_cases ho : overP (stepM d (n, false)) = true
    · rw [if_pos ho]
      have := step_out ho
      exact ⟨fun h => by omega, fun _ => ho⟩
    · rw [if_neg ho]
      obtain ⟨h1, h2, h3⟩ := step_in ho
      rw [h3]
      have h := mTL_eq ks (d + 1) (n + 1) (by omega) (by omega)
      refine ⟨fun hh => ?_, fun hh => h.2 (by omega)⟩
      rw [h.1 (by omega)]
      exact Prod.ext (by simp only; omega) rfl
theorem mTL_eq : ∀ (ks : List Tm) (d n : Int), n ≤ 1024 → d ≤ 13 → (n + Tm.cntL ks ≤ 1024 ∧ d + tdepL ks ≤ 13 → mTL ks d (n, false) = (n + Tm.cntL ks, false)) ∧ (¬ (n + Tm.cntL ks ≤ 1024 ∧ d + tdepL ks ≤ 13) → overP (mTL ks d (n, false)) = true)
  | [], d, n, hn, hd => by
    simp only [mTL, Tm.cntL, tdepL]
    exact ⟨fun _ => Prod.ext (by simp) rfl, fun h => absurd h (by omega)⟩
  | k :: ks, d, n, hn, hd => by
    rw [mTL]
    simp only [Tm.cntL, tdepL]
    have h1 := mT_eq k d n hn hd
    by_cases hk : n + k.cnt ≤ 1024 ∧ d + tdep k ≤ 13
    · rw [h1.1 hk]
      have h2 := mTL_eq ks d (n + k.cnt) hk.1 hd
      refine ⟨fun hh => ?_, fun hh => h2.2 (by omega)⟩
      rw [h2.1 (by omega)]
      exact Prod.ext (by simp only; omega) rfl
    · exact ⟨fun hh => absurd hh (by omega), fun _ => mTL_over ks d (h1.2 hk)⟩
end
mutual
theorem mS_eq : ∀ (ks : List Sp) (d n : Int), n ≤ 1024 → d ≤ 13 → (n + Sp.cntL ks ≤ 1024 ∧ d + sdepL ks ≤ 13 ∧ tdeepL ks = false → mS ks d (n, false) = (n + Sp.cntL ks, false)) ∧ (¬ (n + Sp.cntL ks ≤ 1024 ∧ d + sdepL ks ≤ 13 ∧ tdeepL ks = false) → overP (mS ks d (n, false)) = true)
  | [], d, n, hn, hd => by
    simp only [mS, Sp.cntL, sdepL, tdeepL]
    exact ⟨fun _ => Prod.ext (by simp) rfl, fun h => absurd h (fun k => k ⟨by omega, by omega, trivial⟩)⟩
  | k :: ks, d, n, hn, hd => by
    rw [mS]
    simp only [Sp.cntL, sdepL, tdeepL, Bool.or_eq_false_iff]
    have hp := Sp.cnt_pos k
    have hs0 : 1 ≤ sdepO k := by cases k; simp only [sdepO]; omega
    by_cases ho : overP (stepM d (n, false)) = true
    · rw [if_pos ho]
      have := step_out ho
      exact ⟨fun h => by omega, fun _ => ho⟩
    · rw [if_neg ho]
      obtain ⟨h1, h2, h3⟩ := step_in ho
      rw [h3]
      have hx := mX_eq k d (n + 1) (by omega) h1
      by_cases hk : n + k.cnt ≤ 1024 ∧ d + sdepO k ≤ 13 ∧ tdeepO k = false
      · rw [hx.1 ⟨by omega, hk.2⟩]
        have hy := mS_eq ks d (n + 1 + (k.cnt - 1)) (by omega) hd
        refine ⟨fun hh => ?_, fun hh => hy.2 (fun z => hh ⟨by omega, by omega, hk.2.2, z.2.2⟩)⟩
        rw [hy.1 ⟨by omega, by omega, hh.2.2.2⟩]
        exact Prod.ext (by simp only; omega) rfl
      · exact ⟨fun hh => absurd (show n + k.cnt ≤ 1024 ∧ d + sdepO k ≤ 13 ∧ tdeepO k = false from ⟨by omega, by omega, hh.2.2.1⟩) hk, fun _ => mS_over ks d (hx.2 fun z => hk ⟨by omega, z.2⟩)⟩
theorem mX_eq : ∀ (k : Sp) (d n : Int), n ≤ 1024 → d ≤ 12 → (n + ((k.cnt : Int) - 1) ≤ 1024 ∧ d + sdepO k ≤ 13 ∧ tdeepO k = false → mX k d (n, false) = (n + ((k.cnt : Int) - 1), false)) ∧ (¬ (n + ((k.cnt : Int) - 1) ≤ 1024 ∧ d + sdepO k ≤ 13 ∧ tdeepO k = false) → overP (mX k d (n, false)) = true)
  | .mk a b c e t th el bs, d, n, hn, hd => by
    rw [mX]
    simp only [Sp.cnt, sdepO, tdeepO, Bool.or_eq_false_iff, decide_eq_false_iff_not]
    have h1 := mT_eq t 1 n hn (by omega)
    by_cases ht : n + t.cnt ≤ 1024 ∧ (1 : Int) + tdep t ≤ 13
    · rw [h1.1 ht]
      have h2 := mS_eq th (d + 1) (n + t.cnt) ht.1 (by omega)
      by_cases hh : n + t.cnt + Sp.cntL th ≤ 1024 ∧ d + 1 + sdepL th ≤ 13 ∧ tdeepL th = false
      · rw [h2.1 hh]
        have h3 := mS_eq el (d + 1) (n + t.cnt + Sp.cntL th) hh.1 (by omega)
        refine ⟨fun z => ?_, fun z => h3.2 fun y => z ⟨by omega, by omega, by omega, hh.2.2, y.2.2⟩⟩
        rw [h3.1 ⟨by omega, by omega, z.2.2.2.2⟩]
        exact Prod.ext (by simp only; omega) rfl
      · exact ⟨fun z => absurd (show n + t.cnt + Sp.cntL th ≤ 1024 ∧ d + 1 + sdepL th ≤ 13 ∧ tdeepL th = false from ⟨by omega, by omega, z.2.2.2.1⟩) hh, fun _ => mS_over el _ (h2.2 hh)⟩
    · exact ⟨fun z => absurd (show n + t.cnt ≤ 1024 ∧ (1 : Int) + tdep t ≤ 13 from ⟨by omega, by omega⟩) ht, fun _ => mS_over el _ (mS_over th _ (h1.2 ht))⟩
end
theorem hM_eq : ∀ (hs : List Ht) (n : Int), n ≤ 1024 → (n + hcnt hs ≤ 1024 ∧ hdeep hs = false → hM hs (n, false) = (n + hcnt hs, false)) ∧ (¬ (n + hcnt hs ≤ 1024 ∧ hdeep hs = false) → overP (hM hs (n, false)) = true)
  | [], n, hn => by
    simp only [hM, hcnt, hdeep]
    exact ⟨fun _ => Prod.ext (by simp) rfl, fun h => absurd h (fun k => k ⟨by omega, trivial⟩)⟩
  | h :: hs, n, hn => by
    have hno : ¬ overP (n, false) = true := by simp only [overP, Bool.false_or, decide_eq_true_eq]; omega
    rw [hM, if_neg hno]
    simp only [hcnt, hdeep, Bool.or_eq_false_iff, decide_eq_false_iff_not]
    have h1 := mT_eq h.t 1 n hn (by omega)
    by_cases ht : n + h.t.cnt ≤ 1024 ∧ (1 : Int) + tdep h.t ≤ 13
    · rw [h1.1 ht]
      have h2 := hM_eq hs (n + h.t.cnt) ht.1
      refine ⟨fun z => ?_, fun z => h2.2 fun y => z ⟨by omega, by omega, y.2⟩⟩
      rw [h2.1 ⟨by omega, z.2.2⟩]
      exact Prod.ext (by simp only; omega) rfl
    · exact ⟨fun z => absurd (show n + h.t.cnt ≤ 1024 ∧ (1 : Int) + tdep h.t ≤ 13 from ⟨by omega, by omega⟩) ht, fun _ => hM_over hs (h1.2 ht)⟩
theorem sizes_eq (vs : List Vr) (hs : List Ht) (ks : List Sp) : (64 < vs.length ∨ 8 < hs.length ∨ overP (hM hs (mS ks 1 (0, false))) = true) ↔ sizesB vs hs ks = false := by
  by_cases h1 : vs.length ≤ 64
  case neg =>
    unfold sizesB
    rw [decide_eq_false h1, Bool.false_and]
    exact ⟨fun _ => rfl, fun _ => .inl (by omega)⟩
  by_cases h2 : hs.length ≤ 8
  case neg =>
    unfold sizesB
    rw [decide_eq_false h2, Bool.false_and, Bool.and_false]
    exact ⟨fun _ => rfl, fun _ => .inr (.inl (by omega))⟩
  have hS := mS_eq ks 1 0 (by omega) (by omega)
  have hbad : overP (hM hs (mS ks 1 (0, false))) = true ↔ sizesB vs hs ks = false := by
    unfold sizesB
    rw [decide_eq_true h1, decide_eq_true h2, Bool.true_and, Bool.true_and]
    by_cases hk : (0 : Int) + Sp.cntL ks ≤ 1024 ∧ (1 : Int) + sdepL ks ≤ 13 ∧ tdeepL ks = false
    · rw [hS.1 hk]
      have hH := hM_eq hs (0 + Sp.cntL ks) hk.1
      rw [hk.2.2, decide_eq_true (show sdepL ks ≤ 12 by omega)]
      by_cases hh : (0 : Int) + Sp.cntL ks + hcnt hs ≤ 1024 ∧ hdeep hs = false
      · rw [hH.1 hh, hh.2, decide_eq_true (show Sp.cntL ks + hcnt hs ≤ 1024 by omega)]
        simp only [overP, Bool.false_or, decide_eq_true_eq]
        exact ⟨fun h => absurd h (by omega), fun h => by simp at h⟩
      · refine ⟨fun _ => ?_, fun _ => hH.2 hh⟩
        cases hd : hdeep hs with
        | true => rfl
        | false => rw [decide_eq_false (show ¬ Sp.cntL ks + hcnt hs ≤ 1024 from fun h => hh ⟨by omega, hd⟩)]; rfl
    · refine ⟨fun _ => ?_, fun _ => hM_over hs (hS.2 hk)⟩
      by_cases g1 : Sp.cntL ks + hcnt hs ≤ 1024
      · by_cases g2 : sdepL ks ≤ 12
        · have g3 : tdeepL ks = true := by
            cases h : tdeepL ks with
            | true => rfl
            | false => exact absurd ⟨by omega, by omega, h⟩ hk
          rw [g3]; simp
        · rw [decide_eq_false g2]; simp
      · rw [decide_eq_false g1]; simp
  rw [← hbad]
  exact ⟨fun h => by rcases h with h | h | h; exact absurd h1 (by omega); exact absurd h2 (by omega); exact h, fun h => .inr (.inr h)⟩

/-- The bounds of a step out of those of its inner steps. -/
def rbN (d c n : Int) (a b : Int × Int × Int) : Int × Int × Int :=
  if d = 4 then (1 + n * (1 + a.1), n * a.2.1, n * (c + a.2.2)) else if d = 1 then (1 + max a.1 b.1, 1, c + max a.2.2 b.2.2) else (1 + max a.1 b.1, max a.2.1 b.2.1, c + max a.2.2 b.2.2)
def rbA (s t : Int × Int × Int) : Int × Int × Int := (min (s.1 + t.1) 4097, min (s.2.1 + t.2.1) 9, min (s.2.2 + t.2.2) 67108865)
mutual
def rbO : Sp → Int × Int × Int
  | .mk d c _ n _ th el _ => rbN d c n (rbL th (0, 0, 0)) (rbL el (0, 0, 0))
/-- The reference's upper bounds of steps, cut above the limits. -/
def rbL : List Sp → Int × Int × Int → Int × Int × Int
  | [], s => s
  | k :: ks, s => rbL ks (rbA s (rbO k))
end
mutual
/-- Inner steps stand at If and Loop alone. -/
def shO : Sp → Prop
  | .mk d _ _ _ _ th el _ => (d ≠ 3 → d ≠ 4 → th = [] ∧ el = []) ∧ (d = 4 → el = []) ∧ shL th ∧ shL el
def shL : List Sp → Prop
  | [] => True
  | k :: ks => shO k ∧ shL ks
end
def cutB (s : Int × Int × Int) : Int × Int × Int := (min s.1 4097, min s.2.1 9, min s.2.2 67108865)
theorem cut_loop {n x L : Int} (hn : 0 ≤ n) (_hx : 0 ≤ x) (hL : 0 ≤ L) (e s : Int) (hs : 0 ≤ s) (he : 0 ≤ e) : min (s + n * (e + min x L)) L = min (s + n * (e + x)) L := by
  by_cases h : x ≤ L
  · rw [show min x L = x by omega]
  · rw [show min x L = L by omega]
    by_cases h0 : n = 0
    · subst h0; simp
    · have h1 : 1 * (e + L) ≤ n * (e + L) := Int.mul_le_mul_of_nonneg_right (by omega) (by omega)
      have h2 : n * (e + L) ≤ n * (e + x) := Int.mul_le_mul_of_nonneg_left (by omega) hn
      omega
theorem rbN_cut {d c n : Int} {s a b : Int × Int × Int} (hn : numN d c n) (hs : inU s) (ha : inU a) (hb : inU b) (h0 : d ≠ 3 → d ≠ 4 → a = (0, 0, 0) ∧ b = (0, 0, 0)) : rbA (cutB s) (rbN d c n (cutB a) (cutB b)) = cutB (upA s (upN d c n a b)) := by
  obtain ⟨s1, s2, s3⟩ := s
  obtain ⟨a1, a2, a3⟩ := a
  obtain ⟨b1, b2, b3⟩ := b
  obtain ⟨p1, p2, p3⟩ := hs
  obtain ⟨q1, q2, q3⟩ := ha
  obtain ⟨r1, r2, r3⟩ := hb
  obtain ⟨n1, n2, n3⟩ := hn
  simp only at p1 p2 p3 q1 q2 q3 r1 r2 r3
  by_cases h4 : d = 4
  · obtain ⟨m0, m1⟩ := n3 h4
    have g1 := cut_loop m0 q1.1 (L := 4097) (by omega) 1 (s1 + 1) (by omega) (by omega)
    have g2 := cut_loop m0 q2.1 (L := 9) (by omega) 0 s2 (by omega) (by omega)
    have g3 := cut_loop m0 q3.1 (L := 67108865) (by omega) c s3 (by omega) (by omega)
    have k1 : 0 ≤ n * (1 + min a1 4097) := Int.mul_nonneg m0 (by omega)
    have k1' : 0 ≤ n * (1 + a1) := Int.mul_nonneg m0 (by omega)
    have k2 : 0 ≤ n * min a2 9 := Int.mul_nonneg m0 (by omega)
    have k2' : 0 ≤ n * a2 := Int.mul_nonneg m0 (by omega)
    have k3 : 0 ≤ n * (c + min a3 67108865) := Int.mul_nonneg m0 (by omega)
    have k3' : 0 ≤ n * (c + a3) := Int.mul_nonneg m0 (by omega)
    rw [Int.zero_add, Int.zero_add] at g2
    simp only [rbA, cutB, upA, rbN, upN, h4, if_true, show (4 : Int) ≠ 1 by decide, show (4 : Int) ≠ 3 by decide, if_false]
    generalize n * (1 + min a1 4097) = x1 at *
    generalize n * (1 + a1) = y1 at *
    generalize n * min a2 9 = x2 at *
    generalize n * a2 = y2 at *
    generalize n * (c + min a3 67108865) = x3 at *
    generalize n * (c + a3) = y3 at *
    exact Prod.ext (by simp only; omega) (Prod.ext (by simp only; omega) (by simp only; omega))
  by_cases h3 : d = 3
  · simp only [rbA, cutB, upA, rbN, upN, h3, if_true, show (3 : Int) ≠ 1 by decide, show (3 : Int) ≠ 4 by decide, if_false]
    exact Prod.ext (by simp only; omega) (Prod.ext (by simp only; omega) (by simp only; omega))
  obtain ⟨e1, e2⟩ := h0 h3 h4
  injection e1 with e1 e1'
  injection e1' with e1' e1''
  injection e2 with e2 e2'
  injection e2' with e2' e2''
  subst e1 e1' e1'' e2 e2' e2''
  by_cases h1 : d = 1
  · simp only [rbA, cutB, upA, rbN, upN, h1, if_true, show (1 : Int) ≠ 3 by decide, show (1 : Int) ≠ 4 by decide, if_false]
    exact Prod.ext (by simp only; omega) (Prod.ext (by simp only; omega) (by simp only; omega))
  · simp only [rbA, cutB, upA, rbN, upN, h1, h3, h4, if_false]
    exact Prod.ext (by simp only; omega) (Prod.ext (by simp only; omega) (by simp only; omega))
theorem inU_zero : inU (0, 0, 0) := by unfold inU; simp only; omega
mutual
theorem rbL_cut : ∀ (ks : List Sp) (s : Int × Int × Int), numL ks → shL ks → inU s → rbL ks (cutB s) = cutB (upL ks s)
  | [], s, _, _, _ => by rw [rbL, upL]
  | k :: ks, s, hn, hk, hs => by
    rw [numL] at hn
    rw [shL] at hk
    rw [rbL, upL, rbO_cut k s hn.1 hk.1 hs]
    exact rbL_cut ks _ hn.2 hk.2 (upA_in hs (upO_in k hn.1))
theorem rbO_cut : ∀ (k : Sp) (s : Int × Int × Int), numO k → shO k → inU s → rbA (cutB s) (rbO k) = cutB (upA s (upO k))
  | .mk d c _ n _ th el _, s, hn, hk, hs => by
    rw [numO] at hn
    rw [shO] at hk
    have h1 := rbL_cut th (0, 0, 0) hn.2.1 hk.2.2.1 inU_zero
    have h2 := rbL_cut el (0, 0, 0) hn.2.2 hk.2.2.2 inU_zero
    have hz : cutB (0, 0, 0) = (0, 0, 0) := by decide
    rw [hz] at h1 h2
    rw [rbO, upO, h1, h2]
    refine rbN_cut hn.1 hs (upL_in th _ hn.2.1 inU_zero) (upL_in el _ hn.2.2 inU_zero) fun h3 h4 => ?_
    obtain ⟨rfl, rfl⟩ := hk.1 h3 h4
    rw [upL]
    exact ⟨rfl, rfl⟩
end
theorem shaped_sh {vs : List Vr} {nh : Nat} {last : Bool} {d v n : Int} {z : Bool} {th el : List Sp} {bs : List Int} (h : shapedB vs nh last d v n z th.length el.length bs = true) : (d ≠ 3 → d ≠ 4 → th = [] ∧ el = []) ∧ (d = 4 → el = []) := by
  have nil : ∀ {l : List Sp}, l.length = 0 → l = [] := fun h => List.length_eq_zero_iff.1 h
  unfold shapedB at h
  refine ⟨fun h3 h4 => ?_, fun h4 => ?_⟩
  · rw [if_neg h3, if_neg h4] at h
    repeat' split at h
    all_goals first
      | exact absurd h (by decide)
      | (simp only [Bool.and_eq_true, decide_eq_true_eq] at h; exact ⟨nil (by simp only [h]), nil (by simp only [h])⟩)
  · subst h4
    simp only [Bool.and_eq_true, decide_eq_true_eq, if_false, if_true, show (4 : Int) ≠ 0 by decide, show (4 : Int) ≠ 1 by decide, show (4 : Int) ≠ 2 by decide, show (4 : Int) ≠ 3 by decide] at h
    exact nil h.1.2
mutual
theorem stepC_sh : ∀ (k : Sp) (vs : List Vr) (nh : Nat) (last : Bool), stepC vs nh last k = 0 → shO k
  | .mk d x1 v n (.mk o tn tk) th el bs, vs, nh, last, h => by
    have hf := stepC_fine h
    rw [stepC] at h
    rw [shO]
    by_cases e1 : shapedB vs nh last d v n (zeroB o tn tk.length) th.length el.length bs = false
    · rw [if_pos e1] at h; exact absurd h (by decide)
    have g := shaped_sh (by simpa using e1)
    exact ⟨g.1, g.2, stepsC_sh th vs nh false hf.th, stepsC_sh el vs nh false hf.el⟩
theorem stepsC_sh : ∀ (ks : List Sp) (vs : List Vr) (nh : Nat) (top : Bool), stepsC vs nh top ks = 0 → shL ks
  | [], _, _, _, _ => by rw [shL]; trivial
  | k :: ks, vs, nh, top, h => by
    rw [stepsC] at h
    rw [shL]
    by_cases e : stepC vs nh (top && ks.isEmpty) k = 0
    · rw [if_neg (by simpa using e)] at h
      exact ⟨stepC_sh k vs nh _ e, stepsC_sh ks vs nh top h⟩
    · rw [if_pos e] at h; exact absurd h e
end
theorem bad_eq {ks : List Sp} {vs : List Vr} {nh : Nat} (h : stepsC vs nh true ks = 0) : rbL ks (0, 0, 0) = cutB (upL ks (0, 0, 0)) ∧ upBad (rbL ks (0, 0, 0)) = upBad (upL ks (0, 0, 0)) := by
  have h1 := rbL_cut ks (0, 0, 0) (stepsC_num ks vs nh true h) (stepsC_sh ks vs nh true h) inU_zero
  have hz : cutB (0, 0, 0) = (0, 0, 0) := by decide
  rw [hz] at h1
  refine ⟨h1, ?_⟩
  rw [h1]
  unfold upBad cutB
  simp only
  rw [decide_eq_decide.2 (show 4096 < min (upL ks (0, 0, 0)).1 4097 ↔ 4096 < (upL ks (0, 0, 0)).1 by omega), decide_eq_decide.2 (show 8 < min (upL ks (0, 0, 0)).2.1 9 ↔ 8 < (upL ks (0, 0, 0)).2.1 by omega), decide_eq_decide.2 (show 67108864 < min (upL ks (0, 0, 0)).2.2 67108865 ↔ 67108864 < (upL ks (0, 0, 0)).2.2 by omega)]
theorem hdeep_drop {hs : List Ht} {i : Nat} {h : Ht} (hi : hs[i]? = some h) : hdeep (hs.drop i) = (decide (12 < tdep h.t) || hdeep (hs.drop (i + 1))) := by
  obtain ⟨hl, rfl⟩ := List.getElem?_eq_some_iff.1 hi
  rw [List.drop_eq_getElem_cons hl, hdeep]

set_option maxRecDepth 100000 in
set_option maxHeartbeats 4000000 in
theorem termNodes_any (m : Nat) : ∀ (o n : Int) (ks : List Tm) (l : Nat) (A : Option Addr) (c : Nat) (w : World) (r : Nat), ks.length = l → Tm.cnt (.mk o n ks) ≤ m → Tm.cnt (.mk o n ks) ≤ 1000000 → TOk w A c ks → Hid (Tm.cnt (.mk o n ks) = r) →
    Calls Tryz.prog 74 #[.agg #[.int .i64 o, .int .i64 n, .slice A l c]] w fun e w' => e = .returned (.int .i64 (r : Nat)) ∧ Below w.heap.size w w' := by
  induction m with
  | zero => intro o n ks l A c w r _ h; have := Tm.cnt_pos (.mk o n ks); omega
  | succ m ih =>
    intro o n ks l A c w r hl hm hm6 ht H
    have IH := Lib.hid ih
    have HM : Hid (Tm.cntL ks ≤ m ∧ Tm.cntL ks ≤ 1000000) := by show _ ∧ _; simp only [Tm.cnt] at hm hm6; omega
    have HL := Lib.hid hl
    have HT := Lib.hid ht
    have hlm : l ≤ 9223372036854775807 := by have h1 := ht.1; have h2 := ht.2.1; unfold maxLen at h2; omega
    have HC := Lib.hid (boxT_cs w o n A l c)
    have HB := Lib.hid (boxT_below w o n A l c)
    have hr6 : r ≤ 1000000 := by rw [← H.out]; exact hm6
    have HS0 : Hid (1 + Tm.cntL (ks.drop 0) = r) := by show _ = _; rw [← H.out, List.drop_zero]; rw [Tm.cnt]
    clear ih hm hl ht H hm6
    go_enter Tryz.func74, Tryz.ntmps74
    go_wp2_with fail
    go_loopw [3, 4] (fun u v wr => ∃ (k s : Nat), k ≤ l ∧ u = .int .i64 s ∧ v = .int .i64 k ∧ Hid (s + Tm.cntL (ks.drop k) = r) ∧ Hid (Below w.heap.size w wr) ∧ Hid (Cs wr w.heap.size [.int .i64 o, .int .i64 n, .slice A l c])) (fun _ v _ => l - (intOf v).toNat)
    case atStart => exact ⟨0, 1, by omega, rfl, rfl, HS0, HB, HC⟩
    case round =>
      clear HS0 HB HC
      obtain ⟨k, s, hk, rfl, rfl, HS, HB, HC⟩ := hrel
      have r0 := HC.out.at 0 _ rfl
      have r1 := HC.out.at 1 _ rfl
      have r2 := HC.out.at 2 _ rfl
      by_cases hlt : k < l
      · have hkl : k < ks.length := by rw [HL.out]; exact hlt
        have hlt' : (k : Int) < (l : Int) := by omega
        obtain ⟨o', n', ks', g, f, A', c', hkid, hA, hg, hok, k0, k1, k2⟩ := (HT.out.below HB.out).kid k hkl
        subst hA
        obtain ⟨l', hl'⟩ : ∃ l', ks'.length = l' := ⟨_, rfl⟩
        rw [hl'] at k2
        obtain ⟨z, hz⟩ : ∃ z, Tm.cnt (.mk o' n' ks') = z := ⟨_, rfl⟩
        have HZ := Lib.hid hz
        have hcm : Tm.cnt (.mk o' n' ks') ≤ m ∧ Tm.cnt (.mk o' n' ks') ≤ 1000000 := by have := Tm.cntL_get ks k hkl; rw [hkid] at this; exact ⟨Nat.le_trans this HM.out.1, Nat.le_trans this HM.out.2⟩
        have HCM := Lib.hid hcm
        have HS2 : Hid (s + z + Tm.cntL (ks.drop (k + 1)) = r) := by
          show _ = _
          have := HS.out
          rw [List.drop_eq_getElem_cons hkl, hkid, Tm.cntL, hz] at this
          omega
        have hsz : s + z ≤ 1000000 := by have := HS2.out; omega
        have HOK := Lib.hid hok
        have HL' := Lib.hid hl'
        clear hok hkid hl' hz hcm HS
        go_wp2_with fail
        go_at_call 74
        refine (IH.out o' n' ks' l' A' c' _ z HL'.out HCM.out.1 HCM.out.2 HOK.out HZ).mono ?_
        rintro e w3 ⟨rfl, hb3⟩
        have HB3 := Lib.hid (HB.out.trans (hb3.mono HB.out.size))
        have HC3 := Lib.hid (HC.out.next hb3)
        clear hb3 HB HC HOK k0 k1 k2 r0 r1 r2
        go_wp2_with fail
        go_roundw
        case rel => exact ⟨k + 1, s + z, by omega, by go_num, by go_num, HS2, HB3, HC3⟩
        case measure => simp [intOf]; omega
      · obtain rfl : k = l := by omega
        have hr : s = r := by have := HS.out; rw [List.drop_of_length_le (by rw [HL.out]; exact Nat.le_refl _)] at this; rw [Tm.cntL] at this; omega
        subst hr
        clear HS
        go_wp2_with fail
        go_ret
        exact ⟨by first | rfl | exact ret_int (by omega), HB.out⟩

set_option maxRecDepth 100000 in
set_option maxHeartbeats 4000000 in
theorem termDepth_any (m : Nat) : ∀ (o n : Int) (ks : List Tm) (l : Nat) (A : Option Addr) (c : Nat) (w : World) (r : Nat), ks.length = l → Tm.cnt (.mk o n ks) ≤ m → Tm.cnt (.mk o n ks) ≤ 1000000 → TOk w A c ks → Hid (tdep (.mk o n ks) = r) →
    Calls Tryz.prog 75 #[.agg #[.int .i64 o, .int .i64 n, .slice A l c]] w fun e w' => e = .returned (.int .i64 (r : Nat)) ∧ Below w.heap.size w w' := by
  induction m with
  | zero => intro o n ks l A c w r _ h; have := Tm.cnt_pos (.mk o n ks); omega
  | succ m ih =>
    intro o n ks l A c w r hl hm hm6 ht H
    have IH := Lib.hid ih
    have HM : Hid (Tm.cntL ks ≤ m ∧ Tm.cntL ks ≤ 1000000) := by show _ ∧ _; simp only [Tm.cnt] at hm hm6; omega
    have HL := Lib.hid hl
    have HT := Lib.hid ht
    have hlm : l ≤ 9223372036854775807 := by have h1 := ht.1; have h2 := ht.2.1; unfold maxLen at h2; omega
    have HC := Lib.hid (boxT_cs w o n A l c)
    have HB := Lib.hid (boxT_below w o n A l c)
    have hr6 : r ≤ 1000000 := by rw [← H.out]; exact Nat.le_trans (tdep_le _) hm6
    have HS0 : Hid (max 0 (tdepL (ks.drop 0)) + 1 = r) := by show _ = _; rw [← H.out, List.drop_zero]; rw [tdep]; omega
    clear ih hm hl ht H hm6
    go_enter Tryz.func75, Tryz.ntmps75
    go_wp2_with fail
    go_loopw [3, 4] (fun u v wr => ∃ (k s : Nat), k ≤ l ∧ u = .int .i64 s ∧ v = .int .i64 k ∧ Hid (max s (tdepL (ks.drop k)) + 1 = r) ∧ Hid (Below w.heap.size w wr) ∧ Hid (Cs wr w.heap.size [.int .i64 o, .int .i64 n, .slice A l c])) (fun _ v _ => l - (intOf v).toNat)
    case atStart => exact ⟨0, 0, by omega, rfl, rfl, HS0, HB, HC⟩
    case round =>
      clear HS0 HB HC
      obtain ⟨k, s, hk, rfl, rfl, HS, HB, HC⟩ := hrel
      have r0 := HC.out.at 0 _ rfl
      have r1 := HC.out.at 1 _ rfl
      have r2 := HC.out.at 2 _ rfl
      by_cases hlt : k < l
      · have hkl : k < ks.length := by rw [HL.out]; exact hlt
        have hlt' : (k : Int) < (l : Int) := by omega
        obtain ⟨o', n', ks', g, f, A', c', hkid, hA, hg, hok, k0, k1, k2⟩ := (HT.out.below HB.out).kid k hkl
        subst hA
        obtain ⟨l', hl'⟩ : ∃ l', ks'.length = l' := ⟨_, rfl⟩
        rw [hl'] at k2
        obtain ⟨z, hz⟩ : ∃ z, tdep (.mk o' n' ks') = z := ⟨_, rfl⟩
        have HZ := Lib.hid hz
        have hcm : Tm.cnt (.mk o' n' ks') ≤ m ∧ Tm.cnt (.mk o' n' ks') ≤ 1000000 := by have := Tm.cntL_get ks k hkl; rw [hkid] at this; exact ⟨Nat.le_trans this HM.out.1, Nat.le_trans this HM.out.2⟩
        have HCM := Lib.hid hcm
        have HS2 : Hid (max (max s z) (tdepL (ks.drop (k + 1))) + 1 = r) := by
          show _ = _
          have := HS.out
          rw [List.drop_eq_getElem_cons hkl, hkid, tdepL, hz] at this
          omega
        have hs6 : s ≤ 1000000 := by have := HS2.out; omega
        have hz6 : z ≤ 1000000 := by have := HS2.out; omega
        have HOK := Lib.hid hok
        have HL' := Lib.hid hl'
        clear hok hkid hl' hz hcm HS
        go_wp2_with fail
        go_at_call 75
        refine (IH.out o' n' ks' l' A' c' _ z HL'.out HCM.out.1 HCM.out.2 HOK.out HZ).mono ?_
        rintro e w3 ⟨rfl, hb3⟩
        have HB3 := Lib.hid (HB.out.trans (hb3.mono HB.out.size))
        have HC3 := Lib.hid (HC.out.next hb3)
        clear hb3 HB HC HOK k0 k1 k2 r0 r1 r2
        by_cases hc : s < z
        · have hd : decide (s < z) = true := decide_eq_true hc
          have hc' : (s : Int) < (z : Int) := by omega
          rw [show max s z = z by omega] at HS2
          go_wp2_with fail
          go_roundw
          case rel => exact ⟨k + 1, z, by omega, by go_num, by go_num, HS2, HB3, HC3⟩
          case measure => simp [intOf]; omega
        · have hd : decide (s < z) = false := decide_eq_false hc
          have hc' : ¬ (s : Int) < (z : Int) := by omega
          rw [show max s z = s by omega] at HS2
          go_wp2_with fail
          go_roundw
          case rel => exact ⟨k + 1, s, by omega, by go_num, by go_num, HS2, HB3, HC3⟩
          case measure => simp [intOf]; omega
      · obtain rfl : k = l := by omega
        have hr : s + 1 = r := by have := HS.out; rw [List.drop_of_length_le (by rw [HL.out]; exact Nat.le_refl _)] at this; rw [tdepL] at this; omega
        subst hr
        clear HS
        go_wp2_with fail
        go_ret
        exact ⟨by first | rfl | exact ret_int (by omega), HB.out⟩

set_option maxRecDepth 100000 in
set_option maxHeartbeats 8000000 in
theorem nodes_any (m : Nat) : ∀ (ks : List Sp) (l : Nat) (A : Option Addr) (c : Nat) (w : World) (r : Nat), ks.length = l → Sp.cntL ks ≤ m → Sp.cntL ks ≤ 1000000 → SOk w A c ks → Hid (Sp.cntL ks = r) →
    Calls Tryz.prog 73 #[.slice A l c] w fun e w' => e = .returned (.int .i64 (r : Nat)) ∧ Below w.heap.size w w' := by
  induction m with
  | zero =>
    intro ks l A c w r hl hm hm6 ht H
    have hk : ks = [] := by
      cases ks with
      | nil => rfl
      | cons k ks => have := Sp.cnt_pos k; simp only [Sp.cntL] at hm; omega
    subst hk
    have hl0 : l = 0 := hl.symm
    subst hl0
    have hr : r = 0 := by rw [← H.out, Sp.cntL]
    subst hr
    clear ht H
    go_enter Tryz.func73, Tryz.ntmps73
    go_wp2_with fail
    go_loopw [3, 4] (fun u v wr => u = .int .i64 0 ∧ v = .int .i64 0 ∧ wr = w) (fun _ _ _ => 0)
    case atStart => exact ⟨rfl, rfl, rfl⟩
    case round =>
      obtain ⟨rfl, rfl, rfl⟩ := hrel
      go_wp2_with fail
      go_ret
      exact ⟨rfl, Below.refl _ _⟩
  | succ m ih =>
    intro ks l A c w r hl hm hm6 ht H
    have IH := Lib.hid ih
    have HM := Lib.hid hm
    have HM6 := Lib.hid hm6
    have HL := Lib.hid hl
    have HT := Lib.hid ht
    have hlm : l ≤ 1000000 := by have := Sp.len_cntL ks; omega
    have hr6 : r ≤ 1000000 := by rw [← H.out]; exact hm6
    have HS0 : Hid (0 + Sp.cntL (ks.drop 0) = r) := by show _ = _; rw [← H.out, List.drop_zero]; omega
    clear ih hm hm6 hl ht H
    go_enter Tryz.func73, Tryz.ntmps73
    go_wp2_with fail
    go_loopw [3, 4] (fun u v wr => ∃ k s : Nat, k ≤ l ∧ u = .int .i64 (s : Nat) ∧ v = .int .i64 k ∧ Hid (s + Sp.cntL (ks.drop k) = r) ∧ Hid (Below w.heap.size w wr)) (fun _ v _ => l - (intOf v).toNat)
    case atStart => exact ⟨0, 0, by omega, rfl, rfl, HS0, Lib.hid (Below.refl _ _)⟩
    case round =>
      clear HS0
      obtain ⟨k, s, hk, rfl, rfl, HS, HB⟩ := hrel
      by_cases hlt : k < l
      · have hkl : k < ks.length := by rw [HL.out]; exact hlt
        have hlt' : (k : Int) < (l : Int) := by omega
        have hk0 : (0 : Int) ≤ (k : Int) := by omega
        obtain ⟨d, x1, v, n, o, tn, tk, th, el, bs, g, f, At, ct, Ah, ch, Ae, ce, Ab, cb, hkid, hA, hg, hsc, htok, hth, hel, hbs⟩ := (HT.out.below HB.out).step k hkl
        subst hA
        obtain ⟨lt, hlt1⟩ : ∃ l, tk.length = l := ⟨_, rfl⟩
        obtain ⟨lh, hlh⟩ : ∃ l, th.length = l := ⟨_, rfl⟩
        obtain ⟨le, hle⟩ : ∃ l, el.length = l := ⟨_, rfl⟩
        obtain ⟨lb, hlb⟩ : ∃ l, bs.length = l := ⟨_, rfl⟩
        rw [hlt1, hlh, hle, hlb] at hsc
        rw [hlb] at hbs
        have hdr : ks.drop k = .mk d x1 v n (.mk o tn tk) th el bs :: ks.drop (k + 1) := by rw [List.drop_eq_getElem_cons hkl, hkid]
        have hcm : 1 + Tm.cnt (.mk o tn tk) + Sp.cntL th + Sp.cntL el ≤ m + 1 := by
          have := Sp.cntL_get ks k hkl
          rw [hkid] at this
          simp only [Sp.cnt] at this
          have := HM.out
          omega
        have HLT := Lib.hid hlt1
        have HLH := Lib.hid hlh
        have HLE := Lib.hid hle
        have HLB := Lib.hid hlb
        have HCM := Lib.hid hcm
        obtain ⟨c0, c1, c2, c3, c4, c5, c6, c7, c8, c9⟩ := hsc
        have HTK := Lib.hid htok
        have HHH := Lib.hid hth
        have HHE := Lib.hid hel
        have HSM : Hid (Tm.cnt (.mk o tn tk) ≤ 1000000 ∧ Sp.cntL th ≤ 1000000 ∧ Sp.cntL el ≤ 1000000 ∧ Sp.cntL th ≤ m ∧ Sp.cntL el ≤ m) := Lib.hid (by have := HM6.out; have h3 := Sp.cntL_get ks k hkl; rw [hkid] at h3; simp only [Sp.cnt] at h3; have h4 := Tm.cnt_pos (.mk o tn tk); omega)
        have HCELL : Hid (∀ W, Below wr.heap.size wr W → SCell W g (f + k * 10) d x1 v n o tn At lt ct Ah lh ch Ae le ce Ab lb cb) := Lib.hid fun W hb => SCell.below ⟨c0, c1, c2, c3, c4, c5, c6, c7, c8, c9⟩ hg hb
        obtain ⟨z1, hz1⟩ : ∃ z, Tm.cnt (.mk o tn tk) = z := ⟨_, rfl⟩
        obtain ⟨z2, hz2⟩ : ∃ z, Sp.cntL th = z := ⟨_, rfl⟩
        obtain ⟨z3, hz3⟩ : ∃ z, Sp.cntL el = z := ⟨_, rfl⟩
        have HS2 : Hid (s + 1 + z1 + z2 + z3 + Sp.cntL (ks.drop (k + 1)) = r) := by
          show _ = _
          have := HS.out
          rw [hdr, Sp.cntL, Sp.cnt, hz1, hz2, hz3] at this
          omega
        have hsum : s + 1 + z1 + z2 + z3 ≤ 1000000 := by have := HS2.out; omega
        have HZ1 := Lib.hid hz1
        have HZ2 := Lib.hid hz2
        have HZ3 := Lib.hid hz3
        clear hz1 hz2 hz3
        clear hkid hdr hcm hlt1 hlh hle hlb htok hth hel hbs HS
        go_upto_region 5 with fail
        have KP : Hid (∀ W, Below wr.heap.size wr W → (W.cell? ⟨g, f + k * 10 + 4, none⟩ = some (.int .i64 o) ∧ W.cell? ⟨g, f + k * 10 + 5, none⟩ = some (.int .i64 tn) ∧ W.cell? ⟨g, f + k * 10 + 6, none⟩ = some (.slice At lt ct) ∧ W.cell? ⟨g, f + k * 10 + 7, none⟩ = some (.slice Ah lh ch) ∧ W.cell? ⟨g, f + k * 10 + 8, none⟩ = some (.slice Ae le ce))) := Lib.hid fun W hb => by
          have h := HCELL.out W hb
          exact ⟨h.c4, h.c5, h.c6, h.c7, h.c8⟩
        have hw1 : IntKind.i64.wrap ((s : Int) + 1) = (s : Int) + 1 := IntWalk.i64_in _ (by omega)
        have hw2 : IntKind.i64.wrap ((s : Int) + 1 + (z1 : Int)) = (s : Int) + 1 + (z1 : Int) := IntWalk.i64_in _ (by omega)
        have hw3 : IntKind.i64.wrap ((s : Int) + 1 + (z1 : Int) + (z2 : Int)) = (s : Int) + 1 + (z1 : Int) + (z2 : Int) := IntWalk.i64_in _ (by omega)
        have hw4 : IntKind.i64.wrap ((s : Int) + 1 + (z1 : Int) + (z2 : Int) + (z3 : Int)) = (s : Int) + 1 + (z1 : Int) + (z2 : Int) + (z3 : Int) := IntWalk.i64_in _ (by omega)
        have HCM2 := HCM
        clear c0 c1 c2 c3 c4 c5 c6 c7 c8 c9
        go_region_held3 (fun W => W.cell? ⟨g, f + k * 10 + 4, none⟩ = some (.int .i64 o) ∧ W.cell? ⟨g, f + k * 10 + 5, none⟩ = some (.int .i64 tn) ∧ W.cell? ⟨g, f + k * 10 + 6, none⟩ = some (.slice At lt ct) ∧ W.cell? ⟨g, f + k * 10 + 7, none⟩ = some (.slice Ah lh ch) ∧ W.cell? ⟨g, f + k * 10 + 8, none⟩ = some (.slice Ae le ce)) (first | exact KP.out _ HD3.out | exact KP.out _ HD2.out | exact KP.out _ HD1.out | exact KP.out _ (Below.refl _ _).drew) (first
          | (go_at_call 73; refine (IH.out el le Ae ce _ z3 HLE.out HSM.out.2.2.2.2 HSM.out.2.2.1 (HHE.out.below HD2.out) HZ3).mono ?_; rintro e w7 ⟨rfl, hb3⟩; have HD3 := Lib.hid (HD2.out.trans (hb3.mono HD2.out.size)); clear hb3)
          | (go_at_call 73; refine (IH.out th lh Ah ch _ z2 HLH.out HSM.out.2.2.2.1 HSM.out.2.1 (HHH.out.below HD1.out) HZ2).mono ?_; rintro e w6 ⟨rfl, hb2⟩; have HD2 := Lib.hid (HD1.out.trans (hb2.mono HD1.out.size)); clear hb2)
          | (go_at_call 74; refine (termNodes_any (Tm.cnt (.mk o tn tk)) o tn tk lt At ct _ z1 HLT.out (Nat.le_refl _) HSM.out.1 (HTK.out.below (Below.refl _ _).drew) HZ1).mono ?_; rintro e w5 ⟨rfl, hb1⟩; have HD1 := Lib.hid ((Below.refl wr.heap.size wr).drew.trans (hb1.mono (Nat.le_refl _))); clear hb1))
        have HB6 := Lib.hid (HB.out.trans (HD3.out.mono HB.out.size))
        clear HD1 HD2 HD3 KP HB HHH HHE HTK hw1 hw2 hw3 hw4 HCELL
        go_wp2_with fail
        go_roundw
        case rel => exact ⟨k + 1, s + 1 + z1 + z2 + z3, by omega, by first | go_num | rfl, by go_num, HS2, HB6⟩
        case measure => simp [intOf]; omega
      · obtain rfl : k = l := by omega
        have hr : s = r := by have := HS.out; rw [List.drop_of_length_le (by rw [HL.out]; exact Nat.le_refl _), Sp.cntL] at this; exact this
        subst hr
        clear HS
        go_wp2_with fail
        go_ret
        exact ⟨rfl, HB.out⟩

set_option maxRecDepth 100000 in
set_option maxHeartbeats 8000000 in
theorem stepDepth_any (m : Nat) : ∀ (ks : List Sp) (l : Nat) (A : Option Addr) (c : Nat) (w : World) (r : Nat), ks.length = l → Sp.cntL ks ≤ m → Sp.cntL ks ≤ 1000000 → SOk w A c ks → Hid (sdepL ks = r) →
    Calls Tryz.prog 76 #[.slice A l c] w fun e w' => e = .returned (.int .i64 (r : Nat)) ∧ Below w.heap.size w w' := by
  induction m with
  | zero =>
    intro ks l A c w r hl hm hm6 ht H
    have hk : ks = [] := by
      cases ks with
      | nil => rfl
      | cons k ks => have := Sp.cnt_pos k; simp only [Sp.cntL] at hm; omega
    subst hk
    have hl0 : l = 0 := hl.symm
    subst hl0
    have hr : r = 0 := by rw [← H.out, sdepL]
    subst hr
    clear ht H
    go_enter Tryz.func76, Tryz.ntmps76
    go_wp2_with fail
    go_loopw [3, 4] (fun u v wr => u = .int .i64 0 ∧ v = .int .i64 0 ∧ wr = w) (fun _ _ _ => 0)
    case atStart => exact ⟨rfl, rfl, rfl⟩
    case round =>
      obtain ⟨rfl, rfl, rfl⟩ := hrel
      go_wp2_with fail
      go_ret
      exact ⟨rfl, Below.refl _ _⟩
  | succ m ih =>
    intro ks l A c w r hl hm hm6 ht H
    have IH := Lib.hid ih
    have HM := Lib.hid hm
    have HM6 := Lib.hid hm6
    have HL := Lib.hid hl
    have HT := Lib.hid ht
    have hlm : l ≤ 1000000 := by have := Sp.len_cntL ks; omega
    have hr6 : r ≤ 1000000 := by rw [← H.out]; exact Nat.le_trans (sdepL_le ks) hm6
    have HS0 : Hid (max 0 (sdepL (ks.drop 0)) = r) := by show _ = _; rw [← H.out, List.drop_zero]; omega
    clear ih hm hm6 hl ht H
    go_enter Tryz.func76, Tryz.ntmps76
    go_wp2_with fail
    go_loopw [3, 4] (fun u v wr => ∃ k s : Nat, k ≤ l ∧ u = .int .i64 (s : Nat) ∧ v = .int .i64 k ∧ Hid (max s (sdepL (ks.drop k)) = r) ∧ Hid (Below w.heap.size w wr)) (fun _ v _ => l - (intOf v).toNat)
    case atStart => exact ⟨0, 0, by omega, rfl, rfl, HS0, Lib.hid (Below.refl _ _)⟩
    case round =>
      clear HS0
      obtain ⟨k, s, hk, rfl, rfl, HS, HB⟩ := hrel
      by_cases hlt : k < l
      · have hkl : k < ks.length := by rw [HL.out]; exact hlt
        have hlt' : (k : Int) < (l : Int) := by omega
        have hk0 : (0 : Int) ≤ (k : Int) := by omega
        obtain ⟨d, x1, v, n, o, tn, tk, th, el, bs, g, f, At, ct, Ah, ch, Ae, ce, Ab, cb, hkid, hA, hg, hsc, htok, hth, hel, hbs⟩ := (HT.out.below HB.out).step k hkl
        subst hA
        obtain ⟨lt, hlt1⟩ : ∃ l, tk.length = l := ⟨_, rfl⟩
        obtain ⟨lh, hlh⟩ : ∃ l, th.length = l := ⟨_, rfl⟩
        obtain ⟨le, hle⟩ : ∃ l, el.length = l := ⟨_, rfl⟩
        obtain ⟨lb, hlb⟩ : ∃ l, bs.length = l := ⟨_, rfl⟩
        rw [hlt1, hlh, hle, hlb] at hsc
        rw [hlb] at hbs
        have hdr : ks.drop k = .mk d x1 v n (.mk o tn tk) th el bs :: ks.drop (k + 1) := by rw [List.drop_eq_getElem_cons hkl, hkid]
        have hcm : 1 + Tm.cnt (.mk o tn tk) + Sp.cntL th + Sp.cntL el ≤ m + 1 := by
          have := Sp.cntL_get ks k hkl
          rw [hkid] at this
          simp only [Sp.cnt] at this
          have := HM.out
          omega
        have HLT := Lib.hid hlt1
        have HLH := Lib.hid hlh
        have HLE := Lib.hid hle
        have HLB := Lib.hid hlb
        have HCM := Lib.hid hcm
        obtain ⟨c0, c1, c2, c3, c4, c5, c6, c7, c8, c9⟩ := hsc
        have HTK := Lib.hid htok
        have HHH := Lib.hid hth
        have HHE := Lib.hid hel
        have HSM : Hid (Tm.cnt (.mk o tn tk) ≤ 1000000 ∧ Sp.cntL th ≤ 1000000 ∧ Sp.cntL el ≤ 1000000 ∧ Sp.cntL th ≤ m ∧ Sp.cntL el ≤ m) := Lib.hid (by have := HM6.out; have h3 := Sp.cntL_get ks k hkl; rw [hkid] at h3; simp only [Sp.cnt] at h3; have h4 := Tm.cnt_pos (.mk o tn tk); omega)
        have HCELL : Hid (∀ W, Below wr.heap.size wr W → SCell W g (f + k * 10) d x1 v n o tn At lt ct Ah lh ch Ae le ce Ab lb cb) := Lib.hid fun W hb => SCell.below ⟨c0, c1, c2, c3, c4, c5, c6, c7, c8, c9⟩ hg hb
        obtain ⟨z1, hz1⟩ : ∃ z, sdepL th = z := ⟨_, rfl⟩
        obtain ⟨z2, hz2⟩ : ∃ z, sdepL el = z := ⟨_, rfl⟩
        have HS2 : Hid (max (max (max s (z1 + 1)) (z2 + 1)) (sdepL (ks.drop (k + 1))) = r) := by
          show _ = _
          have := HS.out
          rw [hdr, sdepL, sdepO, hz1, hz2] at this
          omega
        have hs6 : s ≤ 1000000 := by have := HS2.out; omega
        have h16 : z1 + 1 ≤ 1000000 := by have := HS2.out; omega
        have h26 : z2 + 1 ≤ 1000000 := by have := HS2.out; omega
        have HZ1 := Lib.hid hz1
        have HZ2 := Lib.hid hz2
        clear hz1 hz2
        clear hkid hdr hcm hlt1 hlh hle hlb htok hth hel hbs HS
        go_wp2_with fail
        go_at_call 76
        refine (IH.out th lh Ah ch _ z1 HLH.out HSM.out.2.2.2.1 HSM.out.2.1 HHH.out HZ1).mono ?_
        rintro e w5 ⟨rfl, hb1⟩
        have HD1 := Lib.hid hb1
        obtain ⟨e0, e1, e2, e3, e4, e5, e6, e7, e8, e9⟩ := HCELL.out w5 hb1
        have hg2 : g < w5.heap.size := Nat.lt_of_lt_of_le hg hb1.size
        clear hb1 c0 c1 c2 c3 c4 c5 c6 c7 c8 c9
        go_wp2_with fail
        go_at_call 76
        refine (IH.out el le Ae ce _ z2 HLE.out HSM.out.2.2.2.2 HSM.out.2.2.1 (HHE.out.below HD1.out) HZ2).mono ?_
        rintro e w6 ⟨rfl, hb2⟩
        have HB6 := Lib.hid (HB.out.trans ((HD1.out.trans (hb2.mono HD1.out.size)).mono HB.out.size))
        clear hb2 HD1 HB HHH HHE HTK HCELL e0 e1 e2 e3 e4 e5 e6 e7 e8 e9
        by_cases h1 : s < z1 + 1
        · have da : decide (s < z1 + 1) = true := decide_eq_true (by omega)
          have dai : decide (((s : Nat) : Int) < ((z1 + 1 : Nat) : Int)) = true := decide_eq_true (by omega)
          have dap : ((s : Nat) : Int) < ((z1 + 1 : Nat) : Int) := by omega
          by_cases h2 : z1 + 1 < z2 + 1
          · have db : decide (z1 + 1 < z2 + 1) = true := decide_eq_true (by omega)
            have dbi : decide (((z1 + 1 : Nat) : Int) < ((z2 + 1 : Nat) : Int)) = true := decide_eq_true (by omega)
            have dbp : ((z1 + 1 : Nat) : Int) < ((z2 + 1 : Nat) : Int) := by omega
            have HS3 := HS2
            rw [show max (max s (z1 + 1)) (z2 + 1) = z2 + 1 by omega] at HS3
            go_wp2_with fail
            go_roundw
            case rel => exact ⟨k + 1, z2 + 1, by omega, by go_num, by go_num, HS3, HB6⟩
            case measure => simp [intOf]; omega
          · have db : decide (z1 + 1 < z2 + 1) = false := decide_eq_false (by omega)
            have dbi : decide (((z1 + 1 : Nat) : Int) < ((z2 + 1 : Nat) : Int)) = false := decide_eq_false (by omega)
            have dbp : ¬ ((z1 + 1 : Nat) : Int) < ((z2 + 1 : Nat) : Int) := by omega
            have HS3 := HS2
            rw [show max (max s (z1 + 1)) (z2 + 1) = z1 + 1 by omega] at HS3
            go_wp2_with fail
            go_roundw
            case rel => exact ⟨k + 1, z1 + 1, by omega, by go_num, by go_num, HS3, HB6⟩
            case measure => simp [intOf]; omega
        · have da : decide (s < z1 + 1) = false := decide_eq_false (by omega)
          have dai : decide (((s : Nat) : Int) < ((z1 + 1 : Nat) : Int)) = false := decide_eq_false (by omega)
          have dap : ¬ ((s : Nat) : Int) < ((z1 + 1 : Nat) : Int) := by omega
          by_cases h2 : s < z2 + 1
          · have db : decide (s < z2 + 1) = true := decide_eq_true (by omega)
            have dbi : decide (((s : Nat) : Int) < ((z2 + 1 : Nat) : Int)) = true := decide_eq_true (by omega)
            have dbp : ((s : Nat) : Int) < ((z2 + 1 : Nat) : Int) := by omega
            have HS3 := HS2
            rw [show max (max s (z1 + 1)) (z2 + 1) = z2 + 1 by omega] at HS3
            go_wp2_with fail
            go_roundw
            case rel => exact ⟨k + 1, z2 + 1, by omega, by go_num, by go_num, HS3, HB6⟩
            case measure => simp [intOf]; omega
          · have db : decide (s < z2 + 1) = false := decide_eq_false (by omega)
            have dbi : decide (((s : Nat) : Int) < ((z2 + 1 : Nat) : Int)) = false := decide_eq_false (by omega)
            have dbp : ¬ ((s : Nat) : Int) < ((z2 + 1 : Nat) : Int) := by omega
            have HS3 := HS2
            rw [show max (max s (z1 + 1)) (z2 + 1) = s by omega] at HS3
            go_wp2_with fail
            go_roundw
            case rel => exact ⟨k + 1, s, by omega, by go_num, by go_num, HS3, HB6⟩
            case measure => simp [intOf]; omega
      · obtain rfl : k = l := by omega
        have hr : s = r := by have := HS.out; rw [List.drop_of_length_le (by rw [HL.out]; exact Nat.le_refl _), sdepL] at this; omega
        subst hr
        clear HS
        go_wp2_with fail
        go_ret
        exact ⟨rfl, HB.out⟩

set_option maxRecDepth 100000 in
set_option maxHeartbeats 8000000 in
theorem termsDeep_any (m : Nat) : ∀ (ks : List Sp) (l : Nat) (A : Option Addr) (c : Nat) (w : World) (r : Bool), ks.length = l → Sp.cntL ks ≤ m → Sp.cntL ks ≤ 1000000 → SOk w A c ks → Hid (tdeepL ks = r) →
    Calls Tryz.prog 77 #[.slice A l c] w fun e w' => e = .returned (.bool r) ∧ Below w.heap.size w w' := by
  induction m with
  | zero =>
    intro ks l A c w r hl hm hm6 ht H
    have hk : ks = [] := by
      cases ks with
      | nil => rfl
      | cons k ks => have := Sp.cnt_pos k; simp only [Sp.cntL] at hm; omega
    subst hk
    have hl0 : l = 0 := hl.symm
    subst hl0
    have hr : r = false := by rw [← H.out, tdeepL]
    subst hr
    clear ht H
    go_enter Tryz.func77, Tryz.ntmps77
    go_wp2_with fail
    go_loopw [3] (fun v wr => v = .int .i64 0 ∧ wr = w) (fun _ _ => 0)
    case atStart => exact ⟨rfl, rfl⟩
    case round =>
      obtain ⟨rfl, rfl⟩ := hrel
      go_wp2_with fail
      go_ret
      exact ⟨rfl, Below.refl _ _⟩
  | succ m ih =>
    intro ks l A c w r hl hm hm6 ht H
    have IH := Lib.hid ih
    have HM := Lib.hid hm
    have HM6 := Lib.hid hm6
    have HL := Lib.hid hl
    have HT := Lib.hid ht
    have hlm : l ≤ 1000000 := by have := Sp.len_cntL ks; omega
    have HS0 : Hid (tdeepL (ks.drop 0) = r) := by show _ = _; rw [← H.out, List.drop_zero]
    clear ih hm hm6 hl ht H
    go_enter Tryz.func77, Tryz.ntmps77
    go_wp2_with fail
    go_loopw [3] (fun v wr => ∃ k : Nat, k ≤ l ∧ v = .int .i64 k ∧ Hid (tdeepL (ks.drop k) = r) ∧ Hid (Below w.heap.size w wr)) (fun v _ => l - (intOf v).toNat)
    case atStart => exact ⟨0, by omega, rfl, HS0, Lib.hid (Below.refl _ _)⟩
    case round =>
      clear HS0
      obtain ⟨k, hk, rfl, HS, HB⟩ := hrel
      by_cases hlt : k < l
      · have hkl : k < ks.length := by rw [HL.out]; exact hlt
        have hlt' : (k : Int) < (l : Int) := by omega
        have hk0 : (0 : Int) ≤ (k : Int) := by omega
        obtain ⟨d, x1, v, n, o, tn, tk, th, el, bs, g, f, At, ct, Ah, ch, Ae, ce, Ab, cb, hkid, hA, hg, hsc, htok, hth, hel, hbs⟩ := (HT.out.below HB.out).step k hkl
        subst hA
        obtain ⟨lt, hlt1⟩ : ∃ l, tk.length = l := ⟨_, rfl⟩
        obtain ⟨lh, hlh⟩ : ∃ l, th.length = l := ⟨_, rfl⟩
        obtain ⟨le, hle⟩ : ∃ l, el.length = l := ⟨_, rfl⟩
        obtain ⟨lb, hlb⟩ : ∃ l, bs.length = l := ⟨_, rfl⟩
        rw [hlt1, hlh, hle, hlb] at hsc
        rw [hlb] at hbs
        have hdr : ks.drop k = .mk d x1 v n (.mk o tn tk) th el bs :: ks.drop (k + 1) := by rw [List.drop_eq_getElem_cons hkl, hkid]
        have hcm : 1 + Tm.cnt (.mk o tn tk) + Sp.cntL th + Sp.cntL el ≤ m + 1 := by
          have := Sp.cntL_get ks k hkl
          rw [hkid] at this
          simp only [Sp.cnt] at this
          have := HM.out
          omega
        have HLT := Lib.hid hlt1
        have HLH := Lib.hid hlh
        have HLE := Lib.hid hle
        have HLB := Lib.hid hlb
        have HCM := Lib.hid hcm
        obtain ⟨c0, c1, c2, c3, c4, c5, c6, c7, c8, c9⟩ := hsc
        have HTK := Lib.hid htok
        have HHH := Lib.hid hth
        have HHE := Lib.hid hel
        have HSM : Hid (Tm.cnt (.mk o tn tk) ≤ 1000000 ∧ Sp.cntL th ≤ 1000000 ∧ Sp.cntL el ≤ 1000000 ∧ Sp.cntL th ≤ m ∧ Sp.cntL el ≤ m) := Lib.hid (by have := HM6.out; have h3 := Sp.cntL_get ks k hkl; rw [hkid] at h3; simp only [Sp.cnt] at h3; have h4 := Tm.cnt_pos (.mk o tn tk); omega)
        have HCELL : Hid (∀ W, Below wr.heap.size wr W → SCell W g (f + k * 10) d x1 v n o tn At lt ct Ah lh ch Ae le ce Ab lb cb) := Lib.hid fun W hb => SCell.below ⟨c0, c1, c2, c3, c4, c5, c6, c7, c8, c9⟩ hg hb
        obtain ⟨z1, hz1⟩ : ∃ z, tdep (.mk o tn tk) = z := ⟨_, rfl⟩
        obtain ⟨z2, hz2⟩ : ∃ z, tdeepL th = z := ⟨_, rfl⟩
        obtain ⟨z3, hz3⟩ : ∃ z, tdeepL el = z := ⟨_, rfl⟩
        obtain ⟨b1, hb1⟩ : ∃ z, decide (12 < z1) = z := ⟨_, rfl⟩
        have HS2 : Hid (((b1 || (z2 || z3)) || tdeepL (ks.drop (k + 1))) = r) := by
          show _ = _
          have := HS.out
          rw [hdr, tdeepL, tdeepO, hz1, hz2, hz3, hb1] at this
          exact this
        have hz6 : z1 ≤ 1000000 := by rw [← hz1]; exact Nat.le_trans (tdep_le _) HSM.out.1
        have HZ1 := Lib.hid hz1
        have HZ2 := Lib.hid hz2
        have HZ3 := Lib.hid hz3
        have HBB := Lib.hid hb1
        clear hz1 hz2 hz3 hb1
        clear hkid hdr hcm hlt1 hlh hle hlb htok hth hel hbs HS
        go_upto_region 4 with fail
        go_cut [32] from 10 to 32 (fun u wx => u = .bool (b1 || (z2 || z3)) ∧ Hid (Below wr.heap.size wr wx))
        case first =>
          go_wp2_with fail
          go_at_call 75
          refine (termDepth_any (Tm.cnt (.mk o tn tk)) o tn tk lt At ct _ z1 HLT.out (Nat.le_refl _) HSM.out.1 HTK.out HZ1).mono ?_
          rintro e w5 ⟨rfl, hb1⟩
          have HD1 := Lib.hid hb1
          obtain ⟨e0, e1, e2, e3, e4, e5, e6, e7, e8, e9⟩ := HCELL.out w5 hb1
          have hg2 : g < w5.heap.size := Nat.lt_of_lt_of_le hg hb1.size
          clear hb1 c0 c1 c2 c3 c4 c5 c6 c7 c8 c9
          cases b1 with
          | true =>
            have h12 : 12 < z1 := of_decide_eq_true HBB.out
            have da : decide (12 < z1) = true := decide_eq_true (by omega)
            have dai : decide (((12 : Nat) : Int) < ((z1 : Nat) : Int)) = true := decide_eq_true (by omega)
            have dap : ((12 : Nat) : Int) < ((z1 : Nat) : Int) := by omega
            have h12i : (12 : Int) < (z1 : Int) := by omega
            have h12d : decide ((12 : Int) < (z1 : Int)) = true := decide_eq_true h12i
            go_wp2_with fail
            go_meet
            case rel => exact ⟨rfl, HD1⟩
          | false =>
            have h12 : ¬ 12 < z1 := of_decide_eq_false HBB.out
            have h12i : ¬ (12 : Int) < (z1 : Int) := by omega
            have h12d : decide ((12 : Int) < (z1 : Int)) = false := decide_eq_false h12i
            have h12n : decide (12 < z1) = false := decide_eq_false h12
            go_wp2_with fail
            go_at_call 77
            refine (IH.out th lh Ah ch _ z2 HLH.out HSM.out.2.2.2.1 HSM.out.2.1 (HHH.out.below HD1.out) HZ2).mono ?_
            rintro e w6 ⟨rfl, hb2⟩
            have HD2 := Lib.hid (HD1.out.trans (hb2.mono HD1.out.size))
            clear hb2 e0 e1 e2 e3 e4 e5 e6 e7 e8 e9
            obtain ⟨e0, e1, e2, e3, e4, e5, e6, e7, e8, e9⟩ := HCELL.out w6 HD2.out
            have hg3 : g < w6.heap.size := Nat.lt_of_lt_of_le hg HD2.out.size
            cases z2 with
            | true =>
              go_wp2_with fail
              go_meet
              case rel => exact ⟨rfl, HD2⟩
            | false =>
              go_wp2_with fail
              go_at_call 77
              refine (IH.out el le Ae ce _ z3 HLE.out HSM.out.2.2.2.2 HSM.out.2.2.1 (HHE.out.below HD2.out) HZ3).mono ?_
              rintro e w7 ⟨rfl, hb3⟩
              have HD3 := Lib.hid (HD2.out.trans (hb3.mono HD2.out.size))
              clear hb3 e0 e1 e2 e3 e4 e5 e6 e7 e8 e9
              go_wp2_with fail
              go_meet
              case rel => exact ⟨rfl, HD3⟩
        case rest =>
          obtain ⟨rfl, HX⟩ := hcut
          have HB6 := Lib.hid (HB.out.trans (HX.out.mono HB.out.size))
          clear HX HHH HHE HTK HB HCELL c0 c1 c2 c3 c4 c5 c6 c7 c8 c9
          obtain ⟨zz, hzz⟩ : ∃ z, (b1 || (z2 || z3)) = z := ⟨_, rfl⟩
          have HS4 : Hid ((zz || tdeepL (ks.drop (k + 1))) = r) := by show _ = _; rw [← hzz]; exact HS2.out
          rw [hzz]
          clear HS2 hzz HZ1 HZ2 HZ3 HBB
          cases zz with
          | true =>
            have hb : r = true := by rw [← HS4.out]; rfl
            subst hb
            clear HS4
            go_wp2_with fail
            go_ret
            exact ⟨rfl, HB6.out⟩
          | false =>
            have HS3 : Hid (tdeepL (ks.drop (k + 1)) = r) := by show _ = _; rw [← HS4.out]; rfl
            clear HS4
            go_wp2_with fail
            go_roundw
            case rel => exact ⟨k + 1, by omega, by go_num, HS3, HB6⟩
            case measure => simp [intOf]; omega
      · obtain rfl : k = l := by omega
        have hr : r = false := by rw [← HS.out, List.drop_of_length_le (by rw [HL.out]; exact Nat.le_refl _), tdeepL]
        subst hr
        clear HS
        go_wp2_with fail
        go_ret
        exact ⟨rfl, HB.out⟩
end Go.Proofs.YtjpjmoejdkmglaaGreat
