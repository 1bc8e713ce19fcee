/-
  Plain laws: the value of a term lies within its range.
-/
import Derived.Test.YtjpjmoejdkmglaaGreatFlI
namespace Go.Proofs.YtjpjmoejdkmglaaGreat
open Go.RowKit

/-- The value of a node whose kids have the values V. -/
def nodeV (vals : List Int) (o n : Int) (V : List Int) : Int :=
  if o = 0 then n else if o = 24 then vals.getD n.toNat 0 else if o = 6 then -(V.getD 0 0) else if o = 7 then flagP (decide (V.getD 0 0 = 0))
  else if o = 23 then (if V.getD 0 0 ≠ 0 then V.getD 1 0 else V.getD 2 0)
  else if o = 25 then V.getD (1 + clampP (V.getD 0 0) 0 ((V.length : Int) - 2)).toNat 0
  else binP o (V.getD 0 0) (V.getD 1 0)
mutual
def valueP (vals : List Int) : Tm → Int
  | .mk o n ks => nodeV vals o n (valuesL vals ks)
def valuesL (vals : List Int) : List Tm → List Int
  | [] => []
  | k :: ks => valueP vals k :: valuesL vals ks
end
theorem valuesL_len (vals : List Int) (ks : List Tm) : (valuesL vals ks).length = ks.length := by
  induction ks with
  | nil => rfl
  | cons k ks ih => rw [valuesL, List.length_cons, List.length_cons, ih]
theorem valuesL_get (vals : List Int) (ks : List Tm) (i : Nat) (h : i < ks.length) : (valuesL vals ks).getD i 0 = valueP vals ks[i] := by
  induction ks generalizing i with
  | nil => simp at h
  | cons k ks ih =>
    cases i with
    | zero => rw [valuesL]; rfl
    | succ i => rw [valuesL]; simpa using ih i (by simpa using h)
/-- The values lie within the variables' bounds. -/
def valOk (vs : List Vr) (vals : List Int) : Prop := vals.length = vs.length ∧ ∀ i v, vs[i]? = some v → v.low ≤ vals.getD i 0 ∧ vals.getD i 0 ≤ v.high

theorem mul_lin (x a b y : Int) (h1 : a ≤ x) (h2 : x ≤ b) : min (a * y) (b * y) ≤ x * y ∧ x * y ≤ max (a * y) (b * y) := by
  rcases Int.le_total 0 y with hy | hy
  · have e1 := Int.mul_le_mul_of_nonneg_right h1 hy
    have e2 := Int.mul_le_mul_of_nonneg_right h2 hy
    omega
  · have e1 := Int.mul_le_mul_of_nonpos_right h1 hy
    have e2 := Int.mul_le_mul_of_nonpos_right h2 hy
    omega
theorem mul_in {a0 a1 b0 b1 x y : Int} (h1 : a0 ≤ x) (h2 : x ≤ a1) (h3 : b0 ≤ y) (h4 : y ≤ b1) : (mulR a0 a1 b0 b1).1 ≤ x * y ∧ x * y ≤ (mulR a0 a1 b0 b1).2 := by
  have e1 := mul_lin x a0 a1 y h1 h2
  have e2 := mul_lin y b0 b1 a0 h3 h4
  have e3 := mul_lin y b0 b1 a1 h3 h4
  rw [Int.mul_comm y a0, Int.mul_comm b0 a0, Int.mul_comm b1 a0] at e2
  rw [Int.mul_comm y a1, Int.mul_comm b0 a1, Int.mul_comm b1 a1] at e3
  unfold mulR
  simp only
  generalize a0 * b0 = p at *
  generalize a0 * b1 = q at *
  generalize a1 * b0 = r at *
  generalize a1 * b1 = s at *
  generalize a0 * y = u at *
  generalize a1 * y = v at *
  generalize x * y = z at *
  omega
theorem tdiv_facts (a b : Int) (hb : b ≠ 0) : a = b * a.tdiv b + a.tmod b ∧ (0 ≤ a → 0 ≤ a.tmod b) ∧ (a ≤ 0 → a.tmod b ≤ 0) ∧ a.tmod b < (b.natAbs : Int) ∧ -(b.natAbs : Int) < a.tmod b := by
  have h1 := Int.mul_tdiv_add_tmod a b
  have h2 : (a.tmod b).natAbs < b.natAbs := by rw [Int.natAbs_tmod]; exact Nat.mod_lt _ (by omega)
  refine ⟨h1.symm, fun h => Int.tmod_nonneg b h, fun h => ?_, by omega, by omega⟩
  have h3 : (-a).tmod b = -(a.tmod b) := Int.neg_tmod a b
  have h4 := Int.tmod_nonneg b (show 0 ≤ -a by omega)
  omega
theorem mod_in (a b : Int) : (0 < b → 0 ≤ modP a b ∧ modP a b ≤ b - 1) ∧ (b < 0 → b + 1 ≤ modP a b ∧ modP a b ≤ 0) ∧ (b = 0 → modP a b = 0) := by
  by_cases hb : b = 0
  · refine ⟨fun h => by omega, fun h => by omega, fun _ => ?_⟩
    unfold modP; rw [if_pos hb]
  · obtain ⟨h1, h2, h3, h4, h5⟩ := tdiv_facts a b hb
    have hm : modP a b = if a.tmod b ≠ 0 ∧ ¬ (a < 0 ↔ b < 0) then a.tmod b + b else a.tmod b := by
      unfold modP divP
      rw [if_neg hb, if_neg hb]
      split
      · rw [Int.mul_sub]; omega
      · omega
    rw [hm]
    refine ⟨fun h => ?_, fun h => ?_, fun h => absurd h hb⟩
    · split
      · next hh => have : a < 0 := by have := hh.2; omega
                   omega
      · next hh =>
        by_cases ht : a.tmod b = 0
        · omega
        · have : ¬ a < 0 := fun ha => hh ⟨ht, by omega⟩
          have := h2 (by omega); omega
    · split
      · next hh => have : 0 ≤ a := by have := hh.2; omega
                   have := h2 this; omega
      · next hh =>
        by_cases ht : a.tmod b = 0
        · omega
        · have : a < 0 := by
            rcases Int.lt_or_le a 0 with ha | ha
            · exact ha
            · exact absurd ⟨ht, by omega⟩ hh
          have := h3 (by omega); omega
theorem div_in (a b : Int) : -(a.natAbs : Int) ≤ divP a b ∧ divP a b ≤ (a.natAbs : Int) ∧ (0 ≤ a → 0 ≤ b → 0 ≤ divP a b) := by
  unfold divP
  by_cases hb : b = 0
  · rw [if_pos hb]; omega
  · rw [if_neg hb]
    have hle : (a.tdiv b).natAbs ≤ a.natAbs := by rw [Int.natAbs_tdiv]; exact Nat.div_le_self _ _
    by_cases hc : a.tmod b ≠ 0 ∧ ¬ (a < 0 ↔ b < 0)
    · rw [if_pos hc]
      have hb2 : 2 ≤ b.natAbs := by
        obtain ⟨_, _, _, h4, h5⟩ := tdiv_facts a b hb
        have := hc.1
        omega
      have ha1 : 1 ≤ a.natAbs := by
        rcases Nat.eq_zero_or_pos a.natAbs with h | h
        · have : a = 0 := by omega
          subst this
          exact absurd (Int.zero_tmod b) hc.1
        · exact h
      have hlt : (a.tdiv b).natAbs < a.natAbs := by
        rw [Int.natAbs_tdiv]
        exact Nat.div_lt_self ha1 hb2
      have := hc.2
      refine ⟨by omega, by omega, fun h1 h2 => ?_⟩
      exact absurd (by omega) hc.2
    · rw [if_neg hc]
      refine ⟨by omega, by omega, fun h1 h2 => Int.tdiv_nonneg h1 h2⟩
theorem flag_in (b : Bool) : 0 ≤ flagP b ∧ flagP b ≤ 1 := by cases b <;> decide
theorem hull_in {a b : Int × Int} {x : Int} (h : (a.1 ≤ x ∧ x ≤ a.2) ∨ (b.1 ≤ x ∧ x ≤ b.2)) : (hullR a b).1 ≤ x ∧ x ≤ (hullR a b).2 := by unfold hullR; simp only; omega
theorem fold_in (l : List (Int × Int)) (a : Int × Int) (x : Int) (h : (a.1 ≤ x ∧ x ≤ a.2) ∨ ∃ r ∈ l, r.1 ≤ x ∧ x ≤ r.2) : (l.foldl hullR a).1 ≤ x ∧ x ≤ (l.foldl hullR a).2 := by
  induction l generalizing a with
  | nil =>
    rcases h with h | ⟨r, hr, _⟩
    · exact h
    · cases hr
  | cons y l ih =>
    refine ih _ ?_
    rcases h with h | ⟨r, hr, h⟩
    · exact .inl (hull_in (.inl h))
    · rcases List.mem_cons.1 hr with rfl | hr
      · exact .inl (hull_in (.inr h))
      · exact .inr ⟨r, hr, h⟩
theorem node_in {vs : List Vr} {vals : List Int} (hva : valOk vs vals) {inp : Bool} (o n : Int) (k : List (Int × Int)) (V : List Int) (hl : V.length = k.length) (hf : formedN vs inp o n k.length = true)
    (hV : ∀ j, j < k.length → (k.getD j (0, 0)).1 ≤ V.getD j 0 ∧ V.getD j 0 ≤ (k.getD j (0, 0)).2) : (ruleP vs o n k).1 ≤ nodeV vals o n V ∧ nodeV vals o n V ≤ (ruleP vs o n k).2 := by
  obtain ⟨h1, h2, h3, h4⟩ := formedN_kids hf
  rcases kids_cases h1 with rfl | rfl | rfl | rfl | h | rfl | rfl
  · exact ⟨Int.le_refl _, Int.le_refl _⟩
  · obtain ⟨e1, e2⟩ := h4 rfl
    have hlt : n.toNat < vs.length := by omega
    have hg := List.getElem?_eq_getElem hlt
    have := hva.2 n.toNat _ hg
    show (((vs[n.toNat]?).map Vr.low).getD 0) ≤ vals.getD n.toNat 0 ∧ vals.getD n.toNat 0 ≤ (((vs[n.toNat]?).map Vr.high).getD 0)
    rw [hg]
    exact this
  · have e : (kidsP 6) = (1, 1) := by decide
    rw [e] at h2
    have := hV 0 (by simp only at h2; omega)
    show -(k.getD 0 (0, 0)).2 ≤ -(V.getD 0 0) ∧ -(V.getD 0 0) ≤ -(k.getD 0 (0, 0)).1
    omega
  · exact flag_in _
  · have e := kids_two h
    rw [e] at h2 h3
    simp only at h2 h3
    have v0 := hV 0 (by omega)
    have v1 := hV 1 (by omega)
    have hnv : nodeV vals o n V = binP o (V.getD 0 0) (V.getD 1 0) := by
      unfold nodeV
      rw [if_neg (by omega), if_neg (by omega), if_neg (by omega), if_neg (by omega), if_neg (by omega), if_neg (by omega)]
    rw [hnv]
    generalize V.getD 0 0 = x at v0 ⊢
    generalize V.getD 1 0 = y at v1 ⊢
    have hc : o = 8 ∨ o = 9 ∨ o = 10 ∨ o = 11 ∨ o = 12 ∨ o = 13 ∨ o = 14 ∨ o = 15 ∨ o = 16 ∨ o = 17 ∨ o = 18 ∨ o = 19 ∨ o = 20 ∨ o = 21 ∨ o = 22 := by omega
    have hr : ruleP vs o n k = ruleP vs o n [k.getD 0 (0, 0), k.getD 1 (0, 0)] ∨ True := .inr trivial
    clear hr
    rcases hc with rfl | rfl | rfl | rfl | rfl | rfl | rfl | rfl | rfl | rfl | rfl | rfl | rfl | rfl | rfl
    · show (k.getD 0 (0, 0)).1 + (k.getD 1 (0, 0)).1 ≤ x + y ∧ x + y ≤ (k.getD 0 (0, 0)).2 + (k.getD 1 (0, 0)).2; omega
    · show (k.getD 0 (0, 0)).1 - (k.getD 1 (0, 0)).2 ≤ x - y ∧ x - y ≤ (k.getD 0 (0, 0)).2 - (k.getD 1 (0, 0)).1; omega
    · exact mul_in v0.1 v0.2 v1.1 v1.2
    · have hd := div_in x y
      have e1 : ruleP vs 11 n k = (if 0 ≤ (k.getD 0 (0, 0)).1 ∧ 0 ≤ (k.getD 1 (0, 0)).1 then (0, max (k.getD 0 (0, 0)).2 (-(k.getD 0 (0, 0)).1)) else (-max (k.getD 0 (0, 0)).2 (-(k.getD 0 (0, 0)).1), max (k.getD 0 (0, 0)).2 (-(k.getD 0 (0, 0)).1))) := rfl
      rw [e1]
      show _ ≤ divP x y ∧ divP x y ≤ _
      split
      · next hh =>
        have := hd.2.2 (by omega) (by omega)
        simp only
        omega
      · simp only
        omega
    · obtain ⟨m1, m2, m3⟩ := mod_in x y
      show (if (k.getD 1 (0, 0)).1 < 0 then min ((k.getD 1 (0, 0)).1 + 1) 0 else 0) ≤ modP x y ∧ modP x y ≤ (if 0 < (k.getD 1 (0, 0)).2 then max ((k.getD 1 (0, 0)).2 - 1) 0 else 0)
      rcases Int.lt_trichotomy y 0 with hy | hy | hy
      · have := m2 hy
        constructor
        · split <;> omega
        · split <;> omega
      · have := m3 hy
        constructor
        · split <;> omega
        · split <;> omega
      · have := m1 hy
        constructor
        · split <;> omega
        · split <;> omega
    · exact flag_in _
    · exact flag_in _
    · exact flag_in _
    · exact flag_in _
    · exact flag_in _
    · exact flag_in _
    · exact flag_in _
    · exact flag_in _
    · show min (k.getD 0 (0, 0)).1 (k.getD 1 (0, 0)).1 ≤ min x y ∧ min x y ≤ min (k.getD 0 (0, 0)).2 (k.getD 1 (0, 0)).2; omega
    · show max (k.getD 0 (0, 0)).1 (k.getD 1 (0, 0)).1 ≤ max x y ∧ max x y ≤ max (k.getD 0 (0, 0)).2 (k.getD 1 (0, 0)).2; omega
  · have e : (kidsP 23) = (3, 3) := by decide
    rw [e] at h2 h3
    simp only at h2 h3
    have e1 : ruleP vs 23 n k = (k.drop 2).foldl hullR (k.getD 1 (0, 0)) := rfl
    rw [e1]
    show _ ≤ (if V.getD 0 0 ≠ 0 then V.getD 1 0 else V.getD 2 0) ∧ (if V.getD 0 0 ≠ 0 then V.getD 1 0 else V.getD 2 0) ≤ _
    split
    · exact fold_in _ _ _ (.inl (hV 1 (by omega)))
    · refine fold_in _ _ _ (.inr ⟨k.getD 2 (0, 0), ?_, hV 2 (by omega)⟩)
      rw [List.getD_eq_getElem?_getD, List.getElem?_eq_getElem (show 2 < k.length by omega)]
      exact List.mem_of_getElem? (i := 0) (by rw [List.getElem?_drop, List.getElem?_eq_getElem (show 2 + 0 < k.length by omega)]; rfl)
  · have e : (kidsP 25) = (2, 33) := by decide
    rw [e] at h2 h3
    simp only at h2 h3
    have e1 : ruleP vs 25 n k = (k.drop 2).foldl hullR (k.getD 1 (0, 0)) := rfl
    rw [e1]
    show _ ≤ V.getD (1 + clampP (V.getD 0 0) 0 ((V.length : Int) - 2)).toNat 0 ∧ V.getD (1 + clampP (V.getD 0 0) 0 ((V.length : Int) - 2)).toNat 0 ≤ _
    obtain ⟨j, hj⟩ : ∃ j, (1 + clampP (V.getD 0 0) 0 ((V.length : Int) - 2)).toNat = j := ⟨_, rfl⟩
    have hjb : 1 ≤ j ∧ j < k.length := by
      have hcl : 0 ≤ clampP (V.getD 0 0) 0 ((V.length : Int) - 2) ∧ clampP (V.getD 0 0) 0 ((V.length : Int) - 2) ≤ (V.length : Int) - 2 := by unfold clampP; omega
      omega
    rw [hj]
    by_cases h1 : j = 1
    · subst h1
      exact fold_in _ _ _ (.inl (hV 1 (by omega)))
    · refine fold_in _ _ _ (.inr ⟨k.getD j (0, 0), ?_, hV j hjb.2⟩)
      rw [List.getD_eq_getElem?_getD, List.getElem?_eq_getElem hjb.2]
      refine List.mem_of_getElem? (i := j - 2) ?_
      rw [List.getElem?_drop, show 2 + (j - 2) = j by omega, List.getElem?_eq_getElem hjb.2]
      rfl
theorem rangedL_get {vs : List Vr} : ∀ (ks : List Tm) (k : List (Int × Int)), rangedL vs ks = some k → k.length = ks.length ∧ ∀ i (hi : i < ks.length), rangedP vs ks[i] = some (k.getD i (0, 0))
  | [], k, h => by rw [rangedL] at h; cases h; exact ⟨rfl, fun i hi => absurd hi (by simp)⟩
  | t :: ts, k, h => by
    rw [rangedL] at h
    split at h
    · cases h
    · next r hr =>
      split at h
      · cases h
      · next rs hrs =>
        cases h
        obtain ⟨e1, e2⟩ := rangedL_get ts rs hrs
        refine ⟨by simp [e1], fun i hi => ?_⟩
        cases i with
        | zero => exact hr
        | succ i => simpa using e2 i (by simpa using hi)
theorem value_in {vs : List Vr} {vals : List Int} (hva : valOk vs vals) (inp : Bool) : ∀ (m : Nat) (t : Tm), Tm.cnt t ≤ m → formedB vs inp t = true → ∀ r, rangedP vs t = some r → r.1 ≤ valueP vals t ∧ valueP vals t ≤ r.2 := by
  intro m
  induction m with
  | zero => intro t h; have := Tm.cnt_pos t; omega
  | succ m ih =>
    intro t hm hf r hr
    obtain ⟨o, n, ks⟩ := t
    rw [rangedP] at hr
    split at hr
    · cases hr
    · next k hk =>
      split at hr
      · have e := Option.some.inj hr
        rw [← e, valueP]
        obtain ⟨e1, e2⟩ := rangedL_get ks k hk
        rw [formedB, Bool.and_eq_true] at hf
        simp only [Tm.cnt] at hm
        refine node_in hva (inp := inp) o n k _ (by rw [valuesL_len, e1]) (by rw [e1]; exact hf.1) fun j hj => ?_
        have hjk : j < ks.length := by omega
        have hfj : formedB vs inp ks[j] = true := by
          cases hc : formedB vs inp ks[j]
          · rw [formedL_take vs inp ks j hjk hc] at hf; cases hf.2
          · rfl
        rw [valuesL_get vals ks j hjk]
        exact ih ks[j] (by have := Tm.cntL_get ks j hjk; omega) hfj _ (e2 j hjk)
      · cases hr
end Go.Proofs.YtjpjmoejdkmglaaGreat
