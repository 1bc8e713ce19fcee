/-
  The walks over rule (joined), ranged and termCode.
-/
import Derived.Test.YtjpjmoejdkmglaaGreatFlF
namespace Go.Proofs.YtjpjmoejdkmglaaGreat
open Go.RowKit

theorem formedN_kids {vs : List Vr} {inp : Bool} {o n : Int} {l : Nat} (h : formedN vs inp o n l = true) : 0 ≤ (kidsP o).1 ∧ (kidsP o).1 ≤ (l : Int) ∧ (l : Int) ≤ (kidsP o).2 ∧ (o = 24 → 0 ≤ n ∧ n < (vs.length : Int)) := by
  unfold formedN at h
  simp only [Bool.and_eq_true, decide_eq_true_eq] at h
  obtain ⟨h1, h2, h3, h4⟩ := h
  refine ⟨h1, h2, h3, fun e => ?_⟩
  rw [if_neg (by omega), if_pos e] at h4
  simp only [Bool.and_eq_true, decide_eq_true_eq] at h4
  exact ⟨h4.1, h4.2.1⟩
theorem kids_cases {o : Int} (h : 0 ≤ (kidsP o).1) : o = 0 ∨ o = 24 ∨ o = 6 ∨ o = 7 ∨ (8 ≤ o ∧ o ≤ 22) ∨ o = 23 ∨ o = 25 := by
  unfold kidsP at h
  split at h
  · next e => rcases e with e | e; exact .inl e; exact .inr (.inl e)
  · split at h
    · next e => rcases e with e | e; exact .inr (.inr (.inl e)); exact .inr (.inr (.inr (.inl e)))
    · split at h
      · next e => exact .inr (.inr (.inr (.inr (.inl e))))
      · split at h
        · next e => exact .inr (.inr (.inr (.inr (.inr (.inl e)))))
        · split at h
          · next e => exact .inr (.inr (.inr (.inr (.inr (.inr e)))))
          · exact absurd h (by decide)
theorem kids_two {o : Int} (h : 8 ≤ o ∧ o ≤ 22) : kidsP o = (2, 2) := by
  unfold kidsP
  rw [if_neg (by omega), if_neg (by omega), if_pos h]

theorem rule_b (vs : List Vr) (Av : Option Addr) (lv cv : Nat) (inp : Bool) (o n : Int) (A : Option Addr) (l c : Nat) (k : List (Int × Int)) (Ak : Option Addr) (lk ck : Nat) (R : Int × Int) (H : Hid (ruleP vs o n k = R)) (HF : Hid (formedN vs inp o n lk = true)) (HI : Hid (∀ j, j < lk → inB (k.getD j (0, 0)))) (w : World) (hv : VOk w Av lv cv vs) (hr : Rs w Ak lk ck k) :
    Calls Tryz.prog 106 #[.slice Av lv cv, .agg #[.int .i64 o, .int .i64 n, .slice A l c], .slice Ak lk ck] w fun e w' => e = .returned (.agg #[.int .i64 R.1, .int .i64 R.2]) ∧ Below w.heap.size w w' := by
  obtain ⟨h1, h2, h3, h4⟩ := formedN_kids HF.out
  have hvl := hv.len
  rcases kids_cases h1 with rfl | rfl | rfl | rfl | h | rfl | rfl
  · exact rule_lit vs Av lv cv n A l c k Ak lk ck R H w hv hr
  · have h5 := h4 rfl
    exact rule_ref vs Av lv cv n A l c k Ak lk ck R H n.toNat (by omega) (by omega) w hv hr
  · have e : (kidsP 6) = (1, 1) := by decide
    rw [e] at h2
    simp only at h2
    exact rule_neg vs Av lv cv n A l c k Ak lk ck R H (by omega) (HI.out 0 (by omega)) w hv hr
  · exact rule_else 7 (by decide) (by decide) (by decide) (by decide) (by decide) (by decide) (by decide) (by decide) (by decide) (by decide) (by decide) (by decide) vs Av lv cv n A l c k Ak lk ck R H w hv hr
  · have e := kids_two h
    rw [e] at h2 h3
    simp only at h2 h3
    have hl2 : lk = 2 := by omega
    have i0 := HI.out 0 (by omega)
    have i1 := HI.out 1 (by omega)
    by_cases q8 : o = 8
    · subst q8; exact rule_add vs Av lv cv n A l c k Ak lk ck R H hl2 i0 i1 w hv hr
    by_cases q9 : o = 9
    · subst q9; exact rule_sub vs Av lv cv n A l c k Ak lk ck R H hl2 i0 i1 w hv hr
    by_cases q10 : o = 10
    · subst q10; exact rule_mul vs Av lv cv n A l c k Ak lk ck R H hl2 i0 i1 w hv hr
    by_cases q11 : o = 11
    · subst q11; exact rule_div vs Av lv cv n A l c k Ak lk ck R H hl2 i0 i1 w hv hr
    by_cases q12 : o = 12
    · subst q12; exact rule_mod vs Av lv cv n A l c k Ak lk ck R H hl2 i0 i1 w hv hr
    by_cases q21 : o = 21
    · subst q21; exact rule_min vs Av lv cv n A l c k Ak lk ck R H hl2 i0 i1 w hv hr
    by_cases q22 : o = 22
    · subst q22; exact rule_max vs Av lv cv n A l c k Ak lk ck R H hl2 i0 i1 w hv hr
    exact rule_else o (by omega) (by omega) (by omega) q8 q9 q10 q11 q12 q21 q22 (by omega) (by omega) vs Av lv cv n A l c k Ak lk ck R H w hv hr
  · have e : (kidsP 23) = (3, 3) := by decide
    rw [e] at h2
    simp only at h2
    exact rule_cond vs Av lv cv n A l c k Ak lk ck R H (by omega) w hv hr
  · have e : (kidsP 25) = (2, 33) := by decide
    rw [e] at h2
    simp only at h2
    exact rule_sel vs Av lv cv n A l c k Ak lk ck R H (by omega) w hv hr

/-- The ranges of a term, if no node goes beyond the limit. -/
def okR (r : Int × Int) : Bool := decide (-1048576 ≤ r.1) && decide (r.2 ≤ 1048576)
mutual
def rangedP (vs : List Vr) : Tm → Option (Int × Int)
  | .mk o n ks => match rangedL vs ks with
    | none => none
    | some k => if okR (ruleP vs o n k) = true then some (ruleP vs o n k) else none
def rangedL (vs : List Vr) : List Tm → Option (List (Int × Int))
  | [] => some []
  | t :: ts => match rangedP vs t with
    | none => none
    | some r => match rangedL vs ts with
      | none => none
      | some rs => some (r :: rs)
end
theorem rangedL_none (vs : List Vr) (ks : List Tm) (i : Nat) (h : i < ks.length) (h2 : rangedP vs ks[i] = none) : rangedL vs ks = none := by
  induction ks generalizing i with
  | nil => simp at h
  | cons k ks ih =>
    cases i with
    | zero => rw [rangedL]; rw [show (k :: ks)[0] = k from rfl] at h2; rw [h2]
    | succ i =>
      rw [rangedL, ih i (by simpa using h) (by simpa using h2)]
      cases rangedP vs k <;> rfl
theorem rangedL_all (vs : List Vr) (ks : List Tm) (rs : List (Int × Int)) (hl : rs.length = ks.length) (h : ∀ i (hi : i < ks.length), rangedP vs ks[i] = some (rs.getD i (0, 0))) : rangedL vs ks = some rs := by
  induction ks generalizing rs with
  | nil => rw [List.eq_nil_of_length_eq_zero hl]; rw [rangedL]
  | cons k ks ih =>
    cases rs with
    | nil => simp at hl
    | cons r rs =>
      rw [rangedL, show rangedP vs k = some r from h 0 (by simp), ih rs (by simpa using hl) fun i hi => by have := h (i + 1) (by simpa using hi); simpa using this]
/-- The variables' bounds are in order and within the limit. -/
def vB (vs : List Vr) : Prop := ∀ v ∈ vs, v.low ≤ v.high ∧ -1048576 ≤ v.low ∧ v.high ≤ 1048576
def okP (r : Int × Int) : Prop := r.1 ≤ r.2
theorem hull_ok {a b : Int × Int} (ha : okP a) (hb : okP b) : okP (hullR a b) := by
  unfold okP hullR at *
  simp only
  omega
theorem fold_ok (l : List (Int × Int)) (a : Int × Int) (ha : okP a) (h : ∀ x ∈ l, okP x) : okP (l.foldl hullR a) := by
  induction l generalizing a with
  | nil => exact ha
  | cons x l ih => exact ih _ (hull_ok ha (h x (by simp))) fun y hy => h y (by simp [hy])
theorem rule_ok {vs : List Vr} (hv : vB vs) (o n : Int) (k : List (Int × Int)) (hk : ∀ x ∈ k, okP x) : okP (ruleP vs o n k) := by
  have hg : ∀ j, okP (k.getD j (0, 0)) := fun j => by
    rw [List.getD_eq_getElem?_getD]
    cases h : k[j]? with
    | none => exact Int.le_refl _
    | some x => exact hk x (List.mem_of_getElem? h)
  have h0 := hg 0
  have h1 := hg 1
  unfold ruleP
  generalize k.getD 0 (0, 0) = a at h0 ⊢
  generalize k.getD 1 (0, 0) = b at h1 ⊢
  obtain ⟨a0, a1⟩ := a
  obtain ⟨b0, b1⟩ := b
  have h0' : a0 ≤ a1 := h0
  have h1' : b0 ≤ b1 := h1
  by_cases q0 : o = 0
  · rw [if_pos q0]
    exact Int.le_refl _
  rw [if_neg q0]
  by_cases q1 : o = 24
  · rw [if_pos q1]
    cases h : vs[n.toNat]? with
    | none => exact Int.le_refl _
    | some v => exact (hv v (List.mem_of_getElem? h)).1
  rw [if_neg q1]
  by_cases q2 : o = 6
  · rw [if_pos q2]
    show -a1 ≤ -a0; omega
  rw [if_neg q2]
  by_cases q3 : o = 8
  · rw [if_pos q3]
    show a0 + b0 ≤ a1 + b1; omega
  rw [if_neg q3]
  by_cases q4 : o = 9
  · rw [if_pos q4]
    show a0 - b1 ≤ a1 - b0; omega
  rw [if_neg q4]
  by_cases q5 : o = 10
  · rw [if_pos q5]
    show min (min (min (a0 * b0) (a0 * b1)) (a1 * b0)) (a1 * b1) ≤ max (max (max (a0 * b0) (a0 * b1)) (a1 * b0)) (a1 * b1)
    generalize a0 * b0 = p
    generalize a0 * b1 = q
    generalize a1 * b0 = r
    generalize a1 * b1 = s
    omega
  rw [if_neg q5]
  by_cases q6 : o = 11
  · rw [if_pos q6]
    by_cases h3 : 0 ≤ a0 ∧ 0 ≤ b0
    · rw [if_pos h3]
      show (0 : Int) ≤ max a1 (-a0); omega
    · rw [if_neg h3]
      show -max a1 (-a0) ≤ max a1 (-a0); omega
  rw [if_neg q6]
  by_cases q7 : o = 12
  · rw [if_pos q7]
    show (if b0 < 0 then min (b0 + 1) 0 else 0) ≤ (if 0 < b1 then max (b1 - 1) 0 else 0)
    split <;> split <;> omega
  rw [if_neg q7]
  by_cases q8 : o = 21
  · rw [if_pos q8]
    show min a0 b0 ≤ min a1 b1; omega
  rw [if_neg q8]
  by_cases q9 : o = 22
  · rw [if_pos q9]
    show max a0 b0 ≤ max a1 b1; omega
  rw [if_neg q9]
  by_cases q10 : o = 23 ∨ o = 25
  · rw [if_pos q10]
    exact fold_ok _ _ h1 fun x hx => hk x (List.mem_of_mem_drop hx)
  rw [if_neg q10]
  exact (by decide : (0 : Int) ≤ 1)
theorem ranged_ok {vs : List Vr} (hv : vB vs) : ∀ (m : Nat) (t : Tm), Tm.cnt t ≤ m → ∀ r, rangedP vs t = some r → okP r ∧ inB r := by
  intro m
  induction m with
  | zero => intro t h; have := Tm.cnt_pos t; omega
  | succ m ih =>
    intro t hm r hr
    obtain ⟨o, n, ks⟩ := t
    rw [rangedP] at hr
    split at hr
    · cases hr
    · next k hk =>
      split at hr
      · next h =>
        have e := Option.some.inj hr
        have hall : ∀ (ks : List Tm) (k : List (Int × Int)), Tm.cntL ks ≤ m → rangedL vs ks = some k → ∀ x ∈ k, okP x := by
          intro ks
          induction ks with
          | nil => intro k _ h; rw [rangedL] at h; cases h; intro x hx; cases hx
          | cons t ts iht =>
            intro k hc h
            rw [rangedL] at h
            split at h
            · cases h
            · next r1 h1 =>
              split at h
              · cases h
              · next rs h2 =>
                cases h
                simp only [Tm.cntL] at hc
                intro x hx
                rcases List.mem_cons.1 hx with rfl | hx
                · exact (ih t (by omega) _ h1).1
                · exact iht rs (by omega) h2 x hx
        simp only [Tm.cnt] at hm
        have hok := rule_ok hv o n k (hall ks k (by omega) hk)
        rw [e] at hok h
        unfold okR at h
        rw [Bool.and_eq_true, decide_eq_true_iff, decide_eq_true_iff] at h
        unfold okP at hok
        exact ⟨hok, h.1, h.2, by omega, by omega⟩
      · cases hr
/-- The ranges' cells. -/
def rvals (rs : List (Int × Int)) : List Value := rs.flatMap fun r => [.int .i64 r.1, .int .i64 r.2]
theorem rvals_snoc (rs : List (Int × Int)) (a b : Int) : rvals (rs ++ [(a, b)]) = rvals rs ++ [.int .i64 a, .int .i64 b] := by simp [rvals]
theorem rvals_get (rs : List (Int × Int)) (j : Nat) (h : j < rs.length) : (rvals rs)[j * 2]? = some (.int .i64 (rs.getD j (0, 0)).1) ∧ (rvals rs)[j * 2 + 1]? = some (.int .i64 (rs.getD j (0, 0)).2) := by
  induction rs generalizing j with
  | nil => simp at h
  | cons r rs ih =>
    cases j with
    | zero => exact ⟨rfl, rfl⟩
    | succ j =>
      have := ih j (by simpa using h)
      rw [show (j + 1) * 2 = j * 2 + 2 by omega]
      exact this
theorem own_rs {w : World} {base : Nat} {e : TypeId} {A : Option Addr} {l c : Nat} {rs : List (Int × Int)} (hl : rs.length = l) (h : w.ownsRow base e 2 (.slice A l c) l (rvals rs)) : Rs w A l c rs := by
  obtain ⟨_, h | ⟨g, cap, cur, hv, hb, hh, h1, h2, h3, h4⟩⟩ := h
  · obtain ⟨h, hx⟩ := h
    subst hx
    obtain rfl := List.eq_nil_of_length_eq_zero hl
    cases h
    exact ⟨rfl, Nat.le_refl _, Nat.zero_le _, fun h => absurd h (by omega)⟩
  · cases hv
    have key : ∀ i u, (rvals rs)[i]? = some u → w.cell? ⟨g, i, none⟩ = some u := fun i u hu => by
      rw [← h4, List.getElem?_take] at hu
      split at hu
      · rw [Array.getElem?_toList] at hu
        simp [World.cell?, hh, hu]
      · cases hu
    refine ⟨hl, h1, h2, fun _ => ⟨g, 0, rfl, ?_, fun j hj => ?_⟩⟩
    · rcases Nat.lt_or_ge g w.heap.size with hl | hl
      · exact hl
      · rw [Array.getElem?_eq_none hl] at hh; cases hh
    · obtain ⟨e1, e2⟩ := rvals_get rs j (by omega)
      rw [Nat.zero_add]
      exact ⟨key _ _ e1, key _ _ e2⟩
theorem own_form {w : World} {base : Nat} {e : TypeId} {size : Nat} {v : Value} {n : Nat} {xs : List Value} (h : w.ownsRow base e size v n xs) : ∃ A c, v = .slice A n c := by
  obtain ⟨_, h | ⟨g, cap, cur, rfl, _⟩⟩ := h
  · exact ⟨none, 0, by rw [h.1, h.2]⟩
  · exact ⟨_, cap, rfl⟩
theorem own_base {w : World} {base base' : Nat} {e : TypeId} {size : Nat} {v : Value} {n : Nat} {xs : List Value} (h : w.ownsRow base e size v n xs) (hb : base' ≤ base) : w.ownsRow base' e size v n xs := by
  obtain ⟨h0, h | ⟨g, cap, cur, hv, h1, r⟩⟩ := h
  · exact ⟨h0, .inl h⟩
  · exact ⟨h0, .inr ⟨g, cap, cur, hv, Nat.le_trans hb h1, r⟩⟩
theorem own_below {w w' : World} {base : Nat} {e : TypeId} {size : Nat} {v : Value} {n : Nat} {xs : List Value} (h : w.ownsRow base e size v n xs) (hb : Below w.heap.size w w') : w'.ownsRow base e size v n xs := by
  obtain ⟨h0, h | ⟨g, cap, cur, hv, h1, hh, r⟩⟩ := h
  · exact ⟨h0, .inl h⟩
  · refine ⟨h0, .inr ⟨g, cap, cur, hv, h1, ?_, r⟩⟩
    have hg : g < w.heap.size := by
      rcases Nat.lt_or_ge g w.heap.size with hl | hl
      · exact hl
      · rw [Array.getElem?_eq_none hl] at hh; cases hh
    rw [hb.block g hg]
    exact hh
theorem cs_low {W W' : World} {b B : Nat} {vs : List Value} (h : Cs W b vs) (hb : Below B W W') (hl : b < B) : Cs W' b vs :=
  ⟨Nat.lt_of_lt_of_le h.lt hb.size, fun j u hu => (hb.cell (p := ⟨b, j, none⟩) hl).trans (h.cell j u hu), fun j => (hb.frozen (p := ⟨b, j, none⟩) hl).trans (h.free j)⟩
end Go.Proofs.YtjpjmoejdkmglaaGreat
