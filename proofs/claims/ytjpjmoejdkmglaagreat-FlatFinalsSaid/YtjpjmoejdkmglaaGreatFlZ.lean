/-
  Plain laws: what the machine computes.
-/
import Derived.Test.YtjpjmoejdkmglaaGreatFlYa
import Derived.Test.YtjpjmoejdkmglaaGreatFlL
namespace Go.Proofs.YtjpjmoejdkmglaaGreat
open Go.RowKit

/-! ### What steps without a code are -/
theorem stepsC_get : ∀ (ks : List Sp) (vs : List Vr) (nh : Nat) (top : Bool) (i : Nat) (h : i < ks.length), stepsC vs nh top ks = 0 → ∃ last, stepC vs nh last ks[i] = 0
  | [], _, _, _, _, h, _ => by simp at h
  | k :: ks, vs, nh, top, i, h, hc => by
    rw [stepsC] at hc
    by_cases e : stepC vs nh (top && ks.isEmpty) k = 0
    · rw [if_neg (by simpa using e)] at hc
      cases i with
      | zero => exact ⟨_, e⟩
      | succ i => exact stepsC_get ks vs nh top i (by simpa using h) hc
    · rw [if_pos e] at hc; exact absurd hc e
/-- A step without a code. -/
structure Fine (vs : List Vr) (nh : Nat) (d c v n : Int) (t : Tm) (th el : List Sp) (bs : List Int) : Prop where
  num : numN d c n
  fm : formedB vs false t = true
  rg : (rangedP vs t).isSome = true
  th : stepsC vs nh false th = 0
  el : stepsC vs nh false el = 0
  var : (d = 0 ∨ d = 5) → 0 ≤ v ∧ v < (vs.length : Int)
  hat : d = 5 → 0 ≤ n ∧ n < (nh : Int)
  kind : 0 ≤ d ∧ d ≤ 6
theorem locB_in {vs : List Vr} {v : Int} (h : locB vs v = true) : 0 ≤ v ∧ v < (vs.length : Int) := by
  unfold locB at h
  simp only [Bool.and_eq_true, decide_eq_true_eq] at h
  exact ⟨h.1, h.2.1⟩
theorem stepC_fine {vs : List Vr} {nh : Nat} {last : Bool} {d c v n o tn : Int} {tk : List Tm} {th el : List Sp} {bs : List Int} (h : stepC vs nh last (.mk d c v n (.mk o tn tk) th el bs) = 0) : Fine vs nh d c v n (.mk o tn tk) th el bs := by
  rw [stepC] at h
  by_cases e1 : shapedB vs nh last d v n (zeroB o tn tk.length) th.length el.length bs = false
  · rw [if_pos e1] at h; exact absurd h (by decide)
  rw [if_neg e1] at h
  by_cases e2 : numberedB d c n bs = false
  · rw [if_pos e2] at h; exact absurd h (by decide)
  rw [if_neg e2] at h
  by_cases e3 : termC vs false (.mk o tn tk) = 0
  · rw [if_neg (by simpa using e3)] at h
    by_cases e4 : stepsC vs nh false th = 0
    · rw [if_neg (by simpa using e4)] at h
      have e1' : shapedB vs nh last d v n (zeroB o tn tk.length) th.length el.length bs = true := by simpa using e1
      have hfr : formedB vs false (.mk o tn tk) = true ∧ (rangedP vs (.mk o tn tk)).isSome = true := by
        unfold termC at e3
        by_cases f1 : formedB vs false (.mk o tn tk) = false
        · rw [if_pos f1] at e3; exact absurd e3 (by decide)
        rw [if_neg f1] at e3
        by_cases f2 : (rangedP vs (.mk o tn tk)).isSome = false
        · rw [if_pos f2] at e3; exact absurd e3 (by decide)
        exact ⟨by simpa using f1, by cases hx : (rangedP vs (.mk o tn tk)).isSome with | true => rfl | false => exact absurd hx f2⟩
      have hk : 0 ≤ d ∧ d ≤ 6 := by
        unfold shapedB at e1'
        repeat' (split at e1'; · omega)
        exact absurd e1' (by decide)
      refine ⟨numbered_N (by simpa using e2), hfr.1, hfr.2, e4, h, ?_, ?_, hk⟩
      · rintro (rfl | rfl)
        · unfold shapedB at e1'
          simp only [if_true, Bool.and_eq_true] at e1'
          exact locB_in e1'.1.1.2
        · unfold shapedB at e1'
          simp only [Bool.and_eq_true, if_false, if_true, show (5 : Int) ≠ 0 by decide, show (5 : Int) ≠ 1 by decide, show (5 : Int) ≠ 2 by decide, show (5 : Int) ≠ 3 by decide, show (5 : Int) ≠ 4 by decide] at e1'
          exact locB_in e1'.1.1.1.1.2
      · rintro rfl
        unfold shapedB at e1'
        simp only [Bool.and_eq_true, decide_eq_true_eq, if_false, if_true, show (5 : Int) ≠ 0 by decide, show (5 : Int) ≠ 1 by decide, show (5 : Int) ≠ 2 by decide, show (5 : Int) ≠ 3 by decide, show (5 : Int) ≠ 4 by decide] at e1'
        exact ⟨e1'.1.1.1.2, e1'.1.1.2⟩
    · rw [if_pos e4] at h; exact absurd h e4
  · rw [if_pos e3] at h; exact absurd h e3

/-! ### How many outputs -/
mutual
def outO : Sp → Nat
  | .mk d _ _ n _ th el _ => if d = 1 then 1 else if d = 3 then max (outL th) (outL el) else if d = 4 then n.toNat * outL th else 0
/-- Upper bounds on the outputs of steps. -/
def outL : List Sp → Nat
  | [] => 0
  | k :: ks => outO k + outL ks
end
theorem mul_min {n x C : Int} (hn : 0 ≤ n) (hC : 0 ≤ C) (s : Int) (hs : 0 ≤ s) : min (s + n * min x C) C = min (s + n * x) C := by
  by_cases h : x ≤ C
  · have hm : min x C = x := by omega
    rw [hm]
  · have hm : min x C = C := by omega
    rw [hm]
    by_cases h0 : n = 0
    · rw [h0]; simp only [Int.zero_mul]
    · have h1 : C ≤ n * C := by
        have := Int.mul_le_mul_of_nonneg_right (show 1 ≤ n by omega) hC
        omega
      have h2 : n * C ≤ n * x := Int.mul_le_mul_of_nonneg_left (by omega) hn
      omega
mutual
theorem upL_out : ∀ (ks : List Sp) (s : Int × Int × Int), numL ks → 0 ≤ s.2.1 → s.2.1 ≤ 1099511627776 → (upL ks s).2.1 = min (s.2.1 + (outL ks : Nat)) 1099511627776
  | [], s, _, h0, h1 => by rw [upL, outL]; omega
  | k :: ks, s, hn, h0, h1 => by
    rw [numL] at hn
    have hs := upO_out k s.2.1 hn.1 h0
    rw [upL, outL]
    have h2 : (upA s (upO k)).2.1 = min (s.2.1 + (outO k : Nat)) 1099511627776 := hs
    rw [upL_out ks _ hn.2 (by rw [h2]; omega) (by rw [h2]; omega), h2]
    omega
theorem upO_out : ∀ (k : Sp) (s : Int), numO k → 0 ≤ s → min (s + (upO k).2.1) 1099511627776 = min (s + (outO k : Nat)) 1099511627776
  | .mk d c v n t th el bs, s, hn, h0 => by
    rw [numO] at hn
    have h1 := upL_out th (0, 0, 0) hn.2.1 (by simp) (by simp)
    have h2 := upL_out el (0, 0, 0) hn.2.2 (by simp) (by simp)
    simp only [Int.zero_add] at h1 h2
    rw [upO, outO, upN]
    split
    · simp
    split
    · simp only [h1, h2]; omega
    split
    · rename_i h4
      have hn4 := hn.1.2.2 h4
      simp only [h1]
      rw [mul_min hn4.1 (by omega) s h0]
      have : ((n.toNat * outL th : Nat) : Int) = n * (outL th : Nat) := by rw [Int.natCast_mul, Int.toNat_of_nonneg hn4.1]
      rw [this]
    · simp
end
theorem outL_le {ks : List Sp} (hn : numL ks) (h : (upL ks (0, 0, 0)).2.1 ≤ 8) : outL ks ≤ 8 := by
  have := upL_out ks (0, 0, 0) hn (by simp) (by simp)
  simp only [Int.zero_add] at this
  omega

/-! ### The machine -/
/-- What a machine holds: the values, the outputs, the time. -/
structure Ms where
  v : List Int
  o : List Int
  t : Int
def bumpT (t c : Int) : Int := IntKind.i64.wrap (t + c)
/-- A value is set. -/
def setV (vs : List Vr) (l : List Int) (v n : Int) : List Int := l.set v.toNat (clampP n ((vs[v.toNat]?.map Vr.low).getD 0) ((vs[v.toNat]?.map Vr.high).getD 0))
def settleS (t : Int) (s : Int × Bool) (b : Int) : Int × Bool := if t ≤ b ∧ (s.2 = false ∨ b < s.1) then (b, true) else s
def settledP (bs : List Int) (t : Int) : Int := (bs.foldl (settleS t) (t, false)).1
/-- The rounds of a loop. -/
def loopM (c : Int) (val : List Int → Int) (body : Ms → Ms) : Nat → Ms → Ms
  | 0, s => s
  | k + 1, s => if val s.v = 0 then ⟨s.v, s.o, bumpT s.t c⟩ else loopM c val body k (body ⟨s.v, s.o, bumpT s.t c⟩)
/-- What a step that is no If and no Loop does. -/
def actM (vs : List Vr) (hats : List Int) (d v n : Int) (t : Tm) (bs : List Int) (s : Ms) : Ms :=
  if d = 0 then ⟨setV vs s.v v (valueP s.v t), s.o, s.t⟩ else if d = 1 then ⟨s.v, s.o ++ [valueP s.v t], s.t⟩
  else if d = 5 then ⟨setV vs s.v v (hats.getD n.toNat 0), s.o, s.t⟩ else if d = 6 then ⟨s.v, s.o, settledP bs s.t⟩ else s
mutual
def runO (vs : List Vr) (hats : List Int) : Sp → Ms → Ms
  | .mk d c v n t th el bs, s =>
    if d = 4 then loopM c (fun l => valueP l t) (fun s => runL vs hats th s) n.toNat s
    else if d = 3 then (if valueP s.v t ≠ 0 then runL vs hats th ⟨s.v, s.o, bumpT s.t c⟩ else runL vs hats el ⟨s.v, s.o, bumpT s.t c⟩)
    else actM vs hats d v n t bs ⟨s.v, s.o, bumpT s.t c⟩
/-- The machine after steps. -/
def runL (vs : List Vr) (hats : List Int) : List Sp → Ms → Ms
  | [], s => s
  | k :: ks, s => runL vs hats ks (runO vs hats k s)
end
theorem runO_loop (vs : List Vr) (hats : List Int) (c v n : Int) (t : Tm) (th el : List Sp) (bs : List Int) (s : Ms) : runO vs hats (.mk 4 c v n t th el bs) s = loopM c (fun l => valueP l t) (fun s => runL vs hats th s) n.toNat s := by
  rw [runO, if_pos rfl]
theorem runO_if (vs : List Vr) (hats : List Int) (c v n : Int) (t : Tm) (th el : List Sp) (bs : List Int) (s : Ms) : runO vs hats (.mk 3 c v n t th el bs) s = if valueP s.v t ≠ 0 then runL vs hats th ⟨s.v, s.o, bumpT s.t c⟩ else runL vs hats el ⟨s.v, s.o, bumpT s.t c⟩ := by
  rw [runO, if_neg (by decide), if_pos rfl]
theorem runO_act (vs : List Vr) (hats : List Int) (d c v n : Int) (t : Tm) (th el : List Sp) (bs : List Int) (s : Ms) (h4 : d ≠ 4) (h3 : d ≠ 3) : runO vs hats (.mk d c v n t th el bs) s = actM vs hats d v n t bs ⟨s.v, s.o, bumpT s.t c⟩ := by
  rw [runO, if_neg h4, if_neg h3]
theorem outO_out (c v n : Int) (t : Tm) (th el : List Sp) (bs : List Int) : outO (.mk 1 c v n t th el bs) = 1 := by rw [outO, if_pos rfl]
theorem outO_if (c v n : Int) (t : Tm) (th el : List Sp) (bs : List Int) : outO (.mk 3 c v n t th el bs) = max (outL th) (outL el) := by rw [outO, if_neg (by decide), if_pos rfl]
theorem outO_loop (c v n : Int) (t : Tm) (th el : List Sp) (bs : List Int) : outO (.mk 4 c v n t th el bs) = n.toNat * outL th := by rw [outO, if_neg (by decide), if_neg (by decide), if_pos rfl]
/-- The machine is in order and has room for outputs. -/
def Fit (vs : List Vr) (n : Nat) (s : Ms) : Prop := valOk vs s.v ∧ s.o.length ≤ n
theorem setV_ok {vs : List Vr} (hvb : vB vs) {l : List Int} (h : valOk vs l) (v n : Int) : valOk vs (setV vs l v n) := by
  refine ⟨by rw [setV, List.length_set]; exact h.1, fun i x hx => ?_⟩
  have := h.2 i x hx
  have hil : i < l.length := by rw [h.1]; exact (List.getElem?_eq_some_iff.1 hx).1
  by_cases e : v.toNat = i
  · subst e
    have hb := hvb x (List.mem_of_getElem? hx)
    rw [setV, hx, List.getD_eq_getElem?_getD, List.getElem?_set_self hil]
    simp only [Option.map_some, Option.getD_some]
    unfold clampP
    omega
  · rw [setV, List.getD_eq_getElem?_getD, List.getElem?_set_ne e, ← List.getD_eq_getElem?_getD]
    exact this
theorem loop_fit {vs : List Vr} {c : Int} {val : List Int → Int} {body : Ms → Ms} {m : Nat} (hb : ∀ (n : Nat) (s : Ms), Fit vs n s → Fit vs (n + m) (body s)) : ∀ (k n : Nat) (s : Ms), Fit vs n s → Fit vs (n + k * m) (loopM c val body k s)
  | 0, n, s, h => by rw [loopM]; simpa using h
  | k + 1, n, s, h => by
    rw [loopM]
    split
    · exact ⟨h.1, by have := h.2; show s.o.length ≤ _; omega⟩
    · have := loop_fit (c := c) (val := val) hb k (n + m) _ (hb n ⟨s.v, s.o, bumpT s.t c⟩ ⟨h.1, h.2⟩)
      rw [show n + (k + 1) * m = n + m + k * m by rw [Nat.succ_mul]; omega]
      exact this
mutual
theorem runO_fit {vs : List Vr} (hvb : vB vs) {hats : List Int} : ∀ (k : Sp) (n : Nat) (s : Ms), Fit vs n s → Fit vs (n + outO k) (runO vs hats k s)
  | .mk d c v n' t th el bs, n, s, h => by
    have ht : Fit vs n ⟨s.v, s.o, bumpT s.t c⟩ := ⟨h.1, h.2⟩
    by_cases h4 : d = 4
    · subst h4
      rw [runO_loop, outO_loop]
      exact loop_fit (fun n s h => runL_fit hvb th n s h) _ n s h
    by_cases h3 : d = 3
    · subst h3
      rw [runO_if, outO_if]
      by_cases hv : valueP s.v t ≠ 0
      · rw [if_pos hv]
        have := runL_fit hvb (hats := hats) th n _ ht
        exact ⟨this.1, by have := this.2; omega⟩
      · rw [if_neg hv]
        have := runL_fit hvb (hats := hats) el n _ ht
        exact ⟨this.1, by have := this.2; omega⟩
    rw [runO_act vs hats d c v n' t th el bs s h4 h3]
    by_cases h1 : d = 1
    · subst h1
      rw [outO_out]
      exact ⟨h.1, by have := h.2; show (s.o ++ [valueP s.v t]).length ≤ _; simp only [List.length_append, List.length_singleton]; omega⟩
    rw [outO, if_neg h1, if_neg h3, if_neg h4, actM, if_neg h1]
    by_cases h0 : d = 0
    · rw [if_pos h0]; exact ⟨setV_ok hvb h.1 _ _, h.2⟩
    rw [if_neg h0]
    by_cases h5 : d = 5
    · rw [if_pos h5]; exact ⟨setV_ok hvb h.1 _ _, h.2⟩
    rw [if_neg h5]
    by_cases h6 : d = 6
    · rw [if_pos h6]; exact ⟨h.1, h.2⟩
    rw [if_neg h6]; exact ⟨h.1, h.2⟩
theorem runL_fit {vs : List Vr} (hvb : vB vs) {hats : List Int} : ∀ (ks : List Sp) (n : Nat) (s : Ms), Fit vs n s → Fit vs (n + outL ks) (runL vs hats ks s)
  | [], n, s, h => by rw [runL, outL]; exact h
  | k :: ks, n, s, h => by
    rw [runL, outL, show n + (outO k + outL ks) = n + outO k + outL ks by omega]
    exact runL_fit hvb ks _ _ (runO_fit hvb k n s h)
end
theorem outL_drop {ks : List Sp} {i : Nat} (h : i < ks.length) : outL (ks.drop i) = outO ks[i] + outL (ks.drop (i + 1)) := by
  rw [List.drop_eq_getElem_cons h, outL]
theorem runL_drop {vs : List Vr} {hats : List Int} {ks : List Sp} {i : Nat} (h : i < ks.length) (s : Ms) : runL vs hats (ks.drop i) s = runL vs hats (ks.drop (i + 1)) (runO vs hats ks[i] s) := by
  rw [List.drop_eq_getElem_cons h, runL]
end Go.Proofs.YtjpjmoejdkmglaaGreat
