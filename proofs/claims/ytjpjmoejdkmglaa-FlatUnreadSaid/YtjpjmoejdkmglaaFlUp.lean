/-
  Plain laws: secret values that no term mentions, replaced.
-/
import Derived.Test.YtjpjmoejdkmglaaJH
import Derived.Test.YtjpjmoejdkmglaaJE
namespace Go.Proofs.Ytjpjmoejdkmglaa
open Go.RowKit

/-- The number of secret variables. -/
def nsec : List Vr → Nat
  | [] => 0
  | v :: vs => (if v.kind = 1 then 1 else 0) + nsec vs
/-- The secret values, replaced where p allows it and the range does. -/
def patchS (p : Int → Bool) : List Vr → Nat → List Int → List Int → List Int
  | [], _, _, _ => []
  | v :: vs, i, S, O =>
    if v.kind = 1 then
      match S, O with
      | s :: S', o :: O' => (if p (i : Nat) = false ∧ v.low ≤ o ∧ o ≤ v.high then o else s) :: patchS p vs (i + 1) S' O'
      | _, _ => []
    else patchS p vs (i + 1) S O
theorem patchS_sec {p : Int → Bool} {v : Vr} {vs : List Vr} {i : Nat} {s o : Int} {S O : List Int} (h : v.kind = 1) : patchS p (v :: vs) i (s :: S) (o :: O) = (if p (i : Nat) = false ∧ v.low ≤ o ∧ o ≤ v.high then o else s) :: patchS p vs (i + 1) S O := by rw [patchS, if_pos h]
theorem patchS_else {p : Int → Bool} {v : Vr} {vs : List Vr} {i : Nat} {S O : List Int} (h : v.kind ≠ 1) : patchS p (v :: vs) i S O = patchS p vs (i + 1) S O := by
  conv => lhs; unfold patchS
  rw [if_neg h]
theorem startS_nsec : ∀ (vs : List Vr) (L : Lf) (vals : List Int) (out : Bool) (L' : Lf) (vals' : List Int) (out' : Bool), startS vs L vals out = some (L', vals', out') → L.s.length = nsec vs + L'.s.length
  | [], L, vals, out, L', vals', out', h => by
    rw [startS] at h
    injection h with h; injection h with h _
    rw [h, nsec, Nat.zero_add]
  | v :: vs, L, vals, out, L', vals', out', h => by
    by_cases hk : v.kind = 0
    · rw [startS_loc hk] at h
      have := startS_nsec vs _ _ _ _ _ _ h
      rw [nsec, if_neg (by omega), Nat.zero_add]; exact this
    · cases hg : L.get v.kind with
      | nil => rw [startS_none hk hg] at h; cases h
      | cons n rest =>
        rw [startS_some hk hg] at h
        have := startS_nsec vs _ _ _ _ _ _ h
        by_cases h1 : v.kind = 1
        · rw [nsec, if_pos h1]
          have e1 : (L.put v.kind rest).s = rest := by unfold Lf.put; rw [if_pos h1]
          have e2 : L.s = n :: rest := by unfold Lf.get at hg; rw [if_pos h1] at hg; exact hg
          rw [e1] at this
          rw [e2, List.length_cons]; omega
        · rw [nsec, if_neg h1, Nat.zero_add]
          have e1 : (L.put v.kind rest).s = L.s := by unfold Lf.put; rw [if_neg h1]; split <;> rfl
          rw [e1] at this; exact this
theorem startS_out : ∀ (vs : List Vr) (L : Lf) (vals : List Int) (L' : Lf) (vals' : List Int) (out' : Bool), startS vs L vals true = some (L', vals', out') → out' = true
  | [], L, vals, L', vals', out', h => by
    rw [startS] at h
    injection h with h; injection h with _ h; injection h with _ h
    exact h.symm
  | v :: vs, L, vals, L', vals', out', h => by
    by_cases hk : v.kind = 0
    · rw [startS_loc hk] at h
      exact startS_out vs _ _ _ _ _ h
    · cases hg : L.get v.kind with
      | nil => rw [startS_none hk hg] at h; cases h
      | cons n rest =>
        rw [startS_some hk hg, Bool.true_or] at h
        exact startS_out vs _ _ _ _ _ h
theorem Like.snoc {p : Int → Bool} {l l' : List Int} (h : Like p l l') {n n' : Int} (hn : p (l.length : Nat) = true → n = n') : Like p (l ++ [n]) (l' ++ [n']) := by
  refine ⟨by simp [h.1], fun i hi => ?_⟩
  rw [List.getD_eq_getElem?_getD, List.getD_eq_getElem?_getD]
  by_cases e : i < l.length
  · rw [List.getElem?_append_left e, List.getElem?_append_left (by rw [← h.1]; exact e)]
    have := h.2 i hi
    rw [List.getD_eq_getElem?_getD, List.getD_eq_getElem?_getD] at this
    exact this
  · rw [List.getElem?_append_right (by omega), List.getElem?_append_right (by rw [← h.1]; omega), ← h.1]
    by_cases e2 : i = l.length
    · subst e2; rw [hn hi]
    · rw [List.getElem?_eq_none (by simp; omega), List.getElem?_eq_none (by simp; omega)]
theorem startS_patch {p : Int → Bool} : ∀ (vs : List Vr) (i : Nat) (S O P R vals vals2 : List Int) (out : Bool) (L' : Lf) (vals' : List Int), startS vs ⟨S, P, R⟩ vals out = some (L', vals', false) → L'.s = [] → O.length = S.length → vals.length = i → Like p vals vals2 →
    ∃ vals2', startS vs ⟨patchS p vs i S O, P, R⟩ vals2 out = some (L', vals2', false) ∧ Like p vals' vals2'
  | [], i, S, O, P, R, vals, vals2, out, L', vals', h, hs, hO, hl, hk => by
    rw [startS] at h
    injection h with h; injection h with h1 h; injection h with h2 h3
    subst h1 h2 h3
    simp only at hs
    subst hs
    exact ⟨vals2, by rw [startS, patchS], hk⟩
  | v :: vs, i, S, O, P, R, vals, vals2, out, L', vals', h, hs, hO, hl, hk => by
    by_cases hk0 : v.kind = 0
    · rw [startS_loc hk0] at h
      rw [patchS_else (by omega), startS_loc hk0]
      exact startS_patch vs (i + 1) S O P R _ _ out L' vals' h hs hO (by simp [hl]) (hk.snoc fun _ => rfl)
    · by_cases hk1 : v.kind = 1
      · cases S with
        | nil => rw [startS_none hk0 (by unfold Lf.get; rw [if_pos hk1])] at h; cases h
        | cons s S' =>
          cases O with
          | nil => simp at hO
          | cons o O' =>
            rw [startS_some (n := s) (rest := S') hk0 (by unfold Lf.get; rw [if_pos hk1])] at h
            have hput : ∀ (a b : List Int), (⟨a, P, R⟩ : Lf).put v.kind b = ⟨b, P, R⟩ := fun a b => by unfold Lf.put; rw [if_pos hk1]
            rw [hput] at h
            have hout : (out || (decide (s < v.low) || decide (v.high < s))) = false := by
              cases e : (out || (decide (s < v.low) || decide (v.high < s))) with
              | false => rfl
              | true => rw [e] at h; have := startS_out _ _ _ _ _ _ h; cases this
            rw [hout] at h
            rw [Bool.or_eq_false_iff, Bool.or_eq_false_iff, decide_eq_false_iff_not, decide_eq_false_iff_not] at hout
            obtain ⟨n2, hn2⟩ : ∃ z, (if p (i : Nat) = false ∧ v.low ≤ o ∧ o ≤ v.high then o else s) = z := ⟨_, rfl⟩
            have hrange : ¬ n2 < v.low ∧ ¬ v.high < n2 := by
              rw [← hn2]
              split
              · rename_i hc; omega
              · exact hout.2
            have heq : p (vals.length : Nat) = true → s = n2 := fun hp => by
              rw [hl] at hp
              rw [← hn2, if_neg (by rw [hp]; simp)]
            obtain ⟨vals2', h1, h2⟩ := startS_patch vs (i + 1) S' O' P R (vals ++ [s]) (vals2 ++ [n2]) false L' vals' h hs (by simpa using hO) (by simp [hl]) (hk.snoc heq)
            refine ⟨vals2', ?_, h2⟩
            rw [patchS_sec hk1, hn2, startS_some (n := n2) (rest := patchS p vs (i + 1) S' O') hk0 (by unfold Lf.get; rw [if_pos hk1]), hput, hout.1, Bool.false_or, decide_eq_false hrange.1, decide_eq_false hrange.2]
            exact h1
      · rw [patchS_else hk1]
        have hget : ∀ a : List Int, (⟨a, P, R⟩ : Lf).get v.kind = if v.kind = 2 then P else R := fun a => by unfold Lf.get; rw [if_neg hk1]
        cases hg : (if v.kind = 2 then P else R) with
        | nil => rw [startS_none hk0 ((hget S).trans hg)] at h; cases h
        | cons n rest =>
          rw [startS_some hk0 ((hget S).trans hg)] at h
          have hput : ∀ a : List Int, (⟨a, P, R⟩ : Lf).put v.kind rest = if v.kind = 2 then ⟨a, rest, R⟩ else ⟨a, P, rest⟩ := fun a => by unfold Lf.put; rw [if_neg hk1]
          rw [hput] at h
          rw [startS_some hk0 ((hget _).trans hg), hput]
          by_cases hk2 : v.kind = 2
          · rw [if_pos hk2] at h ⊢
            exact startS_patch vs (i + 1) S O rest R _ _ _ L' vals' h hs hO (by simp [hl]) (hk.snoc fun _ => rfl)
          · rw [if_neg hk2] at h ⊢
            exact startS_patch vs (i + 1) S O P rest _ _ _ L' vals' h hs hO (by simp [hl]) (hk.snoc fun _ => rfl)
theorem startP_patch {p : Int → Bool} {vs : List Vr} {S O P R vals : List Int} (h : startP vs ⟨S, P, R⟩ = (0, vals)) (hO : O.length = S.length) : nsec vs = S.length ∧ ∃ vals2, startP vs ⟨patchS p vs 0 S O, P, R⟩ = (0, vals2) ∧ Like p vals vals2 := by
  unfold startP at h ⊢
  cases hs : startS vs ⟨S, P, R⟩ [] false with
  | none => rw [hs] at h; cases h
  | some x =>
    obtain ⟨L', vals', out⟩ := x
    rw [hs] at h
    simp only at h
    split at h
    · cases h
    split at h
    · cases h
    · rename_i h1 ho
      injection h with _ h
      subst h
      have ho' : out = false := by simpa using ho
      subst ho'
      have hse : L'.s = [] := Classical.byContradiction fun e => h1 (.inl e)
      have hn := startS_nsec _ _ _ _ _ _ _ hs
      rw [hse] at hn
      obtain ⟨vals2, h2, h3⟩ := startS_patch (p := p) vs 0 S O P R [] [] false L' vals' hs hse hO rfl ⟨rfl, fun _ _ => rfl⟩
      refine ⟨by simpa using hn.symm, vals2, ?_, h3⟩
      rw [h2]
      simp only
      rw [if_neg h1, if_neg (by simp)]
theorem inH_mem {i : Int} : ∀ {hs : List Ht} {h : Ht}, h ∈ hs → inT i h.t = true → inH i hs = true
  | x :: hs, h, hm, hi => by
    rw [inH]
    rcases List.mem_cons.1 hm with rfl | hm
    · rw [hi, Bool.true_or]
    · rw [inH_mem hm hi, Bool.or_true]
/-- The outputs and the time don't change. -/
theorem start_unread {vs : List Vr} {hs : List Ht} {ks : List Sp} {S O P R vals : List Int} (h : startC vs hs ks ⟨S, P, R⟩ = (0, vals)) (hO : O.length = S.length) :
    nsec vs = S.length ∧ ∃ vals2, startC vs hs ks ⟨patchS (fun i => inH i hs || inSL i ks) vs 0 S O, P, R⟩ = (0, vals2) ∧ (endM vs hs ks vals).o = (endM vs hs ks vals2).o ∧ (endM vs hs ks vals).t = (endM vs hs ks vals2).t := by
  unfold startC at h ⊢
  have hc : checkP vs hs ks = 0 := by
    by_cases e : checkP vs hs ks = 0
    · exact e
    · rw [if_pos e] at h
      injection h
  rw [if_neg (by simpa using hc)] at h
  obtain ⟨hn, vals2, h2, hk⟩ := startP_patch (p := fun i => inH i hs || inSL i ks) h hO
  refine ⟨hn, vals2, by rw [if_neg (by simpa using hc)]; exact h2, ?_⟩
  have hfacts : hatsC vs hs = 0 ∧ stepsC vs hs.length true ks = 0 := by
    unfold checkP at hc
    split at hc; · cases hc
    split at hc; · rename_i e; exact absurd hc e
    split at hc; · rename_i e; exact absurd hc e
    split at hc; · rename_i e; exact absurd hc e
    rename_i e1 e2
    exact ⟨Classical.byContradiction e1, Classical.byContradiction e2⟩
  have hhat : hatV vals hs = hatV vals2 hs := by
    unfold hatV
    refine List.map_congr_left fun x hx => ?_
    obtain ⟨i, hi, rfl⟩ := List.getElem_of_mem hx
    have hf := (hatsC_zero hfacts.1 (List.getElem?_eq_getElem hi)).1
    rw [value_like hk vs true _ hf fun j hj => by show (inH j hs || inSL j ks) = true; rw [inH_mem hx hj, Bool.true_or]]
  have hl := runL_like (hats := hatV vals hs) ks true ⟨vals, [], 0⟩ ⟨vals2, [], 0⟩ hfacts.2 (fun i hi => by show (inH i hs || inSL i ks) = true; rw [hi, Bool.or_true]) ⟨hk, rfl, rfl⟩
  unfold endM
  rw [← hhat]
  exact ⟨hl.o, hl.t⟩
end Go.Proofs.Ytjpjmoejdkmglaa
