/-
  Finite sets of integers as lists of 64-bit words; no program is in sight here.
-/
import Derived.WalkKit
import Derived.Lib.Hide
namespace Go.Proofs.YtpapbpekihgnlaaDoor
namespace Bs

/-- The bit i of a list of words. -/
def bit (ws : List Nat) (i : Nat) : Bool := (ws.getD (i / 64) 0).testBit (i % 64)
/-- Each word fits. -/
def fits (ws : List Nat) : Prop := ∀ j, ws.getD j 0 < 2 ^ 64
/-- Two lists of one length with the same bits are one. -/
theorem ext {a b : List Nat} (hl : a.length = b.length) (ha : fits a) (hb : fits b) (h : ∀ i, bit a i = bit b i) : a = b := by
  refine List.ext_getElem hl fun j h1 h2 => ?_
  have e1 : a.getD j 0 = a[j] := by simp [List.getD_eq_getElem?_getD, h1]
  have e2 : b.getD j 0 = b[j] := by simp [List.getD_eq_getElem?_getD, h2]
  rw [← e1, ← e2]
  refine Nat.eq_of_testBit_eq fun k => ?_
  by_cases hk : k < 64
  · have := h (64 * j + k)
    unfold bit at this
    rwa [show (64 * j + k) / 64 = j by omega, show (64 * j + k) % 64 = k by omega] at this
  · rw [Nat.testBit_lt_two_pow (Nat.lt_of_lt_of_le (ha j) (Nat.pow_le_pow_right (by omega) (by omega))), Nat.testBit_lt_two_pow (Nat.lt_of_lt_of_le (hb j) (Nat.pow_le_pow_right (by omega) (by omega)))]
/-- A valid set: its size, its words. -/
def vld (n : Int) (ws : List Nat) : Bool := decide (0 ≤ n) && (decide (n ≤ 4096) && (decide ((ws.length : Int) = (n + 63) / 64) && (List.range (64 * ws.length)).all fun i => decide ((i : Int) < n) || !bit ws i))
theorem vld_iff {n : Int} {ws : List Nat} : vld n ws = true ↔ 0 ≤ n ∧ n ≤ 4096 ∧ (ws.length : Int) = (n + 63) / 64 ∧ ∀ i : Nat, n ≤ i → bit ws i = false := by
  unfold vld
  simp only [Bool.and_eq_true, decide_eq_true_eq, List.all_eq_true, List.mem_range, Bool.or_eq_true, Bool.not_eq_true']
  constructor
  · rintro ⟨h1, h2, h3, h4⟩
    refine ⟨h1, h2, h3, fun i hi => ?_⟩
    by_cases hl : i < 64 * ws.length
    · rcases h4 i hl with h | h
      · omega
      · exact h
    · unfold bit
      rw [List.getD_eq_getElem?_getD, List.getElem?_eq_none (by omega)]
      simp
  · rintro ⟨h1, h2, h3, h4⟩
    refine ⟨h1, h2, h3, fun i _ => ?_⟩
    by_cases hi : (i : Int) < n
    · exact .inl hi
    · exact .inr (h4 i (by omega))
/-- The number whose first m bits are given. -/
def word (f : Nat → Bool) : Nat → Nat
  | 0 => 0
  | m + 1 => word f m + if f m then 2 ^ m else 0
theorem word_lt (f : Nat → Bool) (m : Nat) : word f m < 2 ^ m := by
  induction m with
  | zero => simp [word]
  | succ m ih =>
    simp only [word]
    rw [Nat.pow_succ]
    split <;> omega
theorem word_bit (f : Nat → Bool) (m i : Nat) : (word f m).testBit i = (decide (i < m) && f i) := by
  induction m with
  | zero => simp [word]
  | succ m ih =>
    have hl := word_lt f m
    by_cases him : i = m
    · subst him
      simp only [word]
      by_cases hf : f i = true
      · rw [if_pos hf, Nat.add_comm, Nat.testBit_two_pow_add_eq, Nat.testBit_lt_two_pow hl]; simp [hf]
      · rw [if_neg hf, Nat.add_zero, Nat.testBit_lt_two_pow hl]; simp [hf]
    · have hd : decide (i < m + 1) = decide (i < m) := by
        by_cases h : i < m
        · simp [h]; omega
        · simp [h]; omega
      rw [hd]
      simp only [word]
      by_cases hf : f m = true
      · rw [if_pos hf, Nat.add_comm]
        by_cases h : i < m
        · rw [Nat.testBit_two_pow_add_gt h, ih]
        · have h1 : 2 ^ m + word f m < 2 ^ i := by
            have h2 : 2 ^ (m + 1) ≤ 2 ^ i := Nat.pow_le_pow_right (by omega) (by omega)
            rw [Nat.pow_succ] at h2
            omega
          rw [Nat.testBit_lt_two_pow h1]
          simp [h]
      · rw [if_neg hf, Nat.add_zero, ih]
/-- The words of the set with the given flags (the reference's Make). -/
def mk (n : Nat) (f : Nat → Bool) : List Nat := (List.range ((n + 63) / 64)).map fun w => word (fun i => decide (64 * w + i < n) && f (64 * w + i)) 64
theorem mk_len (n : Nat) (f : Nat → Bool) : (mk n f).length = (n + 63) / 64 := by simp [mk]
theorem mk_get (n : Nat) (f : Nat → Bool) (w : Nat) : (mk n f).getD w 0 = if w < (n + 63) / 64 then word (fun i => decide (64 * w + i < n) && f (64 * w + i)) 64 else 0 := by
  unfold mk
  rw [List.getD_eq_getElem?_getD, List.getElem?_map]
  by_cases h : w < (n + 63) / 64
  · simp [h]
  · simp [h]
theorem mk_bit (n : Nat) (f : Nat → Bool) (i : Nat) : bit (mk n f) i = (decide (i < n) && f i) := by
  unfold bit
  rw [mk_get]
  have e : 64 * (i / 64) + i % 64 = i := by omega
  by_cases h : i / 64 < (n + 63) / 64
  · rw [if_pos h, word_bit, e]
    have : i % 64 < 64 := by omega
    simp [this]
  · rw [if_neg h]
    have : ¬ i < n := by omega
    simp [this]
theorem mk_fits (n : Nat) (f : Nat → Bool) : fits (mk n f) := by
  intro j
  rw [mk_get]
  split
  · exact word_lt _ 64
  · decide
theorem mk_vld (n : Nat) (f : Nat → Bool) (h : n ≤ 4096) : vld n (mk n f) = true := by
  rw [vld_iff]
  refine ⟨by omega, by omega, by rw [mk_len]; omega, fun i hi => ?_⟩
  rw [mk_bit]
  have : ¬ i < n := by omega
  simp [this]
/-- A valid set is what its bits make. -/
theorem vld_mk {n : Nat} {ws : List Nat} (h : vld n ws = true) (hf : fits ws) : mk n (bit ws) = ws := by
  obtain ⟨_, h2, h3, h4⟩ := vld_iff.1 h
  refine ext (by rw [mk_len]; omega) (mk_fits _ _) hf fun i => ?_
  rw [mk_bit]
  by_cases hi : i < n
  · simp [hi]
  · simp [hi, h4 i (by omega)]
theorem bit_div (ws : List Nat) (i : Nat) : bit ws i = decide (ws.getD (i / 64) 0 / 2 ^ (i % 64) % 2 = 1) := by
  unfold bit
  rw [Nat.testBit_eq_decide_div_mod_eq]
theorem vld_not {n : Int} {ws : List Nat} (h : n < 0 ∨ 4096 < n ∨ ¬ (ws.length : Int) = (n + 63) / 64) : vld n ws = false := by
  rw [Bool.eq_false_iff]
  intro hv
  obtain ⟨h1, h2, h3, _⟩ := vld_iff.1 hv
  rcases h with h | h | h
  · omega
  · omega
  · exact h h3
/-- What the program asks of the last word. -/
theorem vld_last {n : Nat} {ws : List Nat} (hf : fits ws) (h : n ≤ 4096) (hl : ws.length = (n + 63) / 64) : vld n ws = (decide (n % 64 = 0) || decide (ws.getD (ws.length - 1) 0 / 2 ^ (n % 64) = 0)) := by
  by_cases h0 : n % 64 = 0
  · simp only [h0, decide_true, Bool.true_or]
    rw [vld_iff]
    refine ⟨by omega, by omega, by omega, fun i hi => ?_⟩
    unfold bit
    rw [List.getD_eq_getElem?_getD, List.getElem?_eq_none (by omega)]
    simp
  · simp only [h0, decide_false, Bool.false_or]
    rw [Bool.eq_iff_iff, vld_iff, decide_eq_true_iff]
    constructor
    · rintro ⟨_, _, _, h4⟩
      refine Nat.eq_of_testBit_eq fun k => ?_
      rw [Nat.zero_testBit, Nat.testBit_div_two_pow]
      by_cases hk : k + n % 64 < 64
      · have := h4 (n + k) (by omega)
        unfold bit at this
        rwa [show (n + k) / 64 = ws.length - 1 by omega, show (n + k) % 64 = k + n % 64 by omega] at this
      · exact Nat.testBit_lt_two_pow (Nat.lt_of_lt_of_le (hf _) (Nat.pow_le_pow_right (by omega) (by omega)))
    · intro hx
      have hlt : ws.getD (ws.length - 1) 0 < 2 ^ (n % 64) := by
        rcases Nat.lt_or_ge (ws.getD (ws.length - 1) 0) (2 ^ (n % 64)) with hh | hh
        · exact hh
        · have := Nat.div_pos hh (Nat.two_pow_pos (n % 64))
          omega
      refine ⟨by omega, by omega, by omega, fun i hi => ?_⟩
      unfold bit
      by_cases he : i / 64 = ws.length - 1
      · rw [he]
        exact Nat.testBit_lt_two_pow (Nat.lt_of_lt_of_le hlt (Nat.pow_le_pow_right (by omega) (by omega)))
      · rw [List.getD_eq_getElem?_getD, List.getElem?_eq_none (by omega)]
        simp
end Bs
end Go.Proofs.YtpapbpekihgnlaaDoor
