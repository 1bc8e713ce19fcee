/-
  The operations on words as operations on bits; no program is in sight here.
-/
import Derived.Test.YtpapbpekihgnlaaDoorBsP
namespace Go.Proofs.YtpapbpekihgnlaaDoor
namespace Bs

theorem of_bits {n : Nat} {F : Nat → Bool} {xs : List Nat} (hl : xs.length = (n + 63) / 64) (hf : fits xs) (h : ∀ i, bit xs i = (decide (i < n) && F i)) : xs = mk n F :=
  ext (by rw [hl, mk_len]) hf (mk_fits _ _) fun i => by rw [h, mk_bit]
theorem mk_congr {n : Nat} {F G : Nat → Bool} (h : ∀ i, i < n → F i = G i) : mk n F = mk n G := by
  refine ext (by rw [mk_len, mk_len]) (mk_fits _ _) (mk_fits _ _) fun i => ?_
  rw [mk_bit, mk_bit]
  by_cases hi : i < n
  · rw [h i hi]
  · simp [hi]
/-- The list of L words that g gives. -/
def tab (L : Nat) (g : Nat → Nat) : List Nat := (List.range L).map g
theorem tab_len (L : Nat) (g : Nat → Nat) : (tab L g).length = L := by simp [tab]
theorem tab_get (L : Nat) (g : Nat → Nat) (j : Nat) : (tab L g).getD j 0 = if j < L then g j else 0 := by
  unfold tab
  rw [List.getD_eq_getElem?_getD, List.getElem?_map]
  by_cases h : j < L
  · simp [h]
  · simp [h]
theorem tab_self (ws : List Nat) : tab ws.length (fun j => ws.getD j 0) = ws := by
  refine List.ext_getElem (by rw [tab_len]) fun j h1 h2 => ?_
  simp [tab, List.getD_eq_getElem?_getD, h2]
theorem tab_congr {L : Nat} {g h : Nat → Nat} (e : ∀ j, j < L → g j = h j) : tab L g = tab L h := by
  unfold tab
  exact List.map_congr_left fun j hj => e j (List.mem_range.1 hj)
theorem tab_fits {L : Nat} {g : Nat → Nat} (h : ∀ j, j < L → g j < 2 ^ 64) : fits (tab L g) := by
  intro j
  rw [tab_get]
  split
  · next hj => exact h j hj
  · decide
theorem tab_bit (L : Nat) (g : Nat → Nat) (i : Nat) : bit (tab L g) i = (decide (i / 64 < L) && (g (i / 64)).testBit (i % 64)) := by
  unfold bit
  rw [tab_get]
  by_cases h : i / 64 < L
  · simp [h]
  · simp [h]
theorem bit_none {ws : List Nat} {i : Nat} (h : ws.length ≤ i / 64) : bit ws i = false := by
  unfold bit
  rw [List.getD_eq_getElem?_getD, List.getElem?_eq_none h]
  simp
theorem vld_bit {n : Int} {ws : List Nat} (h : vld n ws = true) (i : Nat) (hi : n ≤ i) : bit ws i = false := (vld_iff.1 h).2.2.2 i hi
theorem vld_len {n : Nat} {ws : List Nat} (h : vld n ws = true) : ws.length = (n + 63) / 64 := by
  have := (vld_iff.1 h).2.2.1
  omega
theorem vld_le {n : Nat} {ws : List Nat} (h : vld n ws = true) : n ≤ 4096 := by
  have := (vld_iff.1 h).2.1
  omega
theorem zip_mk {op : Nat → Nat → Nat} {o : Bool → Bool → Bool} (hop : ∀ x y k, x < 2 ^ 64 → y < 2 ^ 64 → k < 64 → (op x y).testBit k = o (x.testBit k) (y.testBit k)) (hlt : ∀ x y, x < 2 ^ 64 → y < 2 ^ 64 → op x y < 2 ^ 64) (ho : o false false = false)
    {n : Nat} {a b : List Nat} (ha : vld n a = true) (hb : vld n b = true) (fa : fits a) (fb : fits b) : tab a.length (fun j => op (a.getD j 0) (b.getD j 0)) = mk n fun i => o (bit a i) (bit b i) := by
  refine of_bits (by rw [tab_len, vld_len ha]) (tab_fits fun j _ => hlt _ _ (fa j) (fb j)) fun i => ?_
  rw [tab_bit, hop _ _ _ (fa _) (fb _) (by omega)]
  show (_ && o (bit a i) (bit b i)) = _
  by_cases hi : i < n
  · have : i / 64 < a.length := by rw [vld_len ha]; omega
    simp [hi, this]
  · rw [vld_bit ha i (by omega), vld_bit hb i (by omega), ho]
    simp
theorem not_bit {y : Nat} (hy : y < 2 ^ 64) (k : Nat) : (18446744073709551615 - y).testBit k = (decide (k < 64) && !y.testBit k) := by
  have := Nat.testBit_two_pow_sub_succ hy k
  rw [← this]
  congr 1
  omega
theorem or_mk {n : Nat} {a b : List Nat} (ha : vld n a = true) (hb : vld n b = true) (fa : fits a) (fb : fits b) : tab a.length (fun j => a.getD j 0 ||| b.getD j 0) = mk n fun i => bit a i || bit b i :=
  zip_mk (op := fun x y => x ||| y) (o := fun p q => p || q) (fun x y k _ _ _ => Nat.testBit_or x y k) (fun _ _ hx hy => Nat.or_lt_two_pow hx hy) rfl ha hb fa fb
theorem and_mk {n : Nat} {a b : List Nat} (ha : vld n a = true) (hb : vld n b = true) (fa : fits a) (fb : fits b) : tab a.length (fun j => a.getD j 0 &&& b.getD j 0) = mk n fun i => bit a i && bit b i :=
  zip_mk (op := fun x y => x &&& y) (o := fun p q => p && q) (fun x y k _ _ _ => Nat.testBit_and x y k) (fun x _ _ hy => Nat.and_lt_two_pow x hy) rfl ha hb fa fb
theorem sub_mk {n : Nat} {a b : List Nat} (ha : vld n a = true) (hb : vld n b = true) (fa : fits a) (fb : fits b) : tab a.length (fun j => a.getD j 0 &&& (18446744073709551615 - b.getD j 0)) = mk n fun i => bit a i && !bit b i :=
  zip_mk (op := fun x y => x &&& (18446744073709551615 - y)) (o := fun p q => p && !q) (fun x y k _ hy hk => by rw [Nat.testBit_and, not_bit hy]; simp [hk]) (fun x _ _ _ => Nat.and_lt_two_pow x (by omega)) rfl ha hb fa fb
/-- What invert leaves in the word j of a set of the size n. -/
def inv (n : Nat) (ws : List Nat) (j : Nat) : Nat := if n % 64 ≠ 0 ∧ j = ws.length - 1 then (18446744073709551615 - ws.getD j 0) &&& (2 ^ (n % 64) - 1) else 18446744073709551615 - ws.getD j 0
theorem inv_mk {n : Nat} {ws : List Nat} (h : vld n ws = true) (hf : fits ws) : tab ws.length (inv n ws) = mk n fun i => !bit ws i := by
  have hl := vld_len h
  refine of_bits (by rw [tab_len, hl]) (tab_fits fun j _ => ?_) fun i => ?_
  · unfold inv
    split
    · exact Nat.lt_of_le_of_lt Nat.and_le_left (by omega)
    · omega
  · rw [tab_bit]
    by_cases hj : i / 64 < ws.length
    · simp only [hj, decide_true, Bool.true_and]
      unfold inv
      by_cases hc : n % 64 ≠ 0 ∧ i / 64 = ws.length - 1
      · rw [if_pos hc, Nat.testBit_and, not_bit (hf _), Nat.testBit_two_pow_sub_one]
        show (_ && !bit ws i && _) = _
        have : decide (i % 64 < n % 64) = decide (i < n) := by
          rw [Bool.eq_iff_iff, decide_eq_true_iff, decide_eq_true_iff]; omega
        rw [this]
        have h64 : i % 64 < 64 := by omega
        simp only [h64, decide_true, Bool.true_and]
        rw [Bool.and_comm]
      · rw [if_neg hc, not_bit (hf _)]
        show (_ && !bit ws i) = _
        have h64 : i % 64 < 64 := by omega
        have hi : i < n := by omega
        simp [h64, hi]
    · have hi : ¬ i < n := by omega
      simp [hj, hi]
/-- What changed leaves in the word j. -/
def putw (ws : List Nat) (i : Nat) (b : Bool) (j : Nat) : Nat := if j = i / 64 then (if b then ws.getD j 0 ||| 2 ^ (i % 64) else ws.getD j 0 &&& (18446744073709551615 - 2 ^ (i % 64))) else ws.getD j 0
theorem put_mk {n : Nat} {ws : List Nat} (h : vld n ws = true) (hf : fits ws) (i : Nat) (hi : i < n) (b : Bool) : tab ws.length (putw ws i b) = mk n fun k => if k = i then b else bit ws k := by
  have hl := vld_len h
  have hp : 2 ^ (i % 64) < 2 ^ 64 := Nat.pow_lt_pow_right (by omega) (by omega)
  refine of_bits (by rw [tab_len, hl]) (tab_fits fun j _ => ?_) fun k => ?_
  · unfold putw
    split
    · split
      · exact Nat.or_lt_two_pow (hf _) hp
      · exact Nat.and_lt_two_pow _ (Nat.lt_of_le_of_lt (Nat.sub_le _ _) (by decide))
    · exact hf _
  · rw [tab_bit]
    by_cases hj : k / 64 < ws.length
    · simp only [hj, decide_true, Bool.true_and]
      unfold putw
      by_cases hc : k / 64 = i / 64
      · rw [if_pos hc]
        have e : decide (i % 64 = k % 64) = decide (k = i) := by
          rw [Bool.eq_iff_iff, decide_eq_true_iff, decide_eq_true_iff]; omega
        have h64 : k % 64 < 64 := by omega
        by_cases hk : k = i
        · subst hk
          cases b
          · simp [not_bit hp, hi]
          · simp [hi]
        · have h2 : ¬ i % 64 = k % 64 := by omega
          have hb := vld_bit h k
          have key : (ws.getD (k / 64) 0).testBit (k % 64) = (decide (k < n) && bit ws k) := by
            by_cases hkn : k < n
            · simp [hkn, bit]
            · have := hb (by omega)
              rw [this]
              unfold bit at this
              rw [this]
              simp
          cases b
          · simp only [Bool.false_eq_true, if_false, if_neg hk]
            rw [Nat.testBit_and, not_bit hp, Nat.testBit_two_pow, key]
            simp [h2, h64]
          · simp only [if_true, if_neg hk]
            rw [Nat.testBit_or, Nat.testBit_two_pow, key]
            simp [h2]
      · rw [if_neg hc]
        have hk : ¬ k = i := by intro e; exact hc (by rw [e])
        rw [if_neg hk]
        show bit ws k = _
        by_cases hkn : k < n
        · simp [hkn]
        · rw [vld_bit h k (by omega)]; simp
    · have hk : ¬ k < n := by omega
      simp [hj, hk]
/-- The word of the bits from 64 w on. -/
theorem zero_mk (n : Nat) : tab ((n + 63) / 64) (fun _ => 0) = mk n fun _ => false := by
  refine of_bits (by rw [tab_len]) (tab_fits fun _ _ => by decide) fun i => ?_
  rw [tab_bit]
  simp
end Bs
end Go.Proofs.YtpapbpekihgnlaaDoor
