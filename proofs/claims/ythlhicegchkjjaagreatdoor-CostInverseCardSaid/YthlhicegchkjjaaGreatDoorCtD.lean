/-
  Texts of cost models: the library's numbers: plain laws; no program is in sight here.
-/
import Derived.Test.YthlhicegchkjjaaGreatDoorCtC
import Derived.Lib.AtoiAll
import Derived.Lib.ItoaNum
namespace Go.Proofs.YthlhicegchkjjaaGreatDoor
theorem parse_dig : ∀ (l : List UInt8) (acc : Nat), l.all digc = true → Lib.parseUint10 acc l = .ok (valD acc l) ∨ (Lib.parseUint10 acc l = .range ∧ 100 < valD acc l)
  | [], acc, _ => .inl rfl
  | d :: l, acc, h => by
    rw [List.all_cons, Bool.and_eq_true] at h
    have hd := h.1
    unfold digc at hd
    rw [decide_eq_true_iff] at hd
    have e : acc * 10 + (d.toNat - 48) = 10 * acc + (d.toNat - 48) := by omega
    have hle := valD_le l (10 * acc + (d.toNat - 48))
    unfold valD
    simp only [Lib.parseUint10]
    rw [if_pos (by omega)]
    split
    · exact .inr ⟨rfl, by omega⟩
    · split
      · exact .inr ⟨rfl, by omega⟩
      · first | (rw [e]; exact parse_dig l _ h.2) | exact parse_dig l _ h.2
theorem atoi_dig (l : List UInt8) (h : numOk l = true) : (valD 0 l ≤ 100 → Lib.atoiAll l = .ok (valD 0 l : Nat)) ∧ (100 < valD 0 l → (∃ v : Int, 100 < v ∧ Lib.atoiAll l = .ok v) ∨ Lib.atoiAll l = .range) := by
  unfold numOk at h
  rw [Bool.and_eq_true, Bool.and_eq_true] at h
  cases l with
  | nil => exact absurd h.1.1 (by decide)
  | cons c r =>
    have hc : digc c = true := by have := h.2; rw [List.all_cons, Bool.and_eq_true] at this; exact this.1
    unfold digc at hc
    rw [decide_eq_true_iff] at hc
    have h1 : ¬ (c.toNat = 43 ∨ c.toNat = 45) := by omega
    have h2 : ¬ c.toNat = 45 := by omega
    have hp := parse_dig (c :: r) 0 h.2
    have hm : Lib.parseMag (c :: r) = Lib.parseUint10 0 (c :: r) := by unfold Lib.parseMag; rw [if_neg (by simp)]
    unfold Lib.atoiAll
    simp only [if_neg h1, hm]
    rcases hp with hp | ⟨hp, hb⟩
    · rw [hp]
      simp only [h2, not_false_eq_true, true_and, false_and, if_false]
      constructor
      · intro hv
        rw [if_neg (by omega)]
      · intro hv
        by_cases hbig : 9223372036854775808 ≤ valD 0 (c :: r)
        · exact .inr (by rw [if_pos hbig])
        · exact .inl ⟨((valD 0 (c :: r) : Nat) : Int), by omega, by rw [if_neg hbig]⟩
    · rw [hp]
      exact ⟨fun hv => by omega, fun _ => .inr rfl⟩
theorem itoa_dec (n : Nat) (h : n ≤ 100) : Lib.itoa (n : Int) = decT n := by
  unfold Lib.itoa decT
  rw [if_neg (by omega), Int.toNat_natCast]
  by_cases h1 : n < 10
  · rw [if_pos h1, Lib.decDigits_one h1]
  · rw [if_neg h1]
    by_cases h2 : n < 100
    · rw [if_pos h2, Lib.decDigits_two h1 h2]
    · rw [if_neg h2]
      have : n = 100 := by omega
      subst this
      rw [Lib.decDigits, dif_neg (by omega), Lib.decDigits_two (by omega) (by omega)]
      rfl
end Go.Proofs.YthlhicegchkjjaaGreatDoor
