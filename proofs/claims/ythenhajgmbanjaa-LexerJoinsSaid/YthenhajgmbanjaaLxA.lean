/-
  The walks over the small functions of the lexer and of its reference: letters, digits, runs.
-/
import Derived.Test.YthenhajgmbanjaaProg
import Derived.Test.YthenhajgmbanjaaLx
import Derived.WalkKit
import Derived.WalkSpells
import Derived.WalkLawsBesides
import Derived.BigQuiet
import Derived.Deep.QuietTactic
import Derived.Outline
import Derived.Lib.Hide
namespace Go.Proofs.Ythenhajgmbanjaa
open Go.RowKit

theorem bool_of {a b : Bool} (h : a = true ↔ b = true) : a = b := Bool.eq_iff_iff.2 h
theorem ret_bool {a b : Bool} (h : a = b) : Ending.returned (.bool a) = .returned (.bool b) := by rw [h]
theorem ret_int {k : IntKind} {a b : Int} (h : a = b) : Ending.returned (.int k a) = .returned (.int k b) := by rw [h]
theorem drop_at (s : ByteArray) (k : Nat) (h : k < s.size) : s.data.toList.drop k = s[k] :: s.data.toList.drop (k + 1) := by
  rw [List.drop_eq_getElem_cons (by simpa using h)]; rfl
theorem drop_end (s : ByteArray) (k : Nat) (h : s.size ≤ k) : s.data.toList.drop k = [] := List.drop_of_length_le (by simpa using h)
theorem isL_def (c : UInt8) : Lx.isL c = (decide (97 ≤ (c.toNat : Int)) && decide ((c.toNat : Int) ≤ 122)) := by
  unfold Lx.isL; congr 2 <;> (apply propext; omega)
theorem isD_def (c : UInt8) : Lx.isD c = (decide (48 ≤ (c.toNat : Int)) && decide ((c.toNat : Int) ≤ 57)) := by
  unfold Lx.isD; congr 2 <;> (apply propext; omega)
theorem wlen_yes {c : UInt8} {l : Lx.Bytes} (h : Lx.alnum c = true) : Lx.wlen (c :: l) = Lx.wlen l + 1 := by simp [Lx.wlen, h]
theorem wlen_no {c : UInt8} {l : Lx.Bytes} (h : Lx.alnum c = false) : Lx.wlen (c :: l) = 0 := by simp [Lx.wlen, h]

theorem isLetter_any (c : UInt8) (w : World) :
    Calls Try.prog 32 #[.int .u8 (c.toNat : Int)] w fun e w' => e = .returned (.bool (Lx.isL c)) ∧ w = w' := by
  rw [isL_def]
  go_enter Try.func32, Try.ntmps32
  go_wp2
  all_goals go_ret
  all_goals exact ⟨ret_bool (by first | (simp [*]; done) | (simp [*]; omega)), rfl⟩

theorem isDigit_any (c : UInt8) (w : World) :
    Calls Try.prog 34 #[.int .u8 (c.toNat : Int)] w fun e w' => e = .returned (.bool (Lx.isD c)) ∧ w = w' := by
  rw [isD_def]
  go_enter Try.func34, Try.ntmps34
  go_wp2
  all_goals go_ret
  all_goals exact ⟨ret_bool (by first | (simp [*]; done) | (simp [*]; omega)), rfl⟩

theorem letter_any (c : UInt8) (w : World) :
    Calls Try.prog 27 #[.int .u8 (c.toNat : Int)] w fun e w' => e = .returned (.bool (Lx.isL c)) ∧ w = w' := by
  rw [isL_def]
  go_enter Try.func27, Try.ntmps27
  go_wp2
  all_goals go_ret
  all_goals exact ⟨ret_bool (by first | (simp [*]; done) | (simp [*]; omega)), rfl⟩

theorem digit_any (c : UInt8) (w : World) :
    Calls Try.prog 37 #[.int .u8 (c.toNat : Int)] w fun e w' => e = .returned (.bool (Lx.isD c)) ∧ w = w' := by
  rw [isD_def]
  go_enter Try.func37, Try.ntmps37
  go_wp2
  all_goals go_ret
  all_goals exact ⟨ret_bool (by first | (simp [*]; done) | (simp [*]; omega)), rfl⟩

theorem run_any (s : ByteArray) (i : Nat) (w : World) (hs : s.size ≤ maxLen) (hi : i ≤ s.size) :
    Calls Try.prog 33 #[.string s, .int .i64 i] w fun e w' => e = .returned (.int .i64 ((i + Lx.wlen (s.data.toList.drop i) : Nat) : Int)) ∧ w = w' := by
  unfold maxLen at hs
  obtain ⟨n, hn⟩ : ∃ n, n = i + Lx.wlen (s.data.toList.drop i) := ⟨_, rfl⟩
  rw [← hn]
  have HN := Lib.hid hn
  clear hn
  go_enter Try.func33, Try.ntmps33
  go_wp2
  go_loop [1] (fun v => ∃ k : Nat, k ≤ s.size ∧ v = .int .i64 k ∧ Hid (n = k + Lx.wlen (s.data.toList.drop k))) (fun v => s.size - (intOf v).toNat)
  case atStart => exact ⟨i, hi, rfl, HN⟩
  case round =>
    obtain ⟨k, hk, rfl, H⟩ := hrel
    clear HN
    by_cases hlt : k < s.size
    · have H1 : Hid (s.data.toList.drop k = s[k] :: s.data.toList.drop (k + 1)) := drop_at s k hlt
      by_cases hl : Lx.isL s[k] = true
      · go_wp2_with (first | (go_at_call 32; refine (isLetter_any _ _).mono ?_; rintro e w' ⟨rfl, rfl⟩) | (go_at_call 34; refine (isDigit_any _ _).mono ?_; rintro e w' ⟨rfl, rfl⟩))
        go_round
        case rel => exact ⟨k + 1, by omega, by go_num, by have := H.out; rw [H1.out, wlen_yes (by simp [Lx.alnum, hl])] at this; show n = _; omega⟩
        case measure => simp [intOf]; omega
      · have hl' : Lx.isL s[k] = false := by simpa using hl
        clear hl
        by_cases hd : Lx.isD s[k] = true
        · go_wp2_with (first | (go_at_call 32; refine (isLetter_any _ _).mono ?_; rintro e w' ⟨rfl, rfl⟩) | (go_at_call 34; refine (isDigit_any _ _).mono ?_; rintro e w' ⟨rfl, rfl⟩))
          go_round
          case rel => exact ⟨k + 1, by omega, by go_num, by have := H.out; rw [H1.out, wlen_yes (by simp [Lx.alnum, hd])] at this; show n = _; omega⟩
          case measure => simp [intOf]; omega
        · have hd' : Lx.isD s[k] = false := by simpa using hd
          clear hd
          go_wp2_with (first | (go_at_call 32; refine (isLetter_any _ _).mono ?_; rintro e w' ⟨rfl, rfl⟩) | (go_at_call 34; refine (isDigit_any _ _).mono ?_; rintro e w' ⟨rfl, rfl⟩))
          go_ret
          exact ⟨ret_int (by have := H.out; rw [H1.out, wlen_no (by simp [Lx.alnum, hl', hd'])] at this; omega), rfl⟩
    · go_wp2
      go_ret
      exact ⟨ret_int (by have := H.out; rw [drop_end s k (by omega)] at this; simp [Lx.wlen] at this; omega), rfl⟩

theorem rrun_any (s : ByteArray) (i : Nat) (w : World) (hs : s.size ≤ maxLen) (hi : i ≤ s.size) :
    Calls Try.prog 28 #[.string s, .int .i64 i] w fun e w' => e = .returned (.int .i64 ((i + Lx.wlen (s.data.toList.drop i) : Nat) : Int)) ∧ w = w' := by
  unfold maxLen at hs
  obtain ⟨n, hn⟩ : ∃ n, n = i + Lx.wlen (s.data.toList.drop i) := ⟨_, rfl⟩
  rw [← hn]
  have HN := Lib.hid hn
  clear hn
  go_enter Try.func28, Try.ntmps28
  go_wp2
  go_loop [1] (fun v => ∃ k : Nat, k ≤ s.size ∧ v = .int .i64 k ∧ Hid (n = k + Lx.wlen (s.data.toList.drop k))) (fun v => s.size - (intOf v).toNat)
  case atStart => exact ⟨i, hi, rfl, HN⟩
  case round =>
    obtain ⟨k, hk, rfl, H⟩ := hrel
    clear HN
    by_cases hlt : k < s.size
    · have H1 : Hid (s.data.toList.drop k = s[k] :: s.data.toList.drop (k + 1)) := drop_at s k hlt
      by_cases hl : Lx.isL s[k] = true
      · go_wp2_with (first | (go_at_call 27; refine (letter_any _ _).mono ?_; rintro e w' ⟨rfl, rfl⟩) | (go_at_call 37; refine (digit_any _ _).mono ?_; rintro e w' ⟨rfl, rfl⟩))
        go_round
        case rel => exact ⟨k + 1, by omega, by go_num, by have := H.out; rw [H1.out, wlen_yes (by simp [Lx.alnum, hl])] at this; show n = _; omega⟩
        case measure => simp [intOf]; omega
      · have hl' : Lx.isL s[k] = false := by simpa using hl
        clear hl
        by_cases hd : Lx.isD s[k] = true
        · go_wp2_with (first | (go_at_call 27; refine (letter_any _ _).mono ?_; rintro e w' ⟨rfl, rfl⟩) | (go_at_call 37; refine (digit_any _ _).mono ?_; rintro e w' ⟨rfl, rfl⟩))
          go_round
          case rel => exact ⟨k + 1, by omega, by go_num, by have := H.out; rw [H1.out, wlen_yes (by simp [Lx.alnum, hd])] at this; show n = _; omega⟩
          case measure => simp [intOf]; omega
        · have hd' : Lx.isD s[k] = false := by simpa using hd
          clear hd
          go_wp2_with (first | (go_at_call 27; refine (letter_any _ _).mono ?_; rintro e w' ⟨rfl, rfl⟩) | (go_at_call 37; refine (digit_any _ _).mono ?_; rintro e w' ⟨rfl, rfl⟩))
          go_ret
          exact ⟨ret_int (by have := H.out; rw [H1.out, wlen_no (by simp [Lx.alnum, hl', hd'])] at this; omega), rfl⟩
    · go_wp2
      go_ret
      exact ⟨ret_int (by have := H.out; rw [drop_end s k (by omega)] at this; simp [Lx.wlen] at this; omega), rfl⟩
end Go.Proofs.Ythenhajgmbanjaa
