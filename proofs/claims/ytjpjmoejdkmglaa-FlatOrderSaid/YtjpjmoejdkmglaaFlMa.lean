/-
  The walks over Settled, the program's and the reference's.
-/
import Derived.Test.YtjpjmoejdkmglaaFlZ
import Derived.Deep.Cut
namespace Go.Proofs.Ytjpjmoejdkmglaa
open Go.RowKit

theorem settle_yes {t x : Int} {s : Int × Bool} (h : t ≤ x ∧ (s.2 = false ∨ x < s.1)) : settleS t s x = (x, true) := by unfold settleS; rw [if_pos h]
theorem settle_no {t x : Int} {s : Int × Bool} (h : ¬ (t ≤ x ∧ (s.2 = false ∨ x < s.1))) : settleS t s x = s := by unfold settleS; rw [if_neg h]

set_option maxHeartbeats 2000000 in
theorem settled_b (bs : List Int) (t r : Int) (H : Hid (settledP bs t = r)) (A : Option Addr) (l c : Nat) (w : World) (hz : Zs w A l c bs) :
    Calls Try.prog 17 #[.slice A l c, .int .i64 t] w fun e w' => e = .returned (.int .i64 r) ∧ w = w' := by
  have HZ := Lib.hid hz
  have HL := Lib.hid hz.len
  have hlm : l ≤ 9223372036854775807 := by have h1 := hz.cap; have h2 := hz.big; unfold maxLen at h2; omega
  obtain ⟨z, hz0⟩ : ∃ z, bs.foldl (settleS t) (t, false) = z := ⟨_, rfl⟩
  have hr : z.1 = r := by rw [← hz0]; exact H.out
  have HR := Lib.hid hr
  have HK0 : Hid ((bs.drop 0).foldl (settleS t) (t, false) = z) := hz0
  clear hz H hz0 hr
  go_enter Try.func17, Try.ntmps17
  go_wp2_with fail
  go_loop [5, 6, 12] (fun u v i => ∃ k : Nat, k ≤ l ∧ i = .int .i64 k ∧ ∃ (b : Int) (f : Bool), u = .int .i64 b ∧ v = .bool f ∧ Hid ((bs.drop k).foldl (settleS t) (b, f) = z)) (fun _ _ i => l - (intOf i).toNat)
  case atStart => exact ⟨0, by omega, rfl, t, false, rfl, rfl, HK0⟩
  case round =>
    obtain ⟨k, hk, rfl, b, f, rfl, rfl, HK⟩ := hrel
    by_cases hlt : k < l
    · obtain ⟨g, fo, hA, hg, hc⟩ := HZ.out.mem (by omega)
      subst hA
      have hlt' : (k : Int) < (l : Int) := by omega
      have ck := hc k hlt
      obtain ⟨x, hx⟩ : ∃ x, bs.getD k 0 = x := ⟨_, rfl⟩
      have hdr : bs.drop k = x :: bs.drop (k + 1) := by
        have hkl : k < bs.length := by rw [HL.out]; exact hlt
        rw [List.drop_eq_getElem_cons hkl, ← hx, List.getD_eq_getElem?_getD, List.getElem?_eq_getElem hkl]; rfl
      rw [hx] at ck
      clear hc hx
      by_cases hA : t ≤ x
      · have hA' : decide (t ≤ x) = true := decide_eq_true hA
        cases f with
        | false =>
          have HK2 : Hid ((bs.drop (k + 1)).foldl (settleS t) (x, true) = z) := by show _ = _; rw [← HK.out, hdr, List.foldl_cons, settle_yes (by first | exact ⟨by omega, .inl rfl⟩ | exact ⟨by omega, .inr (by simp only; omega)⟩)]
          clear HK hdr
          go_wp2_with fail
          go_round
          case rel => exact ⟨k + 1, by omega, by go_num, x, true, rfl, rfl, HK2⟩
          case measure => simp [intOf]; omega
        | true =>
          by_cases hB : x < b
          · have hB' : decide (x < b) = true := decide_eq_true hB
            have HK2 : Hid ((bs.drop (k + 1)).foldl (settleS t) (x, true) = z) := by show _ = _; rw [← HK.out, hdr, List.foldl_cons, settle_yes (by first | exact ⟨by omega, .inl rfl⟩ | exact ⟨by omega, .inr (by simp only; omega)⟩)]
            clear HK hdr
            go_wp2_with fail
            go_round
            case rel => exact ⟨k + 1, by omega, by go_num, x, true, rfl, rfl, HK2⟩
            case measure => simp [intOf]; omega
          · have hB' : decide (x < b) = false := decide_eq_false hB
            have HK2 : Hid ((bs.drop (k + 1)).foldl (settleS t) (b, true) = z) := by show _ = _; rw [← HK.out, hdr, List.foldl_cons, settle_no (by simp only; first | omega | (rintro ⟨h1, h2⟩; rcases h2 with h2 | h2 <;> first | omega | cases h2))]
            clear HK hdr
            go_wp2_with fail
            go_round
            case rel => exact ⟨k + 1, by omega, by go_num, b, _, rfl, rfl, HK2⟩
            case measure => simp [intOf]; omega
      · have hA' : decide (t ≤ x) = false := decide_eq_false hA
        have HK2 : Hid ((bs.drop (k + 1)).foldl (settleS t) (b, f) = z) := by show _ = _; rw [← HK.out, hdr, List.foldl_cons, settle_no (by simp only; first | omega | (rintro ⟨h1, h2⟩; rcases h2 with h2 | h2 <;> first | omega | cases h2))]
        clear HK hdr
        go_wp2_with fail
        go_round
        case rel => exact ⟨k + 1, by omega, by go_num, b, _, rfl, rfl, HK2⟩
        case measure => simp [intOf]; omega
    · obtain rfl : k = l := by omega
      have hb : b = r := by rw [← HR.out, ← HK.out, List.drop_of_length_le (by rw [HL.out]; exact Nat.le_refl _)]; rfl
      subst hb
      clear HK HR
      go_wp2_with fail
      go_ret
      exact ⟨rfl, rfl⟩

set_option maxHeartbeats 2000000 in
theorem rsettled_b (bs : List Int) (t r : Int) (H : Hid (settledP bs t = r)) (A : Option Addr) (l c : Nat) (w : World) (hz : Zs w A l c bs) :
    Calls Try.prog 18 #[.slice A l c, .int .i64 t] w fun e w' => e = .returned (.int .i64 r) ∧ w = w' := by
  have HZ := Lib.hid hz
  have HL := Lib.hid hz.len
  have hlm : l ≤ 9223372036854775807 := by have h1 := hz.cap; have h2 := hz.big; unfold maxLen at h2; omega
  obtain ⟨z, hz0⟩ : ∃ z, bs.foldl (settleS t) (t, false) = z := ⟨_, rfl⟩
  have hr : z.1 = r := by rw [← hz0]; exact H.out
  have HR := Lib.hid hr
  have HK0 : Hid ((bs.drop 0).foldl (settleS t) (t, false) = z) := hz0
  clear hz H hz0 hr
  go_enter Try.func18, Try.ntmps18
  go_wp2_with fail
  go_loop [5, 6, 7] (fun u v i => ∃ k : Nat, k ≤ l ∧ i = .int .i64 k ∧ ∃ (b : Int) (f : Bool), u = .int .i64 b ∧ v = .bool f ∧ Hid ((bs.drop k).foldl (settleS t) (b, f) = z)) (fun _ _ i => l - (intOf i).toNat)
  case atStart => exact ⟨0, by omega, rfl, t, false, rfl, rfl, HK0⟩
  case round =>
    obtain ⟨k, hk, rfl, b, f, rfl, rfl, HK⟩ := hrel
    by_cases hlt : k < l
    · obtain ⟨g, fo, hA, hg, hc⟩ := HZ.out.mem (by omega)
      subst hA
      have hlt' : (k : Int) < (l : Int) := by omega
      have ck := hc k hlt
      obtain ⟨x, hx⟩ : ∃ x, bs.getD k 0 = x := ⟨_, rfl⟩
      have hdr : bs.drop k = x :: bs.drop (k + 1) := by
        have hkl : k < bs.length := by rw [HL.out]; exact hlt
        rw [List.drop_eq_getElem_cons hkl, ← hx, List.getD_eq_getElem?_getD, List.getElem?_eq_getElem hkl]; rfl
      rw [hx] at ck
      clear hc hx
      by_cases hA : t ≤ x
      · have hA' : decide (t ≤ x) = true := decide_eq_true hA
        cases f with
        | false =>
          have HK2 : Hid ((bs.drop (k + 1)).foldl (settleS t) (x, true) = z) := by show _ = _; rw [← HK.out, hdr, List.foldl_cons, settle_yes (by first | exact ⟨by omega, .inl rfl⟩ | exact ⟨by omega, .inr (by simp only; omega)⟩)]
          clear HK hdr
          go_wp2_with fail
          go_round
          case rel => exact ⟨k + 1, by omega, by go_num, x, true, rfl, rfl, HK2⟩
          case measure => simp [intOf]; omega
        | true =>
          by_cases hB : x < b
          · have hB' : decide (x < b) = true := decide_eq_true hB
            have HK2 : Hid ((bs.drop (k + 1)).foldl (settleS t) (x, true) = z) := by show _ = _; rw [← HK.out, hdr, List.foldl_cons, settle_yes (by first | exact ⟨by omega, .inl rfl⟩ | exact ⟨by omega, .inr (by simp only; omega)⟩)]
            clear HK hdr
            go_wp2_with fail
            go_round
            case rel => exact ⟨k + 1, by omega, by go_num, x, true, rfl, rfl, HK2⟩
            case measure => simp [intOf]; omega
          · have hB' : decide (x < b) = false := decide_eq_false hB
            have HK2 : Hid ((bs.drop (k + 1)).foldl (settleS t) (b, true) = z) := by show _ = _; rw [← HK.out, hdr, List.foldl_cons, settle_no (by simp only; first | omega | (rintro ⟨h1, h2⟩; rcases h2 with h2 | h2 <;> first | omega | cases h2))]
            clear HK hdr
            go_wp2_with fail
            go_round
            case rel => exact ⟨k + 1, by omega, by go_num, b, _, rfl, rfl, HK2⟩
            case measure => simp [intOf]; omega
      · have hA' : decide (t ≤ x) = false := decide_eq_false hA
        have HK2 : Hid ((bs.drop (k + 1)).foldl (settleS t) (b, f) = z) := by show _ = _; rw [← HK.out, hdr, List.foldl_cons, settle_no (by simp only; first | omega | (rintro ⟨h1, h2⟩; rcases h2 with h2 | h2 <;> first | omega | cases h2))]
        clear HK hdr
        go_wp2_with fail
        go_round
        case rel => exact ⟨k + 1, by omega, by go_num, b, _, rfl, rfl, HK2⟩
        case measure => simp [intOf]; omega
    · obtain rfl : k = l := by omega
      have hb : b = r := by rw [← HR.out, ← HK.out, List.drop_of_length_le (by rw [HL.out]; exact Nat.le_refl _)]; rfl
      subst hb
      clear HK HR
      go_wp2_with fail
      go_ret
      exact ⟨rfl, rfl⟩
end Go.Proofs.Ytjpjmoejdkmglaa
