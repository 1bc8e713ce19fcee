/-
  The walks over isName, of policy and of lattice, and of their references.
-/
import Derived.Test.YtnipigninbeplaaDoorPoA
import Derived.Test.YtnipigninbeplaaDoorFlNm
namespace Go.Proofs.YtnipigninbeplaaDoor
open Go.RowKit

theorem okc_word {k : Nat} {c : UInt8} (h : wordc c = true) (hk : k ≠ 0) : okc k c := by
  unfold wordc at h
  unfold okc
  simp at h
  omega
theorem not_okc {k : Nat} {c : UInt8} (h : wordc c = false) : ¬ okc k c := by
  unfold wordc at h
  unfold okc
  simp at h
  omega
set_option maxHeartbeats 2000000 in
theorem pisName_b (s : ByteArray) (b : Bool) (H : Hid (nameB s = b)) (hs : s.size ≤ maxLen) (w : World) :
    Calls Tryd.prog 48 #[.string s] w fun e w' => e = .returned (.bool b) ∧ w = w' := by
  have hsm : s.size ≤ 9223372036854775807 := by unfold maxLen at hs; omega
  clear hs
  by_cases h0 : s.size = 0
  · have hb : b = false := by
      rw [← H.out]; unfold nameB; rw [decide_eq_false (show ¬ 1 ≤ s.size by omega)]; rfl
    subst hb
    clear H
    have he : s = { data := #[] } := by
      obtain ⟨d⟩ := s
      have : d.size = 0 := h0
      rw [Array.size_eq_zero_iff] at this
      rw [this]
    subst he
    go_enter Tryd.func48, Tryd.ntmps48
    go_wp2_with fail
    go_ret
    exact ⟨rfl, rfl⟩
  have hne : s.toList.isEmpty = false := by
    rw [Bool.eq_false_iff]
    intro h
    rw [List.isEmpty_iff, toList_nil_iff] at h
    exact h0 h
  by_cases h40 : 40 < s.size
  · have hb : b = false := by
      rw [← H.out]; unfold nameB; rw [decide_eq_false (show ¬ s.size ≤ 40 by omega)]; simp
    subst hb
    clear H
    have h40' : (40 : Int) < (s.size : Int) := by omega
    have h1' : ¬ ((s.size : Int) < 1) := by omega
    go_enter Tryd.func48, Tryd.ntmps48
    go_wp2_with fail
    go_ret
    exact ⟨rfl, rfl⟩
  have h40' : ¬ ((40 : Int) < (s.size : Int)) := by omega
  have h1' : ¬ ((s.size : Int) < 1) := by omega
  have hz : 0 < s.size := by omega
  have hz' : (0 : Int) < (s.size : Int) := by omega
  have HNB : Hid (nameB s = decide (∀ k (h : k < s.size), okc k s[k])) := by
    show _ = _
    unfold nameB
    rw [decide_eq_true (show 1 ≤ s.size by omega), decide_eq_true (show s.size ≤ 40 by omega), Bool.true_and, Bool.true_and]
  by_cases hlo : (s[0].toNat : Int) < 97
  · have hb : b = false := by
      rw [← H.out]
      exact nameB_bad hz (by unfold okc; omega)
    subst hb
    clear H HNB
    go_enter Tryd.func48, Tryd.ntmps48
    go_wp2_with fail
    go_ret
    exact ⟨rfl, rfl⟩
  by_cases hhi : 122 < (s[0].toNat : Int)
  · have hb : b = false := by
      rw [← H.out]
      exact nameB_bad hz (by unfold okc; omega)
    subst hb
    clear H HNB
    go_enter Tryd.func48, Tryd.ntmps48
    go_wp2_with fail
    go_ret
    exact ⟨rfl, rfl⟩
  have HLT : Hid (97 ≤ (s[0].toNat : Int) ∧ (s[0].toNat : Int) ≤ 122) := ⟨by omega, by omega⟩
  go_enter Tryd.func48, Tryd.ntmps48
  go_wp2_with fail
  go_loop [23] (fun v => ∃ k : Nat, k ≤ s.size ∧ v = .int .i64 k ∧ Hid (∀ j (h : j < s.size), j < k → okc j s[j])) (fun v => s.size - (intOf v).toNat)
  case atStart => exact ⟨0, by omega, rfl, fun j _ h => absurd h (by omega)⟩
  case round =>
    obtain ⟨k, hk, rfl, HK⟩ := hrel
    by_cases hlt : k < s.size
    · have hlt' : (k : Int) < (s.size : Int) := by omega
      obtain ⟨b1, hb1⟩ : ∃ z, wordc s[k] = z := ⟨_, rfl⟩
      have HB1 : Hid (wordc s[k] = b1) := hb1
      clear hb1
      go_wp2_with fail
      go_at_call 70
      refine (wordByte_b s[k] b1 HB1 _).mono ?_
      rintro e w1 ⟨rfl, rfl⟩
      cases b1
      · have hb : b = false := by
          rw [← H.out]
          exact nameB_bad hlt (not_okc HB1.out)
        subst hb
        clear H HK HNB HLT
        go_wp2_with fail
        go_ret
        exact ⟨rfl, rfl⟩
      · have HK' : Hid (∀ j (h : j < s.size), j < k + 1 → okc j s[j]) := fun j hj hjk => by
          by_cases hjk' : j = k
          · subst hjk'
            by_cases hj0 : j = 0
            · subst hj0
              have := HLT.out
              unfold okc; omega
            · exact okc_word HB1.out hj0
          · exact HK.out j hj (by omega)
        go_wp2_with fail
        go_round
        case rel => exact ⟨k + 1, by omega, by go_num, HK'⟩
        case measure => simp [intOf]; omega
    · have hb : b = true := by
        rw [← H.out, HNB.out]
        exact decide_eq_true fun j hj => HK.out j hj (by omega)
      subst hb
      clear H HNB HK
      have hge : ¬ ((k : Int) < (s.size : Int)) := by omega
      go_wp2_with fail
      go_ret
      exact ⟨rfl, rfl⟩
set_option maxHeartbeats 2000000 in
theorem prisName_b (s : ByteArray) (b : Bool) (H : Hid (nameB s = b)) (hs : s.size ≤ maxLen) (w : World) :
    Calls Tryd.prog 52 #[.string s] w fun e w' => e = .returned (.bool b) ∧ w = w' := by
  have hsm : s.size ≤ 9223372036854775807 := by unfold maxLen at hs; omega
  clear hs
  by_cases h0 : s.size = 0
  · have hb : b = false := by
      rw [← H.out]; unfold nameB; rw [decide_eq_false (show ¬ 1 ≤ s.size by omega)]; rfl
    subst hb
    clear H
    have he : s = { data := #[] } := by
      obtain ⟨d⟩ := s
      have : d.size = 0 := h0
      rw [Array.size_eq_zero_iff] at this
      rw [this]
    subst he
    go_enter Tryd.func52, Tryd.ntmps52
    go_wp2_with fail
    go_ret
    exact ⟨rfl, rfl⟩
  have hne : s.toList.isEmpty = false := by
    rw [Bool.eq_false_iff]
    intro h
    rw [List.isEmpty_iff, toList_nil_iff] at h
    exact h0 h
  by_cases h40 : 40 < s.size
  · have hb : b = false := by
      rw [← H.out]; unfold nameB; rw [decide_eq_false (show ¬ s.size ≤ 40 by omega)]; simp
    subst hb
    clear H
    have h40' : (40 : Int) < (s.size : Int) := by omega
    have h1' : ¬ ((s.size : Int) < 1) := by omega
    go_enter Tryd.func52, Tryd.ntmps52
    go_wp2_with fail
    go_ret
    exact ⟨rfl, rfl⟩
  have h40' : ¬ ((40 : Int) < (s.size : Int)) := by omega
  have h1' : ¬ ((s.size : Int) < 1) := by omega
  have hz : 0 < s.size := by omega
  have hz' : (0 : Int) < (s.size : Int) := by omega
  have HNB : Hid (nameB s = decide (∀ k (h : k < s.size), okc k s[k])) := by
    show _ = _
    unfold nameB
    rw [decide_eq_true (show 1 ≤ s.size by omega), decide_eq_true (show s.size ≤ 40 by omega), Bool.true_and, Bool.true_and]
  by_cases hlo : (s[0].toNat : Int) < 97
  · have hb : b = false := by
      rw [← H.out]
      exact nameB_bad hz (by unfold okc; omega)
    subst hb
    clear H HNB
    go_enter Tryd.func52, Tryd.ntmps52
    go_wp2_with fail
    go_ret
    exact ⟨rfl, rfl⟩
  by_cases hhi : 122 < (s[0].toNat : Int)
  · have hb : b = false := by
      rw [← H.out]
      exact nameB_bad hz (by unfold okc; omega)
    subst hb
    clear H HNB
    go_enter Tryd.func52, Tryd.ntmps52
    go_wp2_with fail
    go_ret
    exact ⟨rfl, rfl⟩
  have HLT : Hid (97 ≤ (s[0].toNat : Int) ∧ (s[0].toNat : Int) ≤ 122) := ⟨by omega, by omega⟩
  go_enter Tryd.func52, Tryd.ntmps52
  go_wp2_with fail
  go_loop [3] (fun v => ∃ k : Nat, k ≤ s.size ∧ v = .int .i64 k ∧ Hid (∀ j (h : j < s.size), j < k → okc j s[j])) (fun v => s.size - (intOf v).toNat)
  case atStart => exact ⟨0, by omega, rfl, fun j _ h => absurd h (by omega)⟩
  case round =>
    obtain ⟨k, hk, rfl, HK⟩ := hrel
    by_cases hlt : k < s.size
    · have hlt' : (k : Int) < (s.size : Int) := by omega
      obtain ⟨b1, hb1⟩ : ∃ z, wordc s[k] = z := ⟨_, rfl⟩
      have HB1 : Hid (wordc s[k] = b1) := hb1
      clear hb1
      go_wp2_with fail
      go_at_call 63
      refine (rwordByte_b s[k] b1 HB1 _).mono ?_
      rintro e w1 ⟨rfl, rfl⟩
      cases b1
      · have hb : b = false := by
          rw [← H.out]
          exact nameB_bad hlt (not_okc HB1.out)
        subst hb
        clear H HK HNB HLT
        go_wp2_with fail
        go_ret
        exact ⟨rfl, rfl⟩
      · have HK' : Hid (∀ j (h : j < s.size), j < k + 1 → okc j s[j]) := fun j hj hjk => by
          by_cases hjk' : j = k
          · subst hjk'
            by_cases hj0 : j = 0
            · subst hj0
              have := HLT.out
              unfold okc; omega
            · exact okc_word HB1.out hj0
          · exact HK.out j hj (by omega)
        go_wp2_with fail
        go_round
        case rel => exact ⟨k + 1, by omega, by go_num, HK'⟩
        case measure => simp [intOf]; omega
    · have hb : b = true := by
        rw [← H.out, HNB.out]
        exact decide_eq_true fun j hj => HK.out j hj (by omega)
      subst hb
      clear H HNB HK
      have hge : ¬ ((k : Int) < (s.size : Int)) := by omega
      go_wp2_with fail
      go_ret
      exact ⟨rfl, rfl⟩
set_option maxHeartbeats 2000000 in
theorem lisName_b (s : ByteArray) (b : Bool) (H : Hid (lnameB s = b)) (hs : s.size ≤ maxLen) (w : World) :
    Calls Tryd.prog 44 #[.string s] w fun e w' => e = .returned (.bool b) ∧ w = w' := by
  have hsm : s.size ≤ 9223372036854775807 := by unfold maxLen at hs; omega
  clear hs
  by_cases h0 : s.size = 0
  · have hb : b = false := by
      rw [← H.out]; unfold lnameB; rw [decide_eq_false (show ¬ 1 ≤ s.size by omega)]; rfl
    subst hb
    clear H
    have he : s = { data := #[] } := by
      obtain ⟨d⟩ := s
      have : d.size = 0 := h0
      rw [Array.size_eq_zero_iff] at this
      rw [this]
    subst he
    go_enter Tryd.func44, Tryd.ntmps44
    go_wp2_with fail
    go_ret
    exact ⟨rfl, rfl⟩
  have hne : s.toList.isEmpty = false := by
    rw [Bool.eq_false_iff]
    intro h
    rw [List.isEmpty_iff, toList_nil_iff] at h
    exact h0 h
  by_cases h40 : 12 < s.size
  · have hb : b = false := by
      rw [← H.out]; unfold lnameB; rw [decide_eq_false (show ¬ s.size ≤ 12 by omega)]; simp
    subst hb
    clear H
    have h40' : (12 : Int) < (s.size : Int) := by omega
    have h1' : ¬ ((s.size : Int) < 1) := by omega
    go_enter Tryd.func44, Tryd.ntmps44
    go_wp2_with fail
    go_ret
    exact ⟨rfl, rfl⟩
  have h40' : ¬ ((12 : Int) < (s.size : Int)) := by omega
  have h1' : ¬ ((s.size : Int) < 1) := by omega
  have hz : 0 < s.size := by omega
  have hz' : (0 : Int) < (s.size : Int) := by omega
  have HNB : Hid (lnameB s = decide (∀ k (h : k < s.size), lnOk k s[k])) := by
    show _ = _
    unfold lnameB
    rw [decide_eq_true (show 1 ≤ s.size by omega), decide_eq_true (show s.size ≤ 12 by omega), Bool.true_and, Bool.true_and]
  by_cases hlo : (s[0].toNat : Int) < 97
  · have hb : b = false := by
      rw [← H.out]
      exact lnameB_bad hz (by unfold lnOk; omega)
    subst hb
    clear H HNB
    go_enter Tryd.func44, Tryd.ntmps44
    go_wp2_with fail
    go_ret
    exact ⟨rfl, rfl⟩
  by_cases hhi : 122 < (s[0].toNat : Int)
  · have hb : b = false := by
      rw [← H.out]
      exact lnameB_bad hz (by unfold lnOk; omega)
    subst hb
    clear H HNB
    go_enter Tryd.func44, Tryd.ntmps44
    go_wp2_with fail
    go_ret
    exact ⟨rfl, rfl⟩
  have HLT : Hid (97 ≤ (s[0].toNat : Int) ∧ (s[0].toNat : Int) ≤ 122) := ⟨by omega, by omega⟩
  go_enter Tryd.func44, Tryd.ntmps44
  go_wp2_with fail
  go_loop [24] (fun v => ∃ k : Nat, k ≤ s.size ∧ v = .int .i64 k ∧ Hid (∀ j (h : j < s.size), j < k → lnOk j s[j])) (fun v => s.size - (intOf v).toNat)
  case atStart => exact ⟨0, by omega, rfl, fun j _ h => absurd h (by omega)⟩
  case round =>
    obtain ⟨k, hk, rfl, HK⟩ := hrel
    by_cases hlt : k < s.size
    · have hlt' : (k : Int) < (s.size : Int) := by omega
      have hc : (97 ≤ (s[k].toNat : Int) ∧ (s[k].toNat : Int) ≤ 122) ∨ (s[k].toNat : Int) < 48 ∨ (48 ≤ (s[k].toNat : Int) ∧ (s[k].toNat : Int) ≤ 57) ∨ (57 < (s[k].toNat : Int) ∧ (s[k].toNat : Int) < 97) ∨ 122 < (s[k].toNat : Int) := by omega
      by_cases hk0 : k = 0
      · subst hk0
        rcases hc with hc | hc | hc | hc | hc
        · have HK' : Hid (∀ j (h : j < s.size), j < 0 + 1 → lnOk j s[j]) := fun j hj hjk => by
            have : j = 0 := by omega
            subst this
            unfold lnOk; omega
          have p0 : ¬ (s[0].toNat : Int) < 97 := by omega
          have d0 : decide ((s[0].toNat : Int) < 97) = false := decide_eq_false p0
          have p1 : ¬ (122 : Int) < (s[0].toNat : Int) := by omega
          have d1 : decide ((122 : Int) < (s[0].toNat : Int)) = false := decide_eq_false p1
          have p2 : ¬ (s[0].toNat : Int) < 48 := by omega
          have d2 : decide ((s[0].toNat : Int) < 48) = false := decide_eq_false p2
          have p3 : (57 : Int) < (s[0].toNat : Int) := by omega
          have d3 : decide ((57 : Int) < (s[0].toNat : Int)) = true := decide_eq_true p3
          have p4 : (97 : Int) ≤ (s[0].toNat : Int) := by omega
          have d4 : decide ((97 : Int) ≤ (s[0].toNat : Int)) = true := decide_eq_true p4
          have p5 : (s[0].toNat : Int) ≤ 122 := by omega
          have d5 : decide ((s[0].toNat : Int) ≤ 122) = true := decide_eq_true p5
          have p6 : (48 : Int) ≤ (s[0].toNat : Int) := by omega
          have d6 : decide ((48 : Int) ≤ (s[0].toNat : Int)) = true := decide_eq_true p6
          have p7 : ¬ (s[0].toNat : Int) ≤ 57 := by omega
          have d7 : decide ((s[0].toNat : Int) ≤ 57) = false := decide_eq_false p7
          clear hc HK
          go_wp2_with fail
          go_round
          case rel => exact ⟨0 + 1, by omega, by go_num, HK'⟩
          case measure => simp [intOf]; omega
        · exact absurd HLT.out (by omega)
        · exact absurd HLT.out (by omega)
        · exact absurd HLT.out (by omega)
        · exact absurd HLT.out (by omega)
      have hk1 : ((k : Int) == 0) = false := beq_of (by omega)
      have hk2 : ¬ ((k : Int) = 0) := by omega
      rcases hc with hc | hc | hc | hc | hc
      · have HK' : Hid (∀ j (h : j < s.size), j < k + 1 → lnOk j s[j]) := fun j hj hjk => by
          by_cases hjk' : j = k
          · subst hjk'
            unfold lnOk; omega
          · exact HK.out j hj (by omega)
        have p0 : ¬ (s[k].toNat : Int) < 97 := by omega
        have d0 : decide ((s[k].toNat : Int) < 97) = false := decide_eq_false p0
        have p1 : ¬ (122 : Int) < (s[k].toNat : Int) := by omega
        have d1 : decide ((122 : Int) < (s[k].toNat : Int)) = false := decide_eq_false p1
        have p2 : ¬ (s[k].toNat : Int) < 48 := by omega
        have d2 : decide ((s[k].toNat : Int) < 48) = false := decide_eq_false p2
        have p3 : (57 : Int) < (s[k].toNat : Int) := by omega
        have d3 : decide ((57 : Int) < (s[k].toNat : Int)) = true := decide_eq_true p3
        have p4 : (97 : Int) ≤ (s[k].toNat : Int) := by omega
        have d4 : decide ((97 : Int) ≤ (s[k].toNat : Int)) = true := decide_eq_true p4
        have p5 : (s[k].toNat : Int) ≤ 122 := by omega
        have d5 : decide ((s[k].toNat : Int) ≤ 122) = true := decide_eq_true p5
        have p6 : (48 : Int) ≤ (s[k].toNat : Int) := by omega
        have d6 : decide ((48 : Int) ≤ (s[k].toNat : Int)) = true := decide_eq_true p6
        have p7 : ¬ (s[k].toNat : Int) ≤ 57 := by omega
        have d7 : decide ((s[k].toNat : Int) ≤ 57) = false := decide_eq_false p7
        clear hc HK
        go_wp2_with fail
        go_round
        case rel => exact ⟨k + 1, by omega, by go_num, HK'⟩
        case measure => simp [intOf]; omega
      · have hb : b = false := by
          rw [← H.out]
          exact lnameB_bad hlt (by unfold lnOk; omega)
        subst hb
        clear H HK HNB
        have p0 : (s[k].toNat : Int) < 97 := by omega
        have d0 : decide ((s[k].toNat : Int) < 97) = true := decide_eq_true p0
        have p1 : ¬ (122 : Int) < (s[k].toNat : Int) := by omega
        have d1 : decide ((122 : Int) < (s[k].toNat : Int)) = false := decide_eq_false p1
        have p2 : (s[k].toNat : Int) < 48 := by omega
        have d2 : decide ((s[k].toNat : Int) < 48) = true := decide_eq_true p2
        have p3 : ¬ (57 : Int) < (s[k].toNat : Int) := by omega
        have d3 : decide ((57 : Int) < (s[k].toNat : Int)) = false := decide_eq_false p3
        have p4 : ¬ (97 : Int) ≤ (s[k].toNat : Int) := by omega
        have d4 : decide ((97 : Int) ≤ (s[k].toNat : Int)) = false := decide_eq_false p4
        have p5 : (s[k].toNat : Int) ≤ 122 := by omega
        have d5 : decide ((s[k].toNat : Int) ≤ 122) = true := decide_eq_true p5
        have p6 : ¬ (48 : Int) ≤ (s[k].toNat : Int) := by omega
        have d6 : decide ((48 : Int) ≤ (s[k].toNat : Int)) = false := decide_eq_false p6
        have p7 : (s[k].toNat : Int) ≤ 57 := by omega
        have d7 : decide ((s[k].toNat : Int) ≤ 57) = true := decide_eq_true p7
        clear hc
        go_wp2_with fail
        go_ret
        exact ⟨rfl, rfl⟩
      · have HK' : Hid (∀ j (h : j < s.size), j < k + 1 → lnOk j s[j]) := fun j hj hjk => by
          by_cases hjk' : j = k
          · subst hjk'
            unfold lnOk; omega
          · exact HK.out j hj (by omega)
        have p0 : (s[k].toNat : Int) < 97 := by omega
        have d0 : decide ((s[k].toNat : Int) < 97) = true := decide_eq_true p0
        have p1 : ¬ (122 : Int) < (s[k].toNat : Int) := by omega
        have d1 : decide ((122 : Int) < (s[k].toNat : Int)) = false := decide_eq_false p1
        have p2 : ¬ (s[k].toNat : Int) < 48 := by omega
        have d2 : decide ((s[k].toNat : Int) < 48) = false := decide_eq_false p2
        have p3 : ¬ (57 : Int) < (s[k].toNat : Int) := by omega
        have d3 : decide ((57 : Int) < (s[k].toNat : Int)) = false := decide_eq_false p3
        have p4 : ¬ (97 : Int) ≤ (s[k].toNat : Int) := by omega
        have d4 : decide ((97 : Int) ≤ (s[k].toNat : Int)) = false := decide_eq_false p4
        have p5 : (s[k].toNat : Int) ≤ 122 := by omega
        have d5 : decide ((s[k].toNat : Int) ≤ 122) = true := decide_eq_true p5
        have p6 : (48 : Int) ≤ (s[k].toNat : Int) := by omega
        have d6 : decide ((48 : Int) ≤ (s[k].toNat : Int)) = true := decide_eq_true p6
        have p7 : (s[k].toNat : Int) ≤ 57 := by omega
        have d7 : decide ((s[k].toNat : Int) ≤ 57) = true := decide_eq_true p7
        clear hc HK
        go_wp2_with fail
        go_round
        case rel => exact ⟨k + 1, by omega, by go_num, HK'⟩
        case measure => simp [intOf]; omega
      · have hb : b = false := by
          rw [← H.out]
          exact lnameB_bad hlt (by unfold lnOk; omega)
        subst hb
        clear H HK HNB
        have p0 : (s[k].toNat : Int) < 97 := by omega
        have d0 : decide ((s[k].toNat : Int) < 97) = true := decide_eq_true p0
        have p1 : ¬ (122 : Int) < (s[k].toNat : Int) := by omega
        have d1 : decide ((122 : Int) < (s[k].toNat : Int)) = false := decide_eq_false p1
        have p2 : ¬ (s[k].toNat : Int) < 48 := by omega
        have d2 : decide ((s[k].toNat : Int) < 48) = false := decide_eq_false p2
        have p3 : (57 : Int) < (s[k].toNat : Int) := by omega
        have d3 : decide ((57 : Int) < (s[k].toNat : Int)) = true := decide_eq_true p3
        have p4 : ¬ (97 : Int) ≤ (s[k].toNat : Int) := by omega
        have d4 : decide ((97 : Int) ≤ (s[k].toNat : Int)) = false := decide_eq_false p4
        have p5 : (s[k].toNat : Int) ≤ 122 := by omega
        have d5 : decide ((s[k].toNat : Int) ≤ 122) = true := decide_eq_true p5
        have p6 : (48 : Int) ≤ (s[k].toNat : Int) := by omega
        have d6 : decide ((48 : Int) ≤ (s[k].toNat : Int)) = true := decide_eq_true p6
        have p7 : ¬ (s[k].toNat : Int) ≤ 57 := by omega
        have d7 : decide ((s[k].toNat : Int) ≤ 57) = false := decide_eq_false p7
        clear hc
        go_wp2_with fail
        go_ret
        exact ⟨rfl, rfl⟩
      · have hb : b = false := by
          rw [← H.out]
          exact lnameB_bad hlt (by unfold lnOk; omega)
        subst hb
        clear H HK HNB
        have p0 : ¬ (s[k].toNat : Int) < 97 := by omega
        have d0 : decide ((s[k].toNat : Int) < 97) = false := decide_eq_false p0
        have p1 : (122 : Int) < (s[k].toNat : Int) := by omega
        have d1 : decide ((122 : Int) < (s[k].toNat : Int)) = true := decide_eq_true p1
        have p2 : ¬ (s[k].toNat : Int) < 48 := by omega
        have d2 : decide ((s[k].toNat : Int) < 48) = false := decide_eq_false p2
        have p3 : (57 : Int) < (s[k].toNat : Int) := by omega
        have d3 : decide ((57 : Int) < (s[k].toNat : Int)) = true := decide_eq_true p3
        have p4 : (97 : Int) ≤ (s[k].toNat : Int) := by omega
        have d4 : decide ((97 : Int) ≤ (s[k].toNat : Int)) = true := decide_eq_true p4
        have p5 : ¬ (s[k].toNat : Int) ≤ 122 := by omega
        have d5 : decide ((s[k].toNat : Int) ≤ 122) = false := decide_eq_false p5
        have p6 : (48 : Int) ≤ (s[k].toNat : Int) := by omega
        have d6 : decide ((48 : Int) ≤ (s[k].toNat : Int)) = true := decide_eq_true p6
        have p7 : ¬ (s[k].toNat : Int) ≤ 57 := by omega
        have d7 : decide ((s[k].toNat : Int) ≤ 57) = false := decide_eq_false p7
        clear hc
        go_wp2_with fail
        go_ret
        exact ⟨rfl, rfl⟩
    · have hb : b = true := by
        rw [← H.out, HNB.out]
        exact decide_eq_true fun j hj => HK.out j hj (by omega)
      subst hb
      clear H HNB HK
      have hge : ¬ ((k : Int) < (s.size : Int)) := by omega
      go_wp2_with fail
      go_ret
      exact ⟨rfl, rfl⟩
set_option maxHeartbeats 2000000 in
theorem lrIsName_b (s : ByteArray) (b : Bool) (H : Hid (lnameB s = b)) (hs : s.size ≤ maxLen) (w : World) :
    Calls Tryd.prog 49 #[.string s] w fun e w' => e = .returned (.bool b) ∧ w = w' := by
  have hsm : s.size ≤ 9223372036854775807 := by unfold maxLen at hs; omega
  clear hs
  by_cases h0 : s.size = 0
  · have hb : b = false := by
      rw [← H.out]; unfold lnameB; rw [decide_eq_false (show ¬ 1 ≤ s.size by omega)]; rfl
    subst hb
    clear H
    have he : s = { data := #[] } := by
      obtain ⟨d⟩ := s
      have : d.size = 0 := h0
      rw [Array.size_eq_zero_iff] at this
      rw [this]
    subst he
    go_enter Tryd.func49, Tryd.ntmps49
    go_wp2_with fail
    go_ret
    exact ⟨rfl, rfl⟩
  have hne : s.toList.isEmpty = false := by
    rw [Bool.eq_false_iff]
    intro h
    rw [List.isEmpty_iff, toList_nil_iff] at h
    exact h0 h
  by_cases h40 : 12 < s.size
  · have hb : b = false := by
      rw [← H.out]; unfold lnameB; rw [decide_eq_false (show ¬ s.size ≤ 12 by omega)]; simp
    subst hb
    clear H
    have h40' : (12 : Int) < (s.size : Int) := by omega
    have h1' : ¬ ((s.size : Int) < 1) := by omega
    go_enter Tryd.func49, Tryd.ntmps49
    go_wp2_with fail
    go_ret
    exact ⟨rfl, rfl⟩
  have h40' : ¬ ((12 : Int) < (s.size : Int)) := by omega
  have h1' : ¬ ((s.size : Int) < 1) := by omega
  have hz : 0 < s.size := by omega
  have hz' : (0 : Int) < (s.size : Int) := by omega
  have HNB : Hid (lnameB s = decide (∀ k (h : k < s.size), lnOk k s[k])) := by
    show _ = _
    unfold lnameB
    rw [decide_eq_true (show 1 ≤ s.size by omega), decide_eq_true (show s.size ≤ 12 by omega), Bool.true_and, Bool.true_and]
  go_enter Tryd.func49, Tryd.ntmps49
  go_wp2_with fail
  go_loop [3] (fun v => ∃ k : Nat, k ≤ s.size ∧ v = .int .i64 k ∧ Hid (∀ j (h : j < s.size), j < k → lnOk j s[j])) (fun v => s.size - (intOf v).toNat)
  case atStart => exact ⟨0, by omega, rfl, fun j _ h => absurd h (by omega)⟩
  case round =>
    obtain ⟨k, hk, rfl, HK⟩ := hrel
    by_cases hlt : k < s.size
    · have hlt' : (k : Int) < (s.size : Int) := by omega
      have hc : (97 ≤ (s[k].toNat : Int) ∧ (s[k].toNat : Int) ≤ 122) ∨ (s[k].toNat : Int) < 48 ∨ (48 ≤ (s[k].toNat : Int) ∧ (s[k].toNat : Int) ≤ 57) ∨ (57 < (s[k].toNat : Int) ∧ (s[k].toNat : Int) < 97) ∨ 122 < (s[k].toNat : Int) := by omega
      by_cases hk0 : k = 0
      · subst hk0
        rcases hc with hc | hc | hc | hc | hc
        · have HK' : Hid (∀ j (h : j < s.size), j < 0 + 1 → lnOk j s[j]) := fun j hj hjk => by
            have : j = 0 := by omega
            subst this
            unfold lnOk; omega
          have p0 : ¬ (s[0].toNat : Int) < 97 := by omega
          have d0 : decide ((s[0].toNat : Int) < 97) = false := decide_eq_false p0
          have p1 : ¬ (122 : Int) < (s[0].toNat : Int) := by omega
          have d1 : decide ((122 : Int) < (s[0].toNat : Int)) = false := decide_eq_false p1
          have p2 : ¬ (s[0].toNat : Int) < 48 := by omega
          have d2 : decide ((s[0].toNat : Int) < 48) = false := decide_eq_false p2
          have p3 : (57 : Int) < (s[0].toNat : Int) := by omega
          have d3 : decide ((57 : Int) < (s[0].toNat : Int)) = true := decide_eq_true p3
          have p4 : (97 : Int) ≤ (s[0].toNat : Int) := by omega
          have d4 : decide ((97 : Int) ≤ (s[0].toNat : Int)) = true := decide_eq_true p4
          have p5 : (s[0].toNat : Int) ≤ 122 := by omega
          have d5 : decide ((s[0].toNat : Int) ≤ 122) = true := decide_eq_true p5
          have p6 : (48 : Int) ≤ (s[0].toNat : Int) := by omega
          have d6 : decide ((48 : Int) ≤ (s[0].toNat : Int)) = true := decide_eq_true p6
          have p7 : ¬ (s[0].toNat : Int) ≤ 57 := by omega
          have d7 : decide ((s[0].toNat : Int) ≤ 57) = false := decide_eq_false p7
          clear hc HK
          go_wp2_with fail
          go_round
          case rel => exact ⟨0 + 1, by omega, by go_num, HK'⟩
          case measure => simp [intOf]; omega
        · have hb : b = false := by
            rw [← H.out]
            exact lnameB_bad hlt (by unfold lnOk; omega)
          subst hb
          clear H HK HNB
          have p0 : (s[0].toNat : Int) < 97 := by omega
          have d0 : decide ((s[0].toNat : Int) < 97) = true := decide_eq_true p0
          have p1 : ¬ (122 : Int) < (s[0].toNat : Int) := by omega
          have d1 : decide ((122 : Int) < (s[0].toNat : Int)) = false := decide_eq_false p1
          have p2 : (s[0].toNat : Int) < 48 := by omega
          have d2 : decide ((s[0].toNat : Int) < 48) = true := decide_eq_true p2
          have p3 : ¬ (57 : Int) < (s[0].toNat : Int) := by omega
          have d3 : decide ((57 : Int) < (s[0].toNat : Int)) = false := decide_eq_false p3
          have p4 : ¬ (97 : Int) ≤ (s[0].toNat : Int) := by omega
          have d4 : decide ((97 : Int) ≤ (s[0].toNat : Int)) = false := decide_eq_false p4
          have p5 : (s[0].toNat : Int) ≤ 122 := by omega
          have d5 : decide ((s[0].toNat : Int) ≤ 122) = true := decide_eq_true p5
          have p6 : ¬ (48 : Int) ≤ (s[0].toNat : Int) := by omega
          have d6 : decide ((48 : Int) ≤ (s[0].toNat : Int)) = false := decide_eq_false p6
          have p7 : (s[0].toNat : Int) ≤ 57 := by omega
          have d7 : decide ((s[0].toNat : Int) ≤ 57) = true := decide_eq_true p7
          clear hc
          go_wp2_with fail
          go_ret
          exact ⟨rfl, rfl⟩
        · have hb : b = false := by
            rw [← H.out]
            exact lnameB_bad hlt (by unfold lnOk; omega)
          subst hb
          clear H HK HNB
          have p0 : (s[0].toNat : Int) < 97 := by omega
          have d0 : decide ((s[0].toNat : Int) < 97) = true := decide_eq_true p0
          have p1 : ¬ (122 : Int) < (s[0].toNat : Int) := by omega
          have d1 : decide ((122 : Int) < (s[0].toNat : Int)) = false := decide_eq_false p1
          have p2 : ¬ (s[0].toNat : Int) < 48 := by omega
          have d2 : decide ((s[0].toNat : Int) < 48) = false := decide_eq_false p2
          have p3 : ¬ (57 : Int) < (s[0].toNat : Int) := by omega
          have d3 : decide ((57 : Int) < (s[0].toNat : Int)) = false := decide_eq_false p3
          have p4 : ¬ (97 : Int) ≤ (s[0].toNat : Int) := by omega
          have d4 : decide ((97 : Int) ≤ (s[0].toNat : Int)) = false := decide_eq_false p4
          have p5 : (s[0].toNat : Int) ≤ 122 := by omega
          have d5 : decide ((s[0].toNat : Int) ≤ 122) = true := decide_eq_true p5
          have p6 : (48 : Int) ≤ (s[0].toNat : Int) := by omega
          have d6 : decide ((48 : Int) ≤ (s[0].toNat : Int)) = true := decide_eq_true p6
          have p7 : (s[0].toNat : Int) ≤ 57 := by omega
          have d7 : decide ((s[0].toNat : Int) ≤ 57) = true := decide_eq_true p7
          clear hc
          go_wp2_with fail
          go_ret
          exact ⟨rfl, rfl⟩
        · have hb : b = false := by
            rw [← H.out]
            exact lnameB_bad hlt (by unfold lnOk; omega)
          subst hb
          clear H HK HNB
          have p0 : (s[0].toNat : Int) < 97 := by omega
          have d0 : decide ((s[0].toNat : Int) < 97) = true := decide_eq_true p0
          have p1 : ¬ (122 : Int) < (s[0].toNat : Int) := by omega
          have d1 : decide ((122 : Int) < (s[0].toNat : Int)) = false := decide_eq_false p1
          have p2 : ¬ (s[0].toNat : Int) < 48 := by omega
          have d2 : decide ((s[0].toNat : Int) < 48) = false := decide_eq_false p2
          have p3 : (57 : Int) < (s[0].toNat : Int) := by omega
          have d3 : decide ((57 : Int) < (s[0].toNat : Int)) = true := decide_eq_true p3
          have p4 : ¬ (97 : Int) ≤ (s[0].toNat : Int) := by omega
          have d4 : decide ((97 : Int) ≤ (s[0].toNat : Int)) = false := decide_eq_false p4
          have p5 : (s[0].toNat : Int) ≤ 122 := by omega
          have d5 : decide ((s[0].toNat : Int) ≤ 122) = true := decide_eq_true p5
          have p6 : (48 : Int) ≤ (s[0].toNat : Int) := by omega
          have d6 : decide ((48 : Int) ≤ (s[0].toNat : Int)) = true := decide_eq_true p6
          have p7 : ¬ (s[0].toNat : Int) ≤ 57 := by omega
          have d7 : decide ((s[0].toNat : Int) ≤ 57) = false := decide_eq_false p7
          clear hc
          go_wp2_with fail
          go_ret
          exact ⟨rfl, rfl⟩
        · have hb : b = false := by
            rw [← H.out]
            exact lnameB_bad hlt (by unfold lnOk; omega)
          subst hb
          clear H HK HNB
          have p0 : ¬ (s[0].toNat : Int) < 97 := by omega
          have d0 : decide ((s[0].toNat : Int) < 97) = false := decide_eq_false p0
          have p1 : (122 : Int) < (s[0].toNat : Int) := by omega
          have d1 : decide ((122 : Int) < (s[0].toNat : Int)) = true := decide_eq_true p1
          have p2 : ¬ (s[0].toNat : Int) < 48 := by omega
          have d2 : decide ((s[0].toNat : Int) < 48) = false := decide_eq_false p2
          have p3 : (57 : Int) < (s[0].toNat : Int) := by omega
          have d3 : decide ((57 : Int) < (s[0].toNat : Int)) = true := decide_eq_true p3
          have p4 : (97 : Int) ≤ (s[0].toNat : Int) := by omega
          have d4 : decide ((97 : Int) ≤ (s[0].toNat : Int)) = true := decide_eq_true p4
          have p5 : ¬ (s[0].toNat : Int) ≤ 122 := by omega
          have d5 : decide ((s[0].toNat : Int) ≤ 122) = false := decide_eq_false p5
          have p6 : (48 : Int) ≤ (s[0].toNat : Int) := by omega
          have d6 : decide ((48 : Int) ≤ (s[0].toNat : Int)) = true := decide_eq_true p6
          have p7 : ¬ (s[0].toNat : Int) ≤ 57 := by omega
          have d7 : decide ((s[0].toNat : Int) ≤ 57) = false := decide_eq_false p7
          clear hc
          go_wp2_with fail
          go_ret
          exact ⟨rfl, rfl⟩
      have hk1 : ((k : Int) == 0) = false := beq_of (by omega)
      have hk2 : ¬ ((k : Int) = 0) := by omega
      rcases hc with hc | hc | hc | hc | hc
      · have HK' : Hid (∀ j (h : j < s.size), j < k + 1 → lnOk j s[j]) := fun j hj hjk => by
          by_cases hjk' : j = k
          · subst hjk'
            unfold lnOk; omega
          · exact HK.out j hj (by omega)
        have p0 : ¬ (s[k].toNat : Int) < 97 := by omega
        have d0 : decide ((s[k].toNat : Int) < 97) = false := decide_eq_false p0
        have p1 : ¬ (122 : Int) < (s[k].toNat : Int) := by omega
        have d1 : decide ((122 : Int) < (s[k].toNat : Int)) = false := decide_eq_false p1
        have p2 : ¬ (s[k].toNat : Int) < 48 := by omega
        have d2 : decide ((s[k].toNat : Int) < 48) = false := decide_eq_false p2
        have p3 : (57 : Int) < (s[k].toNat : Int) := by omega
        have d3 : decide ((57 : Int) < (s[k].toNat : Int)) = true := decide_eq_true p3
        have p4 : (97 : Int) ≤ (s[k].toNat : Int) := by omega
        have d4 : decide ((97 : Int) ≤ (s[k].toNat : Int)) = true := decide_eq_true p4
        have p5 : (s[k].toNat : Int) ≤ 122 := by omega
        have d5 : decide ((s[k].toNat : Int) ≤ 122) = true := decide_eq_true p5
        have p6 : (48 : Int) ≤ (s[k].toNat : Int) := by omega
        have d6 : decide ((48 : Int) ≤ (s[k].toNat : Int)) = true := decide_eq_true p6
        have p7 : ¬ (s[k].toNat : Int) ≤ 57 := by omega
        have d7 : decide ((s[k].toNat : Int) ≤ 57) = false := decide_eq_false p7
        clear hc HK
        go_wp2_with fail
        go_round
        case rel => exact ⟨k + 1, by omega, by go_num, HK'⟩
        case measure => simp [intOf]; omega
      · have hb : b = false := by
          rw [← H.out]
          exact lnameB_bad hlt (by unfold lnOk; omega)
        subst hb
        clear H HK HNB
        have p0 : (s[k].toNat : Int) < 97 := by omega
        have d0 : decide ((s[k].toNat : Int) < 97) = true := decide_eq_true p0
        have p1 : ¬ (122 : Int) < (s[k].toNat : Int) := by omega
        have d1 : decide ((122 : Int) < (s[k].toNat : Int)) = false := decide_eq_false p1
        have p2 : (s[k].toNat : Int) < 48 := by omega
        have d2 : decide ((s[k].toNat : Int) < 48) = true := decide_eq_true p2
        have p3 : ¬ (57 : Int) < (s[k].toNat : Int) := by omega
        have d3 : decide ((57 : Int) < (s[k].toNat : Int)) = false := decide_eq_false p3
        have p4 : ¬ (97 : Int) ≤ (s[k].toNat : Int) := by omega
        have d4 : decide ((97 : Int) ≤ (s[k].toNat : Int)) = false := decide_eq_false p4
        have p5 : (s[k].toNat : Int) ≤ 122 := by omega
        have d5 : decide ((s[k].toNat : Int) ≤ 122) = true := decide_eq_true p5
        have p6 : ¬ (48 : Int) ≤ (s[k].toNat : Int) := by omega
        have d6 : decide ((48 : Int) ≤ (s[k].toNat : Int)) = false := decide_eq_false p6
        have p7 : (s[k].toNat : Int) ≤ 57 := by omega
        have d7 : decide ((s[k].toNat : Int) ≤ 57) = true := decide_eq_true p7
        clear hc
        go_wp2_with fail
        go_ret
        exact ⟨rfl, rfl⟩
      · have HK' : Hid (∀ j (h : j < s.size), j < k + 1 → lnOk j s[j]) := fun j hj hjk => by
          by_cases hjk' : j = k
          · subst hjk'
            unfold lnOk; omega
          · exact HK.out j hj (by omega)
        have p0 : (s[k].toNat : Int) < 97 := by omega
        have d0 : decide ((s[k].toNat : Int) < 97) = true := decide_eq_true p0
        have p1 : ¬ (122 : Int) < (s[k].toNat : Int) := by omega
        have d1 : decide ((122 : Int) < (s[k].toNat : Int)) = false := decide_eq_false p1
        have p2 : ¬ (s[k].toNat : Int) < 48 := by omega
        have d2 : decide ((s[k].toNat : Int) < 48) = false := decide_eq_false p2
        have p3 : ¬ (57 : Int) < (s[k].toNat : Int) := by omega
        have d3 : decide ((57 : Int) < (s[k].toNat : Int)) = false := decide_eq_false p3
        have p4 : ¬ (97 : Int) ≤ (s[k].toNat : Int) := by omega
        have d4 : decide ((97 : Int) ≤ (s[k].toNat : Int)) = false := decide_eq_false p4
        have p5 : (s[k].toNat : Int) ≤ 122 := by omega
        have d5 : decide ((s[k].toNat : Int) ≤ 122) = true := decide_eq_true p5
        have p6 : (48 : Int) ≤ (s[k].toNat : Int) := by omega
        have d6 : decide ((48 : Int) ≤ (s[k].toNat : Int)) = true := decide_eq_true p6
        have p7 : (s[k].toNat : Int) ≤ 57 := by omega
        have d7 : decide ((s[k].toNat : Int) ≤ 57) = true := decide_eq_true p7
        clear hc HK
        go_wp2_with fail
        go_round
        case rel => exact ⟨k + 1, by omega, by go_num, HK'⟩
        case measure => simp [intOf]; omega
      · have hb : b = false := by
          rw [← H.out]
          exact lnameB_bad hlt (by unfold lnOk; omega)
        subst hb
        clear H HK HNB
        have p0 : (s[k].toNat : Int) < 97 := by omega
        have d0 : decide ((s[k].toNat : Int) < 97) = true := decide_eq_true p0
        have p1 : ¬ (122 : Int) < (s[k].toNat : Int) := by omega
        have d1 : decide ((122 : Int) < (s[k].toNat : Int)) = false := decide_eq_false p1
        have p2 : ¬ (s[k].toNat : Int) < 48 := by omega
        have d2 : decide ((s[k].toNat : Int) < 48) = false := decide_eq_false p2
        have p3 : (57 : Int) < (s[k].toNat : Int) := by omega
        have d3 : decide ((57 : Int) < (s[k].toNat : Int)) = true := decide_eq_true p3
        have p4 : ¬ (97 : Int) ≤ (s[k].toNat : Int) := by omega
        have d4 : decide ((97 : Int) ≤ (s[k].toNat : Int)) = false := decide_eq_false p4
        have p5 : (s[k].toNat : Int) ≤ 122 := by omega
        have d5 : decide ((s[k].toNat : Int) ≤ 122) = true := decide_eq_true p5
        have p6 : (48 : Int) ≤ (s[k].toNat : Int) := by omega
        have d6 : decide ((48 : Int) ≤ (s[k].toNat : Int)) = true := decide_eq_true p6
        have p7 : ¬ (s[k].toNat : Int) ≤ 57 := by omega
        have d7 : decide ((s[k].toNat : Int) ≤ 57) = false := decide_eq_false p7
        clear hc
        go_wp2_with fail
        go_ret
        exact ⟨rfl, rfl⟩
      · have hb : b = false := by
          rw [← H.out]
          exact lnameB_bad hlt (by unfold lnOk; omega)
        subst hb
        clear H HK HNB
        have p0 : ¬ (s[k].toNat : Int) < 97 := by omega
        have d0 : decide ((s[k].toNat : Int) < 97) = false := decide_eq_false p0
        have p1 : (122 : Int) < (s[k].toNat : Int) := by omega
        have d1 : decide ((122 : Int) < (s[k].toNat : Int)) = true := decide_eq_true p1
        have p2 : ¬ (s[k].toNat : Int) < 48 := by omega
        have d2 : decide ((s[k].toNat : Int) < 48) = false := decide_eq_false p2
        have p3 : (57 : Int) < (s[k].toNat : Int) := by omega
        have d3 : decide ((57 : Int) < (s[k].toNat : Int)) = true := decide_eq_true p3
        have p4 : (97 : Int) ≤ (s[k].toNat : Int) := by omega
        have d4 : decide ((97 : Int) ≤ (s[k].toNat : Int)) = true := decide_eq_true p4
        have p5 : ¬ (s[k].toNat : Int) ≤ 122 := by omega
        have d5 : decide ((s[k].toNat : Int) ≤ 122) = false := decide_eq_false p5
        have p6 : (48 : Int) ≤ (s[k].toNat : Int) := by omega
        have d6 : decide ((48 : Int) ≤ (s[k].toNat : Int)) = true := decide_eq_true p6
        have p7 : ¬ (s[k].toNat : Int) ≤ 57 := by omega
        have d7 : decide ((s[k].toNat : Int) ≤ 57) = false := decide_eq_false p7
        clear hc
        go_wp2_with fail
        go_ret
        exact ⟨rfl, rfl⟩
    · have hb : b = true := by
        rw [← H.out, HNB.out]
        exact decide_eq_true fun j hj => HK.out j hj (by omega)
      subst hb
      clear H HNB HK
      have hge : ¬ ((k : Int) < (s.size : Int)) := by omega
      go_wp2_with fail
      go_ret
      exact ⟨rfl, rfl⟩
end Go.Proofs.YtnipigninbeplaaDoor
