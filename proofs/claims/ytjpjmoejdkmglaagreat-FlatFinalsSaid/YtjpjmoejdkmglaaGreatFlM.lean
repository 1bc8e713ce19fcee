/-
  The walks over the small functions of Check: isName, bounded, usesVar, usesN, usesTerm, zeroTerm, rising.
-/
import Derived.Test.YtjpjmoejdkmglaaGreatFlI
namespace Go.Proofs.YtjpjmoejdkmglaaGreat
open Go.RowKit

theorem toList_nil_iff (s : ByteArray) : (s.toList = []) ↔ s.size = 0 := by
  rw [ByteArray.toList_eq, ← List.length_eq_zero_iff]; simp
/-- May the byte c stand at place k of a name? -/
def okc (k : Nat) (c : UInt8) : Prop := (97 ≤ c.toNat ∧ c.toNat ≤ 122) ∨ (k ≠ 0 ∧ ((48 ≤ c.toNat ∧ c.toNat ≤ 57) ∨ c.toNat = 46 ∨ c.toNat = 95))
instance (k : Nat) (c : UInt8) : Decidable (okc k c) := by unfold okc; infer_instance
/-- Is a text a name? -/
def nameB (s : ByteArray) : Bool := decide (1 ≤ s.size) && (decide (s.size ≤ 40) && decide (∀ k (h : k < s.size), okc k s[k]))
theorem nameB_bad {s : ByteArray} {k : Nat} (h : k < s.size) (hb : ¬ okc k s[k]) : nameB s = false := by
  unfold nameB
  rw [decide_eq_false (fun hx : (∀ k (h : k < s.size), okc k s[k]) => hb (hx k h))]
  simp

set_option maxHeartbeats 2000000 in
theorem isName_b (s : ByteArray) (b : Bool) (H : Hid (nameB s = b)) (hs : s.size ≤ maxLen) (w : World) :
    Calls Tryz.prog 59 #[.string s] w fun e w' => e = .returned (.bool b) ∧ w = w' := by
  have hsm : s.size ≤ 9223372036854775807 := by unfold maxLen at hs; omega
  clear hs
  by_cases h0 : s.size = 0
  · have hb : b = false := by
      rw [← H.out]; unfold nameB; rw [decide_eq_false (show ¬ 1 ≤ s.size by omega)]; rfl
    subst hb
    clear H
    have he : s = { data := #[] } := by
      obtain ⟨d⟩ := s
      have : d.size = 0 := h0
      rw [Array.size_eq_zero_iff] at this
      rw [this]
    subst he
    go_enter Tryz.func59, Tryz.ntmps59
    go_wp2_with fail
    go_ret
    exact ⟨rfl, rfl⟩
  have hne : s.toList.isEmpty = false := by
    rw [Bool.eq_false_iff]
    intro h
    rw [List.isEmpty_iff, toList_nil_iff] at h
    exact h0 h
  by_cases h40 : 40 < s.size
  · have hb : b = false := by
      rw [← H.out]; unfold nameB; rw [decide_eq_false (show ¬ s.size ≤ 40 by omega)]; simp
    subst hb
    clear H
    have h40' : (40 : Int) < (s.size : Int) := by omega
    have h1' : ¬ ((s.size : Int) < 1) := by omega
    go_enter Tryz.func59, Tryz.ntmps59
    go_wp2_with fail
    go_ret
    exact ⟨rfl, rfl⟩
  have h40' : ¬ ((40 : Int) < (s.size : Int)) := by omega
  have h1' : ¬ ((s.size : Int) < 1) := by omega
  have HNB : Hid (nameB s = decide (∀ k (h : k < s.size), okc k s[k])) := by
    show _ = _
    unfold nameB
    rw [decide_eq_true (show 1 ≤ s.size by omega), decide_eq_true (show s.size ≤ 40 by omega), Bool.true_and, Bool.true_and]
  go_enter Tryz.func59, Tryz.ntmps59
  go_wp2_with fail
  go_loop [15] (fun v => ∃ k : Nat, k ≤ s.size ∧ v = .int .i64 k ∧ Hid (∀ j (h : j < s.size), j < k → okc j s[j])) (fun v => s.size - (intOf v).toNat)
  case atStart => exact ⟨0, by omega, rfl, fun j _ h => absurd h (by omega)⟩
  case round =>
    obtain ⟨k, hk, rfl, HK⟩ := hrel
    by_cases hlt : k < s.size
    · have hlt' : (k : Int) < (s.size : Int) := by omega
      have hc : (97 ≤ (s[k].toNat : Int) ∧ (s[k].toNat : Int) ≤ 122) ∨ (s[k].toNat : Int) = 46 ∨ ((s[k].toNat : Int) < 48 ∧ (s[k].toNat : Int) ≠ 46) ∨ (48 ≤ (s[k].toNat : Int) ∧ (s[k].toNat : Int) ≤ 57) ∨ (57 < (s[k].toNat : Int) ∧ (s[k].toNat : Int) < 97 ∧ (s[k].toNat : Int) ≠ 95) ∨ (s[k].toNat : Int) = 95 ∨ 122 < (s[k].toNat : Int) := by omega
      by_cases hok : okc k s[k]
      · have HO := Lib.hid hok
        have HK' : Hid (∀ j (h : j < s.size), j < k + 1 → okc j s[j]) := fun j hj hjk => by
          by_cases hjk' : j = k
          · subst hjk'; exact HO.out
          · exact HK.out j hj (by omega)
        unfold okc at hok
        by_cases hk0 : k = 0
        · subst hk0
          have hc : 97 ≤ (s[0].toNat : Int) ∧ (s[0].toNat : Int) ≤ 122 := by omega
          have hk0 : True := trivial
          have p0 : (97 : Int) ≤ (s[0].toNat : Int) := by omega
          have d0 : decide ((97 : Int) ≤ (s[0].toNat : Int)) = true := decide_eq_true p0
          have p1 : (s[0].toNat : Int) ≤ 122 := by omega
          have d1 : decide ((s[0].toNat : Int) ≤ 122) = true := decide_eq_true p1
          have p2 : (48 : Int) ≤ (s[0].toNat : Int) := by omega
          have d2 : decide ((48 : Int) ≤ (s[0].toNat : Int)) = true := decide_eq_true p2
          have p3 : ¬ (s[0].toNat : Int) < 48 := by omega
          have d3 : decide ((s[0].toNat : Int) < 48) = false := decide_eq_false p3
          have p4 : ¬ (s[0].toNat : Int) ≤ 57 := by omega
          have d4 : decide ((s[0].toNat : Int) ≤ 57) = false := decide_eq_false p4
          have p5 : (57 : Int) < (s[0].toNat : Int) := by omega
          have d5 : decide ((57 : Int) < (s[0].toNat : Int)) = true := decide_eq_true p5
          have e46 : ((s[0].toNat : Int) == 46) = false := beq_of (by omega)
          have f46 : ((s[0].toNat : Int) != 46) = true := bne_of (by omega)
          have g46 : ¬ (s[0].toNat : Int) = 46 := by omega
          have e95 : ((s[0].toNat : Int) == 95) = false := beq_of (by omega)
          have f95 : ((s[0].toNat : Int) != 95) = true := bne_of (by omega)
          have g95 : ¬ (s[0].toNat : Int) = 95 := by omega
          clear hok hc hk0
          go_wp2_with fail
          go_round
          case rel => exact ⟨0 + 1, by omega, by go_num, HK'⟩
          case measure => simp [intOf]; omega
        have hk1 : ((k : Int) == 0) = false := beq_of (by omega)
        have hk2 : ¬ ((k : Int) = 0) := by omega
        rcases hc with hc | hc | hc | hc | hc | hc | hc
        · have p0 : (97 : Int) ≤ (s[k].toNat : Int) := by omega
          have d0 : decide ((97 : Int) ≤ (s[k].toNat : Int)) = true := decide_eq_true p0
          have p1 : (s[k].toNat : Int) ≤ 122 := by omega
          have d1 : decide ((s[k].toNat : Int) ≤ 122) = true := decide_eq_true p1
          have p2 : (48 : Int) ≤ (s[k].toNat : Int) := by omega
          have d2 : decide ((48 : Int) ≤ (s[k].toNat : Int)) = true := decide_eq_true p2
          have p3 : ¬ (s[k].toNat : Int) < 48 := by omega
          have d3 : decide ((s[k].toNat : Int) < 48) = false := decide_eq_false p3
          have p4 : ¬ (s[k].toNat : Int) ≤ 57 := by omega
          have d4 : decide ((s[k].toNat : Int) ≤ 57) = false := decide_eq_false p4
          have p5 : (57 : Int) < (s[k].toNat : Int) := by omega
          have d5 : decide ((57 : Int) < (s[k].toNat : Int)) = true := decide_eq_true p5
          have e46 : ((s[k].toNat : Int) == 46) = false := beq_of (by omega)
          have f46 : ((s[k].toNat : Int) != 46) = true := bne_of (by omega)
          have g46 : ¬ (s[k].toNat : Int) = 46 := by omega
          have e95 : ((s[k].toNat : Int) == 95) = false := beq_of (by omega)
          have f95 : ((s[k].toNat : Int) != 95) = true := bne_of (by omega)
          have g95 : ¬ (s[k].toNat : Int) = 95 := by omega
          clear hok hc hk0
          go_wp2_with fail
          go_round
          case rel => exact ⟨k + 1, by omega, by go_num, HK'⟩
          case measure => simp [intOf]; omega
        · clear hok hk0
          go_wp2_with fail
          go_round
          case rel => exact ⟨k + 1, by omega, by go_num, HK'⟩
          case measure => simp [intOf]; omega
        · exact absurd hok (by omega)
        · have p0 : ¬ (97 : Int) ≤ (s[k].toNat : Int) := by omega
          have d0 : decide ((97 : Int) ≤ (s[k].toNat : Int)) = false := decide_eq_false p0
          have p1 : (s[k].toNat : Int) ≤ 122 := by omega
          have d1 : decide ((s[k].toNat : Int) ≤ 122) = true := decide_eq_true p1
          have p2 : (48 : Int) ≤ (s[k].toNat : Int) := by omega
          have d2 : decide ((48 : Int) ≤ (s[k].toNat : Int)) = true := decide_eq_true p2
          have p3 : ¬ (s[k].toNat : Int) < 48 := by omega
          have d3 : decide ((s[k].toNat : Int) < 48) = false := decide_eq_false p3
          have p4 : (s[k].toNat : Int) ≤ 57 := by omega
          have d4 : decide ((s[k].toNat : Int) ≤ 57) = true := decide_eq_true p4
          have p5 : ¬ (57 : Int) < (s[k].toNat : Int) := by omega
          have d5 : decide ((57 : Int) < (s[k].toNat : Int)) = false := decide_eq_false p5
          have e46 : ((s[k].toNat : Int) == 46) = false := beq_of (by omega)
          have f46 : ((s[k].toNat : Int) != 46) = true := bne_of (by omega)
          have g46 : ¬ (s[k].toNat : Int) = 46 := by omega
          have e95 : ((s[k].toNat : Int) == 95) = false := beq_of (by omega)
          have f95 : ((s[k].toNat : Int) != 95) = true := bne_of (by omega)
          have g95 : ¬ (s[k].toNat : Int) = 95 := by omega
          clear hok hc hk0
          go_wp2_with fail
          go_round
          case rel => exact ⟨k + 1, by omega, by go_num, HK'⟩
          case measure => simp [intOf]; omega
        · exact absurd hok (by omega)
        · clear hok hk0
          go_wp2_with fail
          go_round
          case rel => exact ⟨k + 1, by omega, by go_num, HK'⟩
          case measure => simp [intOf]; omega
        · exact absurd hok (by omega)
      · have HO := Lib.hid hok
        have hb : b = false := by rw [← H.out]; exact nameB_bad hlt hok
        subst hb
        clear H HK
        unfold okc at hok
        by_cases hk0 : k = 0
        · subst hk0
          rcases hc with hc | hc | hc | hc | hc | hc | hc
          · exact absurd hok (by omega)
          · clear hok
            go_wp2_with fail
            go_ret
            exact ⟨rfl, rfl⟩
          · have p0 : ¬ (97 : Int) ≤ (s[0].toNat : Int) := by omega
            have d0 : decide ((97 : Int) ≤ (s[0].toNat : Int)) = false := decide_eq_false p0
            have p1 : (s[0].toNat : Int) ≤ 122 := by omega
            have d1 : decide ((s[0].toNat : Int) ≤ 122) = true := decide_eq_true p1
            have p2 : ¬ (48 : Int) ≤ (s[0].toNat : Int) := by omega
            have d2 : decide ((48 : Int) ≤ (s[0].toNat : Int)) = false := decide_eq_false p2
            have p3 : (s[0].toNat : Int) < 48 := by omega
            have d3 : decide ((s[0].toNat : Int) < 48) = true := decide_eq_true p3
            have p4 : (s[0].toNat : Int) ≤ 57 := by omega
            have d4 : decide ((s[0].toNat : Int) ≤ 57) = true := decide_eq_true p4
            have p5 : ¬ (57 : Int) < (s[0].toNat : Int) := by omega
            have d5 : decide ((57 : Int) < (s[0].toNat : Int)) = false := decide_eq_false p5
            have e46 : ((s[0].toNat : Int) == 46) = false := beq_of (by omega)
            have f46 : ((s[0].toNat : Int) != 46) = true := bne_of (by omega)
            have g46 : ¬ (s[0].toNat : Int) = 46 := by omega
            have e95 : ((s[0].toNat : Int) == 95) = false := beq_of (by omega)
            have f95 : ((s[0].toNat : Int) != 95) = true := bne_of (by omega)
            have g95 : ¬ (s[0].toNat : Int) = 95 := by omega
            clear hok hc
            go_wp2_with fail
            go_ret
            exact ⟨rfl, rfl⟩
          · have p0 : ¬ (97 : Int) ≤ (s[0].toNat : Int) := by omega
            have d0 : decide ((97 : Int) ≤ (s[0].toNat : Int)) = false := decide_eq_false p0
            have p1 : (s[0].toNat : Int) ≤ 122 := by omega
            have d1 : decide ((s[0].toNat : Int) ≤ 122) = true := decide_eq_true p1
            have p2 : (48 : Int) ≤ (s[0].toNat : Int) := by omega
            have d2 : decide ((48 : Int) ≤ (s[0].toNat : Int)) = true := decide_eq_true p2
            have p3 : ¬ (s[0].toNat : Int) < 48 := by omega
            have d3 : decide ((s[0].toNat : Int) < 48) = false := decide_eq_false p3
            have p4 : (s[0].toNat : Int) ≤ 57 := by omega
            have d4 : decide ((s[0].toNat : Int) ≤ 57) = true := decide_eq_true p4
            have p5 : ¬ (57 : Int) < (s[0].toNat : Int) := by omega
            have d5 : decide ((57 : Int) < (s[0].toNat : Int)) = false := decide_eq_false p5
            have e46 : ((s[0].toNat : Int) == 46) = false := beq_of (by omega)
            have f46 : ((s[0].toNat : Int) != 46) = true := bne_of (by omega)
            have g46 : ¬ (s[0].toNat : Int) = 46 := by omega
            have e95 : ((s[0].toNat : Int) == 95) = false := beq_of (by omega)
            have f95 : ((s[0].toNat : Int) != 95) = true := bne_of (by omega)
            have g95 : ¬ (s[0].toNat : Int) = 95 := by omega
            clear hok hc
            go_wp2_with fail
            go_ret
            exact ⟨rfl, rfl⟩
          · have p0 : ¬ (97 : Int) ≤ (s[0].toNat : Int) := by omega
            have d0 : decide ((97 : Int) ≤ (s[0].toNat : Int)) = false := decide_eq_false p0
            have p1 : (s[0].toNat : Int) ≤ 122 := by omega
            have d1 : decide ((s[0].toNat : Int) ≤ 122) = true := decide_eq_true p1
            have p2 : (48 : Int) ≤ (s[0].toNat : Int) := by omega
            have d2 : decide ((48 : Int) ≤ (s[0].toNat : Int)) = true := decide_eq_true p2
            have p3 : ¬ (s[0].toNat : Int) < 48 := by omega
            have d3 : decide ((s[0].toNat : Int) < 48) = false := decide_eq_false p3
            have p4 : ¬ (s[0].toNat : Int) ≤ 57 := by omega
            have d4 : decide ((s[0].toNat : Int) ≤ 57) = false := decide_eq_false p4
            have p5 : (57 : Int) < (s[0].toNat : Int) := by omega
            have d5 : decide ((57 : Int) < (s[0].toNat : Int)) = true := decide_eq_true p5
            have e46 : ((s[0].toNat : Int) == 46) = false := beq_of (by omega)
            have f46 : ((s[0].toNat : Int) != 46) = true := bne_of (by omega)
            have g46 : ¬ (s[0].toNat : Int) = 46 := by omega
            have e95 : ((s[0].toNat : Int) == 95) = false := beq_of (by omega)
            have f95 : ((s[0].toNat : Int) != 95) = true := bne_of (by omega)
            have g95 : ¬ (s[0].toNat : Int) = 95 := by omega
            clear hok hc
            go_wp2_with fail
            go_ret
            exact ⟨rfl, rfl⟩
          · clear hok
            go_wp2_with fail
            go_ret
            exact ⟨rfl, rfl⟩
          · have p0 : (97 : Int) ≤ (s[0].toNat : Int) := by omega
            have d0 : decide ((97 : Int) ≤ (s[0].toNat : Int)) = true := decide_eq_true p0
            have p1 : ¬ (s[0].toNat : Int) ≤ 122 := by omega
            have d1 : decide ((s[0].toNat : Int) ≤ 122) = false := decide_eq_false p1
            have p2 : (48 : Int) ≤ (s[0].toNat : Int) := by omega
            have d2 : decide ((48 : Int) ≤ (s[0].toNat : Int)) = true := decide_eq_true p2
            have p3 : ¬ (s[0].toNat : Int) < 48 := by omega
            have d3 : decide ((s[0].toNat : Int) < 48) = false := decide_eq_false p3
            have p4 : ¬ (s[0].toNat : Int) ≤ 57 := by omega
            have d4 : decide ((s[0].toNat : Int) ≤ 57) = false := decide_eq_false p4
            have p5 : (57 : Int) < (s[0].toNat : Int) := by omega
            have d5 : decide ((57 : Int) < (s[0].toNat : Int)) = true := decide_eq_true p5
            have e46 : ((s[0].toNat : Int) == 46) = false := beq_of (by omega)
            have f46 : ((s[0].toNat : Int) != 46) = true := bne_of (by omega)
            have g46 : ¬ (s[0].toNat : Int) = 46 := by omega
            have e95 : ((s[0].toNat : Int) == 95) = false := beq_of (by omega)
            have f95 : ((s[0].toNat : Int) != 95) = true := bne_of (by omega)
            have g95 : ¬ (s[0].toNat : Int) = 95 := by omega
            clear hok hc
            go_wp2_with fail
            go_ret
            exact ⟨rfl, rfl⟩
        have hk1 : ((k : Int) == 0) = false := beq_of (by omega)
        have hk2 : ¬ ((k : Int) = 0) := by omega
        rcases hc with hc | hc | hc | hc | hc | hc | hc
        · exact absurd hok (by omega)
        · exact absurd hok (by omega)
        · have p0 : ¬ (97 : Int) ≤ (s[k].toNat : Int) := by omega
          have d0 : decide ((97 : Int) ≤ (s[k].toNat : Int)) = false := decide_eq_false p0
          have p1 : (s[k].toNat : Int) ≤ 122 := by omega
          have d1 : decide ((s[k].toNat : Int) ≤ 122) = true := decide_eq_true p1
          have p2 : ¬ (48 : Int) ≤ (s[k].toNat : Int) := by omega
          have d2 : decide ((48 : Int) ≤ (s[k].toNat : Int)) = false := decide_eq_false p2
          have p3 : (s[k].toNat : Int) < 48 := by omega
          have d3 : decide ((s[k].toNat : Int) < 48) = true := decide_eq_true p3
          have p4 : (s[k].toNat : Int) ≤ 57 := by omega
          have d4 : decide ((s[k].toNat : Int) ≤ 57) = true := decide_eq_true p4
          have p5 : ¬ (57 : Int) < (s[k].toNat : Int) := by omega
          have d5 : decide ((57 : Int) < (s[k].toNat : Int)) = false := decide_eq_false p5
          have e46 : ((s[k].toNat : Int) == 46) = false := beq_of (by omega)
          have f46 : ((s[k].toNat : Int) != 46) = true := bne_of (by omega)
          have g46 : ¬ (s[k].toNat : Int) = 46 := by omega
          have e95 : ((s[k].toNat : Int) == 95) = false := beq_of (by omega)
          have f95 : ((s[k].toNat : Int) != 95) = true := bne_of (by omega)
          have g95 : ¬ (s[k].toNat : Int) = 95 := by omega
          clear hok hc hk0
          go_wp2_with fail
          go_ret
          exact ⟨rfl, rfl⟩
        · exact absurd hok (by omega)
        · have p0 : ¬ (97 : Int) ≤ (s[k].toNat : Int) := by omega
          have d0 : decide ((97 : Int) ≤ (s[k].toNat : Int)) = false := decide_eq_false p0
          have p1 : (s[k].toNat : Int) ≤ 122 := by omega
          have d1 : decide ((s[k].toNat : Int) ≤ 122) = true := decide_eq_true p1
          have p2 : (48 : Int) ≤ (s[k].toNat : Int) := by omega
          have d2 : decide ((48 : Int) ≤ (s[k].toNat : Int)) = true := decide_eq_true p2
          have p3 : ¬ (s[k].toNat : Int) < 48 := by omega
          have d3 : decide ((s[k].toNat : Int) < 48) = false := decide_eq_false p3
          have p4 : ¬ (s[k].toNat : Int) ≤ 57 := by omega
          have d4 : decide ((s[k].toNat : Int) ≤ 57) = false := decide_eq_false p4
          have p5 : (57 : Int) < (s[k].toNat : Int) := by omega
          have d5 : decide ((57 : Int) < (s[k].toNat : Int)) = true := decide_eq_true p5
          have e46 : ((s[k].toNat : Int) == 46) = false := beq_of (by omega)
          have f46 : ((s[k].toNat : Int) != 46) = true := bne_of (by omega)
          have g46 : ¬ (s[k].toNat : Int) = 46 := by omega
          have e95 : ((s[k].toNat : Int) == 95) = false := beq_of (by omega)
          have f95 : ((s[k].toNat : Int) != 95) = true := bne_of (by omega)
          have g95 : ¬ (s[k].toNat : Int) = 95 := by omega
          clear hok hc hk0
          go_wp2_with fail
          go_ret
          exact ⟨rfl, rfl⟩
        · exact absurd hok (by omega)
        · have p0 : (97 : Int) ≤ (s[k].toNat : Int) := by omega
          have d0 : decide ((97 : Int) ≤ (s[k].toNat : Int)) = true := decide_eq_true p0
          have p1 : ¬ (s[k].toNat : Int) ≤ 122 := by omega
          have d1 : decide ((s[k].toNat : Int) ≤ 122) = false := decide_eq_false p1
          have p2 : (48 : Int) ≤ (s[k].toNat : Int) := by omega
          have d2 : decide ((48 : Int) ≤ (s[k].toNat : Int)) = true := decide_eq_true p2
          have p3 : ¬ (s[k].toNat : Int) < 48 := by omega
          have d3 : decide ((s[k].toNat : Int) < 48) = false := decide_eq_false p3
          have p4 : ¬ (s[k].toNat : Int) ≤ 57 := by omega
          have d4 : decide ((s[k].toNat : Int) ≤ 57) = false := decide_eq_false p4
          have p5 : (57 : Int) < (s[k].toNat : Int) := by omega
          have d5 : decide ((57 : Int) < (s[k].toNat : Int)) = true := decide_eq_true p5
          have e46 : ((s[k].toNat : Int) == 46) = false := beq_of (by omega)
          have f46 : ((s[k].toNat : Int) != 46) = true := bne_of (by omega)
          have g46 : ¬ (s[k].toNat : Int) = 46 := by omega
          have e95 : ((s[k].toNat : Int) == 95) = false := beq_of (by omega)
          have f95 : ((s[k].toNat : Int) != 95) = true := bne_of (by omega)
          have g95 : ¬ (s[k].toNat : Int) = 95 := by omega
          clear hok hc hk0
          go_wp2_with fail
          go_ret
          exact ⟨rfl, rfl⟩
    · have hb : b = true := by
        rw [← H.out, HNB.out]
        exact decide_eq_true fun j hj => HK.out j hj (by omega)
      subst hb
      clear H HK HNB
      have hlt' : ¬ ((k : Int) < (s.size : Int)) := by omega
      go_wp2_with fail
      go_ret
      exact ⟨rfl, rfl⟩

set_option maxHeartbeats 2000000 in
theorem risName_b (s : ByteArray) (b : Bool) (H : Hid (nameB s = b)) (hs : s.size ≤ maxLen) (w : World) :
    Calls Tryz.prog 47 #[.string s] w fun e w' => e = .returned (.bool b) ∧ w = w' := by
  have hsm : s.size ≤ 9223372036854775807 := by unfold maxLen at hs; omega
  clear hs
  by_cases h0 : s.size = 0
  · have hb : b = false := by
      rw [← H.out]; unfold nameB; rw [decide_eq_false (show ¬ 1 ≤ s.size by omega)]; rfl
    subst hb
    clear H
    have he : s = { data := #[] } := by
      obtain ⟨d⟩ := s
      have : d.size = 0 := h0
      rw [Array.size_eq_zero_iff] at this
      rw [this]
    subst he
    go_enter Tryz.func47, Tryz.ntmps47
    go_wp2_with fail
    go_ret
    exact ⟨rfl, rfl⟩
  have hne : s.toList.isEmpty = false := by
    rw [Bool.eq_false_iff]
    intro h
    rw [List.isEmpty_iff, toList_nil_iff] at h
    exact h0 h
  by_cases h40 : 40 < s.size
  · have hb : b = false := by
      rw [← H.out]; unfold nameB; rw [decide_eq_false (show ¬ s.size ≤ 40 by omega)]; simp
    subst hb
    clear H
    have h40' : (40 : Int) < (s.size : Int) := by omega
    have h1' : ¬ ((s.size : Int) < 1) := by omega
    go_enter Tryz.func47, Tryz.ntmps47
    go_wp2_with fail
    go_ret
    exact ⟨rfl, rfl⟩
  have h40' : ¬ ((40 : Int) < (s.size : Int)) := by omega
  have h1' : ¬ ((s.size : Int) < 1) := by omega
  have HNB : Hid (nameB s = decide (∀ k (h : k < s.size), okc k s[k])) := by
    show _ = _
    unfold nameB
    rw [decide_eq_true (show 1 ≤ s.size by omega), decide_eq_true (show s.size ≤ 40 by omega), Bool.true_and, Bool.true_and]
  go_enter Tryz.func47, Tryz.ntmps47
  go_wp2_with fail
  go_loop [3] (fun v => ∃ k : Nat, k ≤ s.size ∧ v = .int .i64 k ∧ Hid (∀ j (h : j < s.size), j < k → okc j s[j])) (fun v => s.size - (intOf v).toNat)
  case atStart => exact ⟨0, by omega, rfl, fun j _ h => absurd h (by omega)⟩
  case round =>
    obtain ⟨k, hk, rfl, HK⟩ := hrel
    by_cases hlt : k < s.size
    · have hlt' : (k : Int) < (s.size : Int) := by omega
      have hc : (97 ≤ (s[k].toNat : Int) ∧ (s[k].toNat : Int) ≤ 122) ∨ (s[k].toNat : Int) = 46 ∨ ((s[k].toNat : Int) < 48 ∧ (s[k].toNat : Int) ≠ 46) ∨ (48 ≤ (s[k].toNat : Int) ∧ (s[k].toNat : Int) ≤ 57) ∨ (57 < (s[k].toNat : Int) ∧ (s[k].toNat : Int) < 97 ∧ (s[k].toNat : Int) ≠ 95) ∨ (s[k].toNat : Int) = 95 ∨ 122 < (s[k].toNat : Int) := by omega
      by_cases hok : okc k s[k]
      · have HO := Lib.hid hok
        have HK' : Hid (∀ j (h : j < s.size), j < k + 1 → okc j s[j]) := fun j hj hjk => by
          by_cases hjk' : j = k
          · subst hjk'; exact HO.out
          · exact HK.out j hj (by omega)
        unfold okc at hok
        by_cases hk0 : k = 0
        · subst hk0
          have hc : 97 ≤ (s[0].toNat : Int) ∧ (s[0].toNat : Int) ≤ 122 := by omega
          have hk0 : True := trivial
          have p0 : (97 : Int) ≤ (s[0].toNat : Int) := by omega
          have d0 : decide ((97 : Int) ≤ (s[0].toNat : Int)) = true := decide_eq_true p0
          have p1 : (s[0].toNat : Int) ≤ 122 := by omega
          have d1 : decide ((s[0].toNat : Int) ≤ 122) = true := decide_eq_true p1
          have p2 : (48 : Int) ≤ (s[0].toNat : Int) := by omega
          have d2 : decide ((48 : Int) ≤ (s[0].toNat : Int)) = true := decide_eq_true p2
          have p3 : ¬ (s[0].toNat : Int) < 48 := by omega
          have d3 : decide ((s[0].toNat : Int) < 48) = false := decide_eq_false p3
          have p4 : ¬ (s[0].toNat : Int) ≤ 57 := by omega
          have d4 : decide ((s[0].toNat : Int) ≤ 57) = false := decide_eq_false p4
          have p5 : (57 : Int) < (s[0].toNat : Int) := by omega
          have d5 : decide ((57 : Int) < (s[0].toNat : Int)) = true := decide_eq_true p5
          have e46 : ((s[0].toNat : Int) == 46) = false := beq_of (by omega)
          have f46 : ((s[0].toNat : Int) != 46) = true := bne_of (by omega)
          have g46 : ¬ (s[0].toNat : Int) = 46 := by omega
          have e95 : ((s[0].toNat : Int) == 95) = false := beq_of (by omega)
          have f95 : ((s[0].toNat : Int) != 95) = true := bne_of (by omega)
          have g95 : ¬ (s[0].toNat : Int) = 95 := by omega
          clear hok hc hk0
          go_wp2_with fail
          go_round
          case rel => exact ⟨0 + 1, by omega, by go_num, HK'⟩
          case measure => simp [intOf]; omega
        have hk1 : ((k : Int) == 0) = false := beq_of (by omega)
        have hk2 : ¬ ((k : Int) = 0) := by omega
        rcases hc with hc | hc | hc | hc | hc | hc | hc
        · have p0 : (97 : Int) ≤ (s[k].toNat : Int) := by omega
          have d0 : decide ((97 : Int) ≤ (s[k].toNat : Int)) = true := decide_eq_true p0
          have p1 : (s[k].toNat : Int) ≤ 122 := by omega
          have d1 : decide ((s[k].toNat : Int) ≤ 122) = true := decide_eq_true p1
          have p2 : (48 : Int) ≤ (s[k].toNat : Int) := by omega
          have d2 : decide ((48 : Int) ≤ (s[k].toNat : Int)) = true := decide_eq_true p2
          have p3 : ¬ (s[k].toNat : Int) < 48 := by omega
          have d3 : decide ((s[k].toNat : Int) < 48) = false := decide_eq_false p3
          have p4 : ¬ (s[k].toNat : Int) ≤ 57 := by omega
          have d4 : decide ((s[k].toNat : Int) ≤ 57) = false := decide_eq_false p4
          have p5 : (57 : Int) < (s[k].toNat : Int) := by omega
          have d5 : decide ((57 : Int) < (s[k].toNat : Int)) = true := decide_eq_true p5
          have e46 : ((s[k].toNat : Int) == 46) = false := beq_of (by omega)
          have f46 : ((s[k].toNat : Int) != 46) = true := bne_of (by omega)
          have g46 : ¬ (s[k].toNat : Int) = 46 := by omega
          have e95 : ((s[k].toNat : Int) == 95) = false := beq_of (by omega)
          have f95 : ((s[k].toNat : Int) != 95) = true := bne_of (by omega)
          have g95 : ¬ (s[k].toNat : Int) = 95 := by omega
          clear hok hc hk0
          go_wp2_with fail
          go_round
          case rel => exact ⟨k + 1, by omega, by go_num, HK'⟩
          case measure => simp [intOf]; omega
        · clear hok hk0
          go_wp2_with fail
          go_round
          case rel => exact ⟨k + 1, by omega, by go_num, HK'⟩
          case measure => simp [intOf]; omega
        · exact absurd hok (by omega)
        · have p0 : ¬ (97 : Int) ≤ (s[k].toNat : Int) := by omega
          have d0 : decide ((97 : Int) ≤ (s[k].toNat : Int)) = false := decide_eq_false p0
          have p1 : (s[k].toNat : Int) ≤ 122 := by omega
          have d1 : decide ((s[k].toNat : Int) ≤ 122) = true := decide_eq_true p1
          have p2 : (48 : Int) ≤ (s[k].toNat : Int) := by omega
          have d2 : decide ((48 : Int) ≤ (s[k].toNat : Int)) = true := decide_eq_true p2
          have p3 : ¬ (s[k].toNat : Int) < 48 := by omega
          have d3 : decide ((s[k].toNat : Int) < 48) = false := decide_eq_false p3
          have p4 : (s[k].toNat : Int) ≤ 57 := by omega
          have d4 : decide ((s[k].toNat : Int) ≤ 57) = true := decide_eq_true p4
          have p5 : ¬ (57 : Int) < (s[k].toNat : Int) := by omega
          have d5 : decide ((57 : Int) < (s[k].toNat : Int)) = false := decide_eq_false p5
          have e46 : ((s[k].toNat : Int) == 46) = false := beq_of (by omega)
          have f46 : ((s[k].toNat : Int) != 46) = true := bne_of (by omega)
          have g46 : ¬ (s[k].toNat : Int) = 46 := by omega
          have e95 : ((s[k].toNat : Int) == 95) = false := beq_of (by omega)
          have f95 : ((s[k].toNat : Int) != 95) = true := bne_of (by omega)
          have g95 : ¬ (s[k].toNat : Int) = 95 := by omega
          clear hok hc hk0
          go_wp2_with fail
          go_round
          case rel => exact ⟨k + 1, by omega, by go_num, HK'⟩
          case measure => simp [intOf]; omega
        · exact absurd hok (by omega)
        · clear hok hk0
          go_wp2_with fail
          go_round
          case rel => exact ⟨k + 1, by omega, by go_num, HK'⟩
          case measure => simp [intOf]; omega
        · exact absurd hok (by omega)
      · have HO := Lib.hid hok
        have hb : b = false := by rw [← H.out]; exact nameB_bad hlt hok
        subst hb
        clear H HK
        unfold okc at hok
        by_cases hk0 : k = 0
        · subst hk0
          rcases hc with hc | hc | hc | hc | hc | hc | hc
          · exact absurd hok (by omega)
          · clear hok
            go_wp2_with fail
            go_ret
            exact ⟨rfl, rfl⟩
          · have p0 : ¬ (97 : Int) ≤ (s[0].toNat : Int) := by omega
            have d0 : decide ((97 : Int) ≤ (s[0].toNat : Int)) = false := decide_eq_false p0
            have p1 : (s[0].toNat : Int) ≤ 122 := by omega
            have d1 : decide ((s[0].toNat : Int) ≤ 122) = true := decide_eq_true p1
            have p2 : ¬ (48 : Int) ≤ (s[0].toNat : Int) := by omega
            have d2 : decide ((48 : Int) ≤ (s[0].toNat : Int)) = false := decide_eq_false p2
            have p3 : (s[0].toNat : Int) < 48 := by omega
            have d3 : decide ((s[0].toNat : Int) < 48) = true := decide_eq_true p3
            have p4 : (s[0].toNat : Int) ≤ 57 := by omega
            have d4 : decide ((s[0].toNat : Int) ≤ 57) = true := decide_eq_true p4
            have p5 : ¬ (57 : Int) < (s[0].toNat : Int) := by omega
            have d5 : decide ((57 : Int) < (s[0].toNat : Int)) = false := decide_eq_false p5
            have e46 : ((s[0].toNat : Int) == 46) = false := beq_of (by omega)
            have f46 : ((s[0].toNat : Int) != 46) = true := bne_of (by omega)
            have g46 : ¬ (s[0].toNat : Int) = 46 := by omega
            have e95 : ((s[0].toNat : Int) == 95) = false := beq_of (by omega)
            have f95 : ((s[0].toNat : Int) != 95) = true := bne_of (by omega)
            have g95 : ¬ (s[0].toNat : Int) = 95 := by omega
            clear hok hc
            go_wp2_with fail
            go_ret
            exact ⟨rfl, rfl⟩
          · have p0 : ¬ (97 : Int) ≤ (s[0].toNat : Int) := by omega
            have d0 : decide ((97 : Int) ≤ (s[0].toNat : Int)) = false := decide_eq_false p0
            have p1 : (s[0].toNat : Int) ≤ 122 := by omega
            have d1 : decide ((s[0].toNat : Int) ≤ 122) = true := decide_eq_true p1
            have p2 : (48 : Int) ≤ (s[0].toNat : Int) := by omega
            have d2 : decide ((48 : Int) ≤ (s[0].toNat : Int)) = true := decide_eq_true p2
            have p3 : ¬ (s[0].toNat : Int) < 48 := by omega
            have d3 : decide ((s[0].toNat : Int) < 48) = false := decide_eq_false p3
            have p4 : (s[0].toNat : Int) ≤ 57 := by omega
            have d4 : decide ((s[0].toNat : Int) ≤ 57) = true := decide_eq_true p4
            have p5 : ¬ (57 : Int) < (s[0].toNat : Int) := by omega
            have d5 : decide ((57 : Int) < (s[0].toNat : Int)) = false := decide_eq_false p5
            have e46 : ((s[0].toNat : Int) == 46) = false := beq_of (by omega)
            have f46 : ((s[0].toNat : Int) != 46) = true := bne_of (by omega)
            have g46 : ¬ (s[0].toNat : Int) = 46 := by omega
            have e95 : ((s[0].toNat : Int) == 95) = false := beq_of (by omega)
            have f95 : ((s[0].toNat : Int) != 95) = true := bne_of (by omega)
            have g95 : ¬ (s[0].toNat : Int) = 95 := by omega
            clear hok hc
            go_wp2_with fail
            go_ret
            exact ⟨rfl, rfl⟩
          · have p0 : ¬ (97 : Int) ≤ (s[0].toNat : Int) := by omega
            have d0 : decide ((97 : Int) ≤ (s[0].toNat : Int)) = false := decide_eq_false p0
            have p1 : (s[0].toNat : Int) ≤ 122 := by omega
            have d1 : decide ((s[0].toNat : Int) ≤ 122) = true := decide_eq_true p1
            have p2 : (48 : Int) ≤ (s[0].toNat : Int) := by omega
            have d2 : decide ((48 : Int) ≤ (s[0].toNat : Int)) = true := decide_eq_true p2
            have p3 : ¬ (s[0].toNat : Int) < 48 := by omega
            have d3 : decide ((s[0].toNat : Int) < 48) = false := decide_eq_false p3
            have p4 : ¬ (s[0].toNat : Int) ≤ 57 := by omega
            have d4 : decide ((s[0].toNat : Int) ≤ 57) = false := decide_eq_false p4
            have p5 : (57 : Int) < (s[0].toNat : Int) := by omega
            have d5 : decide ((57 : Int) < (s[0].toNat : Int)) = true := decide_eq_true p5
            have e46 : ((s[0].toNat : Int) == 46) = false := beq_of (by omega)
            have f46 : ((s[0].toNat : Int) != 46) = true := bne_of (by omega)
            have g46 : ¬ (s[0].toNat : Int) = 46 := by omega
            have e95 : ((s[0].toNat : Int) == 95) = false := beq_of (by omega)
            have f95 : ((s[0].toNat : Int) != 95) = true := bne_of (by omega)
            have g95 : ¬ (s[0].toNat : Int) = 95 := by omega
            clear hok hc
            go_wp2_with fail
            go_ret
            exact ⟨rfl, rfl⟩
          · clear hok
            go_wp2_with fail
            go_ret
            exact ⟨rfl, rfl⟩
          · have p0 : (97 : Int) ≤ (s[0].toNat : Int) := by omega
            have d0 : decide ((97 : Int) ≤ (s[0].toNat : Int)) = true := decide_eq_true p0
            have p1 : ¬ (s[0].toNat : Int) ≤ 122 := by omega
            have d1 : decide ((s[0].toNat : Int) ≤ 122) = false := decide_eq_false p1
            have p2 : (48 : Int) ≤ (s[0].toNat : Int) := by omega
            have d2 : decide ((48 : Int) ≤ (s[0].toNat : Int)) = true := decide_eq_true p2
            have p3 : ¬ (s[0].toNat : Int) < 48 := by omega
            have d3 : decide ((s[0].toNat : Int) < 48) = false := decide_eq_false p3
            have p4 : ¬ (s[0].toNat : Int) ≤ 57 := by omega
            have d4 : decide ((s[0].toNat : Int) ≤ 57) = false := decide_eq_false p4
            have p5 : (57 : Int) < (s[0].toNat : Int) := by omega
            have d5 : decide ((57 : Int) < (s[0].toNat : Int)) = true := decide_eq_true p5
            have e46 : ((s[0].toNat : Int) == 46) = false := beq_of (by omega)
            have f46 : ((s[0].toNat : Int) != 46) = true := bne_of (by omega)
            have g46 : ¬ (s[0].toNat : Int) = 46 := by omega
            have e95 : ((s[0].toNat : Int) == 95) = false := beq_of (by omega)
            have f95 : ((s[0].toNat : Int) != 95) = true := bne_of (by omega)
            have g95 : ¬ (s[0].toNat : Int) = 95 := by omega
            clear hok hc
            go_wp2_with fail
            go_ret
            exact ⟨rfl, rfl⟩
        have hk1 : ((k : Int) == 0) = false := beq_of (by omega)
        have hk2 : ¬ ((k : Int) = 0) := by omega
        rcases hc with hc | hc | hc | hc | hc | hc | hc
        · exact absurd hok (by omega)
        · exact absurd hok (by omega)
        · have p0 : ¬ (97 : Int) ≤ (s[k].toNat : Int) := by omega
          have d0 : decide ((97 : Int) ≤ (s[k].toNat : Int)) = false := decide_eq_false p0
          have p1 : (s[k].toNat : Int) ≤ 122 := by omega
          have d1 : decide ((s[k].toNat : Int) ≤ 122) = true := decide_eq_true p1
          have p2 : ¬ (48 : Int) ≤ (s[k].toNat : Int) := by omega
          have d2 : decide ((48 : Int) ≤ (s[k].toNat : Int)) = false := decide_eq_false p2
          have p3 : (s[k].toNat : Int) < 48 := by omega
          have d3 : decide ((s[k].toNat : Int) < 48) = true := decide_eq_true p3
          have p4 : (s[k].toNat : Int) ≤ 57 := by omega
          have d4 : decide ((s[k].toNat : Int) ≤ 57) = true := decide_eq_true p4
          have p5 : ¬ (57 : Int) < (s[k].toNat : Int) := by omega
          have d5 : decide ((57 : Int) < (s[k].toNat : Int)) = false := decide_eq_false p5
          have e46 : ((s[k].toNat : Int) == 46) = false := beq_of (by omega)
          have f46 : ((s[k].toNat : Int) != 46) = true := bne_of (by omega)
          have g46 : ¬ (s[k].toNat : Int) = 46 := by omega
          have e95 : ((s[k].toNat : Int) == 95) = false := beq_of (by omega)
          have f95 : ((s[k].toNat : Int) != 95) = true := bne_of (by omega)
          have g95 : ¬ (s[k].toNat : Int) = 95 := by omega
          clear hok hc hk0
          go_wp2_with fail
          go_ret
          exact ⟨rfl, rfl⟩
        · exact absurd hok (by omega)
        · have p0 : ¬ (97 : Int) ≤ (s[k].toNat : Int) := by omega
          have d0 : decide ((97 : Int) ≤ (s[k].toNat : Int)) = false := decide_eq_false p0
          have p1 : (s[k].toNat : Int) ≤ 122 := by omega
          have d1 : decide ((s[k].toNat : Int) ≤ 122) = true := decide_eq_true p1
          have p2 : (48 : Int) ≤ (s[k].toNat : Int) := by omega
          have d2 : decide ((48 : Int) ≤ (s[k].toNat : Int)) = true := decide_eq_true p2
          have p3 : ¬ (s[k].toNat : Int) < 48 := by omega
          have d3 : decide ((s[k].toNat : Int) < 48) = false := decide_eq_false p3
          have p4 : ¬ (s[k].toNat : Int) ≤ 57 := by omega
          have d4 : decide ((s[k].toNat : Int) ≤ 57) = false := decide_eq_false p4
          have p5 : (57 : Int) < (s[k].toNat : Int) := by omega
          have d5 : decide ((57 : Int) < (s[k].toNat : Int)) = true := decide_eq_true p5
          have e46 : ((s[k].toNat : Int) == 46) = false := beq_of (by omega)
          have f46 : ((s[k].toNat : Int) != 46) = true := bne_of (by omega)
          have g46 : ¬ (s[k].toNat : Int) = 46 := by omega
          have e95 : ((s[k].toNat : Int) == 95) = false := beq_of (by omega)
          have f95 : ((s[k].toNat : Int) != 95) = true := bne_of (by omega)
          have g95 : ¬ (s[k].toNat : Int) = 95 := by omega
          clear hok hc hk0
          go_wp2_with fail
          go_ret
          exact ⟨rfl, rfl⟩
        · exact absurd hok (by omega)
        · have p0 : (97 : Int) ≤ (s[k].toNat : Int) := by omega
          have d0 : decide ((97 : Int) ≤ (s[k].toNat : Int)) = true := decide_eq_true p0
          have p1 : ¬ (s[k].toNat : Int) ≤ 122 := by omega
          have d1 : decide ((s[k].toNat : Int) ≤ 122) = false := decide_eq_false p1
          have p2 : (48 : Int) ≤ (s[k].toNat : Int) := by omega
          have d2 : decide ((48 : Int) ≤ (s[k].toNat : Int)) = true := decide_eq_true p2
          have p3 : ¬ (s[k].toNat : Int) < 48 := by omega
          have d3 : decide ((s[k].toNat : Int) < 48) = false := decide_eq_false p3
          have p4 : ¬ (s[k].toNat : Int) ≤ 57 := by omega
          have d4 : decide ((s[k].toNat : Int) ≤ 57) = false := decide_eq_false p4
          have p5 : (57 : Int) < (s[k].toNat : Int) := by omega
          have d5 : decide ((57 : Int) < (s[k].toNat : Int)) = true := decide_eq_true p5
          have e46 : ((s[k].toNat : Int) == 46) = false := beq_of (by omega)
          have f46 : ((s[k].toNat : Int) != 46) = true := bne_of (by omega)
          have g46 : ¬ (s[k].toNat : Int) = 46 := by omega
          have e95 : ((s[k].toNat : Int) == 95) = false := beq_of (by omega)
          have f95 : ((s[k].toNat : Int) != 95) = true := bne_of (by omega)
          have g95 : ¬ (s[k].toNat : Int) = 95 := by omega
          clear hok hc hk0
          go_wp2_with fail
          go_ret
          exact ⟨rfl, rfl⟩
    · have hb : b = true := by
        rw [← H.out, HNB.out]
        exact decide_eq_true fun j hj => HK.out j hj (by omega)
      subst hb
      clear H HK HNB
      have hlt' : ¬ ((k : Int) < (s.size : Int)) := by omega
      go_wp2_with fail
      go_ret
      exact ⟨rfl, rfl⟩

/-- Are the bounds in order and within the limit? -/
def boundB (a b : Int) : Bool := decide (a ≤ b) && (decide (-1048576 ≤ a) && decide (b ≤ 1048576))

theorem bounded_b (x y : Int) (b : Bool) (H : Hid (boundB x y = b)) (w : World) :
    Calls Tryz.prog 61 #[.int .i64 x, .int .i64 y] w fun e w' => e = .returned (.bool b) ∧ w = w' := by
  have H0 : Hid (b = (decide (x ≤ y) && (decide (-1048576 ≤ x) && decide (y ≤ 1048576)))) := H.out.symm
  clear H
  go_enter Tryz.func61, Tryz.ntmps61
  go_wp2_with fail
  all_goals go_ret
  all_goals exact ⟨ret_bool (by rw [H0.out]; first | done | (simp [*]; done) | (simp [*]; omega) | (simp [*]; intros; omega)), rfl⟩

theorem rbounded_b (x y : Int) (b : Bool) (H : Hid (boundB x y = b)) (w : World) :
    Calls Tryz.prog 48 #[.int .i64 x, .int .i64 y] w fun e w' => e = .returned (.bool b) ∧ w = w' := by
  have H0 : Hid (b = (decide (x ≤ y) && (decide (-1048576 ≤ x) && decide (y ≤ 1048576)))) := H.out.symm
  clear H
  go_enter Tryz.func48, Tryz.ntmps48
  go_wp2_with fail
  all_goals go_ret
  all_goals exact ⟨ret_bool (by rw [H0.out]; first | done | (simp [*]; done) | (simp [*]; omega) | (simp [*]; intros; omega)), rfl⟩

def usesVarB (a : Int) : Bool := (a == 0) || (a == 5)
theorem usesVar_b (a : Int) (b : Bool) (H : Hid (usesVarB a = b)) (w : World) :
    Calls Tryz.prog 91 #[.int .i64 a] w fun e w' => e = .returned (.bool b) ∧ w = w' := by
  have H0 : Hid (b = ((a == 0) || (a == 5))) := H.out.symm
  clear H
  go_enter Tryz.func91, Tryz.ntmps91
  go_wp2_with fail
  all_goals go_ret
  all_goals exact ⟨ret_bool (by rw [H0.out]; first | done | (simp [*]; done) | (simp [*]; omega) | (simp [*]; intros; omega)), rfl⟩

def usesNB (a : Int) : Bool := (a == 4) || (a == 5)
theorem usesN_b (a : Int) (b : Bool) (H : Hid (usesNB a = b)) (w : World) :
    Calls Tryz.prog 92 #[.int .i64 a] w fun e w' => e = .returned (.bool b) ∧ w = w' := by
  have H0 : Hid (b = ((a == 4) || (a == 5))) := H.out.symm
  clear H
  go_enter Tryz.func92, Tryz.ntmps92
  go_wp2_with fail
  all_goals go_ret
  all_goals exact ⟨ret_bool (by rw [H0.out]; first | done | (simp [*]; done) | (simp [*]; omega) | (simp [*]; intros; omega)), rfl⟩

def usesTermB (a : Int) : Bool := (a == 0) || (a == 1) || (a == 3) || (a == 4)
theorem usesTerm_b (a : Int) (b : Bool) (H : Hid (usesTermB a = b)) (w : World) :
    Calls Tryz.prog 93 #[.int .i64 a] w fun e w' => e = .returned (.bool b) ∧ w = w' := by
  have H0 : Hid (b = ((a == 0) || (a == 1) || (a == 3) || (a == 4))) := H.out.symm
  clear H
  go_enter Tryz.func93, Tryz.ntmps93
  go_wp2_with fail
  all_goals go_ret
  all_goals exact ⟨ret_bool (by rw [H0.out]; first | done | (simp [*]; done) | (simp [*]; omega) | (simp [*]; intros; omega)), rfl⟩

/-- Is a term the zero term? -/
def zeroB (o n : Int) (l : Nat) : Bool := (o == 0) && ((n == 0) && ((l : Int) == 0))
set_option maxHeartbeats 1000000 in
theorem zeroTerm_b (o n : Int) (A : Option Addr) (l c : Nat) (b : Bool) (H : Hid (zeroB o n l = b)) (w : World) :
    Calls Tryz.prog 94 #[.agg #[.int .i64 o, .int .i64 n, .slice A l c]] w fun e w' => e = .returned (.bool b) ∧ Below w.heap.size w w' := by
  have H0 : Hid (b = ((o == 0) && ((n == 0) && ((l : Int) == 0)))) := H.out.symm
  clear H
  go_enter Tryz.func94, Tryz.ntmps94
  go_wp2_with fail
  all_goals go_ret
  all_goals exact ⟨ret_bool (by rw [H0.out]; first | done | (simp [*]; done) | (simp [*]; omega) | (simp [*]; intros; omega)), (Below.refl _ _).alloc (Nat.le_refl _) _⟩
end Go.Proofs.YtjpjmoejdkmglaaGreat
