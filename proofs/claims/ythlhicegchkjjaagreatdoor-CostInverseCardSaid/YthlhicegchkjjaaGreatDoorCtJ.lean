/-
  Texts of cost models: the walks over the program's lower and find.
-/
import Derived.Test.YthlhicegchkjjaaGreatDoorCtI
namespace Go.Proofs.YthlhicegchkjjaaGreatDoor
open Go.RowKit

theorem lower_b (s : ByteArray) (lo hi : Int) (p : UInt8 → Bool) (HP : Hid (∀ c : UInt8, p c = decide (lo ≤ (c.toNat : Int) ∧ (c.toNat : Int) ≤ hi))) (b : Bool) (H : Hid ((!s.data.toList.isEmpty && s.data.toList.all p) = b)) (hs : s.size ≤ maxLen) (w : World) :
    Calls Tryz.prog 52 #[.string s, .int .u8 lo, .int .u8 hi] w fun e w' => e = .returned (.bool b) ∧ w = w' := by
  have hsm : s.size ≤ 9223372036854775807 := by unfold maxLen at hs; omega
  clear hs
  go_enter Tryz.func52, Tryz.ntmps52
  go_wp2_with fail
  go_loop [10] (fun v => ∃ k : Nat, k ≤ s.size ∧ v = .int .i64 k ∧ Hid (∀ j (h : j < s.size), j < k → p s[j] = true)) (fun v => s.size - (intOf v).toNat)
  case atStart => exact ⟨0, by omega, rfl, fun j _ h => absurd h (by omega)⟩
  case round =>
    obtain ⟨k, hk, rfl, HK⟩ := hrel
    by_cases hlt : k < s.size
    · have hlt' : (k : Int) < (s.size : Int) := by omega
      have hpc := HP.out s[k]
      by_cases h1 : lo ≤ (s[k].toNat : Int) ∧ (s[k].toNat : Int) ≤ hi
      · have HK' : Hid (∀ j (h : j < s.size), j < k + 1 → p s[j] = true) := fun j hj hjk => by
          by_cases hjk' : j = k
          · subst hjk'
            rw [hpc]
            exact decide_eq_true h1
          · exact HK.out j hj (by omega)
        obtain ⟨h2, h3⟩ := h1
        have h4 : ¬ (s[k].toNat : Int) < lo := by omega
        have h5 : ¬ hi < (s[k].toNat : Int) := by omega
        clear hpc H
        go_wp2_with fail
        go_round
        case rel => exact ⟨k + 1, by omega, by go_num, HK'⟩
        case measure => simp [intOf]; omega
      · have hb : b = false := by
          rw [← H.out, Bool.and_eq_false_iff]
          right
          rw [List.all_eq_false]
          exact ⟨s[k], List.mem_of_getElem? (bget s k hlt), by rw [hpc]; simpa using h1⟩
        subst hb
        clear H HK hpc
        by_cases h4 : (s[k].toNat : Int) < lo
        · go_wp2_with fail
          go_ret
          exact ⟨rfl, rfl⟩
        · have h5 : hi < (s[k].toNat : Int) := by omega
          go_wp2_with fail
          go_ret
          exact ⟨rfl, rfl⟩
    · have hge : ¬ ((k : Int) < (s.size : Int)) := by omega
      have hall : s.data.toList.all p = true := by
        rw [List.all_eq_true]
        intro c hc
        obtain ⟨j, hj⟩ := List.mem_iff_getElem?.1 hc
        have hj2 : j < s.size := by rw [bsize_len]; exact (List.getElem?_eq_some_iff.1 hj).1
        rw [bget s j hj2] at hj
        cases hj
        exact HK.out j hj2 (by omega)
      have hb : b = !s.toList.isEmpty := by
        rw [← H.out, hall, Bool.and_true, Lib.toList_data]
      clear H HK HP hall
      cases he : s.toList.isEmpty with
      | true =>
        rw [he] at hb
        subst hb
        go_wp2_with fail
        go_ret
        exact ⟨rfl, rfl⟩
      | false =>
        rw [he] at hb
        subst hb
        go_wp2_with fail
        go_ret
        exact ⟨rfl, rfl⟩
theorem nam_at : ∀ k : Nat, k < 13 → ∀ w, (Instr.index 51 (.agg #[.string (nmB 0), .string (nmB 1), .string (nmB 2), .string (nmB 3), .string (nmB 4), .string (nmB 5), .string (nmB 6), .string (nmB 7), .string (nmB 8), .string (nmB 9), .string (nmB 10), .string (nmB 11), .string (nmB 12)]) (.int .i64 k)).run Tryz.prog w = .ok (.string (nmB k)) w :=
  forall13 (fun _ => by kernel_rfl) (fun _ => by kernel_rfl) (fun _ => by kernel_rfl) (fun _ => by kernel_rfl) (fun _ => by kernel_rfl) (fun _ => by kernel_rfl) (fun _ => by kernel_rfl) (fun _ => by kernel_rfl) (fun _ => by kernel_rfl) (fun _ => by kernel_rfl) (fun _ => by kernel_rfl) (fun _ => by kernel_rfl) (fun _ => by kernel_rfl)
theorem find_b (s : ByteArray) (r : Int) (H : Hid (findT s.data.toList = r)) (w : World) (hT : NT w) :
    Calls Tryz.prog 53 #[.string s] w fun e w' => e = .returned (.int .i64 r) ∧ w = w' := by
  have c0 := hT.cell 0 (by omega)
  have c1 := hT.cell 1 (by omega)
  have c2 := hT.cell 2 (by omega)
  have c3 := hT.cell 3 (by omega)
  have c4 := hT.cell 4 (by omega)
  have c5 := hT.cell 5 (by omega)
  have c6 := hT.cell 6 (by omega)
  have c7 := hT.cell 7 (by omega)
  have c8 := hT.cell 8 (by omega)
  have c9 := hT.cell 9 (by omega)
  have c10 := hT.cell 10 (by omega)
  have c11 := hT.cell 11 (by omega)
  have c12 := hT.cell 12 (by omega)
  clear hT
  go_enter Tryz.func53, Tryz.ntmps53
  go_wp2_with fail
  clear c0 c1 c2 c3 c4 c5 c6 c7 c8 c9 c10 c11 c12
  go_loop [6] (fun v => ∃ k : Nat, k ≤ 13 ∧ v = .int .i64 k ∧ Hid (∀ j, j < k → nms.getD j [] ≠ s.data.toList)) (fun v => 13 - (intOf v).toNat)
  case atStart => exact ⟨0, by omega, rfl, fun j h => absurd h (by omega)⟩
  case round =>
    obtain ⟨k, hk, rfl, HK⟩ := hrel
    by_cases hlt : k < 13
    · have hlt' : (k : Int) < 13 := by omega
      have hi := nam_at k hlt
      have HX : Hid (nmB k = nmB k) := rfl
      obtain ⟨x, hx⟩ : ∃ x, nmB k = x := ⟨_, rfl⟩
      rw [hx] at hi
      have HD : Hid (nms.getD k [] = x.data.toList) := Lib.hid (by rw [← hx]; rfl)
      clear hx HX
      by_cases h : x.data.toList = s.data.toList
      · have e1 : (x.toList == s.toList) = true := by rw [Lib.toList_data, Lib.toList_data, h]; simp
        have hr : r = k := by rw [← H.out]; exact findT_hit hlt (HD.out.trans h)
        subst hr
        clear H HK h
        go_wp2_with fail
        go_ret
        exact ⟨rfl, rfl⟩
      · have e1 : (x.toList == s.toList) = false := by rw [Lib.toList_data, Lib.toList_data]; simpa using h
        have HK' : Hid (∀ j, j < k + 1 → nms.getD j [] ≠ s.data.toList) := fun j hj => by
          by_cases hjk : j = k
          · subst hjk
            rw [HD.out]
            exact h
          · exact HK.out j (by omega)
        clear h
        go_wp2_with fail
        go_round
        case rel => exact ⟨k + 1, by omega, by go_num, HK'⟩
        case measure => simp [intOf]; omega
    · have hge : ¬ ((k : Int) < 13) := by omega
      have hr : r = -1 := by rw [← H.out]; exact findT_none fun j hj => HK.out j (by omega)
      subst hr
      clear H HK
      go_wp2_with fail
      go_ret
      exact ⟨rfl, rfl⟩
end Go.Proofs.YthlhicegchkjjaaGreatDoor
