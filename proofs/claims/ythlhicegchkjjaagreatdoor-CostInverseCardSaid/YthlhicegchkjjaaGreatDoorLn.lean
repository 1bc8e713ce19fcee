/-
  Names: the lexer's and its reference's functions on words, walked at this translation.
-/
import Derived.Test.YthlhicegchkjjaaGreatDoorEtA
import Derived.Test.YthlhicegchkjjaaGreatDoorLx
import Derived.Test.YthlhicegchkjjaaGreatDoorShelf
import Derived.Lib.IndexAny
import Derived.Lib.IndexLaws
namespace Go.Proofs.YthlhicegchkjjaaGreatDoor
open Go.RowKit
theorem drop_at (s : ByteArray) (k : Nat) (h : k < s.size) : s.data.toList.drop k = s[k] :: s.data.toList.drop (k + 1) := by
  rw [List.drop_eq_getElem_cons (by simpa using h)]; rfl
theorem drop_end (s : ByteArray) (k : Nat) (h : s.size ≤ k) : s.data.toList.drop k = [] := List.drop_of_length_le (by simpa using h)
theorem isL_def (c : UInt8) : Lx.isL c = (decide (97 ≤ (c.toNat : Int)) && decide ((c.toNat : Int) ≤ 122)) := by
  unfold Lx.isL; congr 2 <;> (apply propext; omega)
theorem isD_def (c : UInt8) : Lx.isD c = (decide (48 ≤ (c.toNat : Int)) && decide ((c.toNat : Int) ≤ 57)) := by
  unfold Lx.isD; congr 2 <;> (apply propext; omega)
theorem isLetter_any (c : UInt8) (w : World) :
    Calls Tryz.prog 123 #[.int .u8 (c.toNat : Int)] w fun e w' => e = .returned (.bool (Lx.isL c)) ∧ w = w' := by
  rw [isL_def]
  go_enter Tryz.func123, Tryz.ntmps123
  go_wp2
  all_goals go_ret
  all_goals exact ⟨ret_bool (by first | (simp [*]; done) | (simp [*]; omega)), rfl⟩
theorem isDigit_any (c : UInt8) (w : World) :
    Calls Tryz.prog 124 #[.int .u8 (c.toNat : Int)] w fun e w' => e = .returned (.bool (Lx.isD c)) ∧ w = w' := by
  rw [isD_def]
  go_enter Tryz.func124, Tryz.ntmps124
  go_wp2
  all_goals go_ret
  all_goals exact ⟨ret_bool (by first | (simp [*]; done) | (simp [*]; omega)), rfl⟩
/-- The library's own variable holds some number. -/
def ML (w : World) : Prop := ∃ m : Int, w.cell? ⟨2, 0, none⟩ = some (.int .i64 m)
theorem ML.pos {w : World} (h : ML w) : 2 < w.heap.size := by
  obtain ⟨m, hm⟩ := h
  rcases Nat.lt_or_ge 2 w.heap.size with h0 | h0
  · exact h0
  · rw [World.cell?, Array.getElem?_eq_none h0] at hm; cases hm
theorem ML.below {B : Nat} {w w' : World} (h : ML w) (hB : 2 < B) (hb : Below B w w') : ML w' := by
  obtain ⟨m, hm⟩ := h
  exact ⟨m, (hb.cell (p := ⟨2, 0, none⟩) hB).trans hm⟩
theorem ML.alloc {w : World} (h : ML w) (o : Obj) : ML (w.alloc o) :=
  h.below h.pos ((Below.refl _ _).alloc (Nat.le_refl _) o)
theorem ML.drew {w : World} (h : ML w) : ML w.drew := h
theorem toList_nil_iff (s : ByteArray) : (s.toList = []) ↔ s.size = 0 := by
  rw [Lib.toList_data]; rw [← List.length_eq_zero_iff]; simp
theorem contains_res (t x : ByteArray) (l : Lx.Bytes) (w : World) (hm : ML w) (ht : t.data.toList = Lx.resText) (hx : x.data.toList = 32 :: (l ++ [32])) :
    Calls Tryz.prog 125 #[.string t, .string x] w fun e w' => e = .returned (.bool (Lib.contains Lx.resText (32 :: (l ++ [32])))) ∧ w = w' := by
  obtain ⟨m, hm⟩ := hm
  rw [← ht, ← hx]
  refine (Tryz.strings_Contains t x m w ?_ hm).mono ?_
  · have h1 : t.data.toList.length ≤ 400 := by rw [ht]; decide +kernel
    have h2 : t.data.toList.length = t.size := by simp
    omega
  · rintro e w' ⟨rfl, rfl⟩
    exact ⟨rfl, rfl⟩
/-- lexer.Reserved. -/
theorem reserved_any (s : ByteArray) (w : World) (hs : s.size ≤ 9000) (hm : ML w) :
    Calls Tryz.prog 122 #[.string s] w fun e w' => e = .returned (.bool (Lx.isRes s.data.toList)) ∧ w = w' := by
  by_cases h0 : s.toList = []
  · have e1 : Lx.isRes s.data.toList = false := by rw [← Lib.toList_data, h0]; rfl
    rw [e1]
    clear e1
    go_enter Tryz.func122, Tryz.ntmps122
    go_wp2
    go_ret
    exact ⟨rfl, rfl⟩
  · obtain ⟨r, hr⟩ : ∃ r, r = Lx.isRes s.data.toList := ⟨_, rfl⟩
    rw [← hr]
    have HR := Lib.hid hr
    clear hr
    by_cases h1 : decide (0 ≤ Lib.indexByte s.data.toList 32) = true
    · go_enter Tryz.func122, Tryz.ntmps122
      go_wp2_with fail
      refine (Tryz.strings_Contains_one _ _ _).mono ?_
      rintro e w' ⟨rfl, rfl⟩
      go_wp2_with fail
      go_ret
      exact ⟨ret_bool (by rw [HR.out]; simp [Lx.isRes, h1]), rfl⟩
    · have hne : s.data.toList.isEmpty = false := by rw [← Lib.toList_data]; simpa using h0
      have HN : Hid (s.data.toList.isEmpty = false) := hne
      clear hne
      have h1' : decide (0 ≤ Lib.indexByte s.data.toList 32) = false := by simpa using h1
      clear h1
      go_enter Tryz.func122, Tryz.ntmps122
      go_wp2_with fail
      refine (Tryz.strings_Contains_one _ _ _).mono ?_
      rintro e w' ⟨rfl, rfl⟩
      go_wp2_with fail
      refine (contains_res _ _ s.data.toList _ hm ?_ ?_).mono ?_
      · rfl
      · simp
      rintro e w' ⟨rfl, rfl⟩
      go_wp2_with fail
      go_ret
      exact ⟨ret_bool (by rw [HR.out]; unfold Lx.isRes; rw [Lib.toList_data, HN.out, h1']; rfl), rfl⟩
theorem len_at (s : ByteArray) : s.data.toList.length = s.size := by simp
theorem reserved_b (s : ByteArray) (b : Bool) (H : Hid (Lx.isRes s.data.toList = b)) (w : World) (hs : s.size ≤ 9000) (hm : ML w) :
    Calls Tryz.prog 122 #[.string s] w fun e w' => e = .returned (.bool b) ∧ w = w' := by
  have h : Lx.isRes s.data.toList = b := H
  rw [← h]; exact reserved_any s w hs hm
theorem isLetter_b (c : UInt8) (b : Bool) (H : Hid (Lx.isL c = b)) (w : World) :
    Calls Tryz.prog 123 #[.int .u8 (c.toNat : Int)] w fun e w' => e = .returned (.bool b) ∧ w = w' := by
  have h : Lx.isL c = b := H
  rw [← h]; exact isLetter_any c w
theorem isDigit_b (c : UInt8) (b : Bool) (H : Hid (Lx.isD c = b)) (w : World) :
    Calls Tryz.prog 124 #[.int .u8 (c.toNat : Int)] w fun e w' => e = .returned (.bool b) ∧ w = w' := by
  have h : Lx.isD c = b := H
  rw [← h]; exact isDigit_any c w
theorem bool_cases (b : Bool) : Hid (b = true) ∨ Hid (b = false) := by cases b; exact .inr rfl; exact .inl rfl
theorem isWordB_at (s : ByteArray) (h : 0 < s.size) : Lx.isWordB s.data.toList = (Lx.isL s[0] && s.data.toList.all Lx.alnum) := by
  have hd := drop_at s 0 h
  rw [List.drop_zero] at hd
  rw [hd]; rfl
theorem isWord_any (s : ByteArray) (w : World) (hs : s.size ≤ 9000) :
    Calls Tryz.prog 121 #[.string s] w fun e w' => e = .returned (.bool (Lx.isWordB s.data.toList)) ∧ w = w' := by
  obtain ⟨b, hb⟩ : ∃ b, b = Lx.isWordB s.data.toList := ⟨_, rfl⟩
  rw [← hb]
  have HB := Lib.hid hb
  clear hb
  go_enter Tryz.func121, Tryz.ntmps121
  go_wp2_with fail
  go_loop [6] (fun v => ∃ k : Nat, k ≤ s.size ∧ v = .int .i64 k ∧ Hid (s.data.toList.all Lx.alnum = (s.data.toList.drop k).all Lx.alnum) ∧ Hid (∀ h : 0 < k, ∀ h2 : 0 < s.size, Lx.isL s[0] = true)) (fun v => s.size - (intOf v).toNat)
  case atStart => exact ⟨0, by omega, rfl, rfl, fun h => absurd h (by omega)⟩
  case round =>
    obtain ⟨k, hk, rfl, H2, H3⟩ := hrel
    by_cases hlt : k < s.size
    · have HD : Hid (s.data.toList.drop k = s[k] :: s.data.toList.drop (k + 1)) := drop_at s k hlt
      rcases bool_cases (Lx.isL s[k]) with HL | HL
      · go_wp2_with (go_at_call 123; refine (isLetter_b _ _ HL _).mono ?_; rintro e w' ⟨rfl, rfl⟩)
        go_round
        case rel => exact ⟨k + 1, by omega, by go_num, by show _ = _; rw [H2.out, HD.out, List.all_cons, show Lx.alnum s[k] = true from by unfold Lx.alnum; rw [HL.out]; rfl, Bool.true_and], fun _ h2 => by
          rcases Nat.eq_zero_or_pos k with h | h
          · subst h; exact HL.out
          · exact H3.out h h2⟩
        case measure => simp [intOf]; omega
      · by_cases hk0 : k = 0
        · subst hk0
          have HX : Hid (b = false) := by
            show b = _
            rw [HB.out, isWordB_at s hlt, HL.out]; rfl
          go_wp2_with (go_at_call 123; refine (isLetter_b _ _ HL _).mono ?_; rintro e w' ⟨rfl, rfl⟩)
          go_ret
          exact ⟨ret_bool HX.out.symm, rfl⟩
        · have hk1 : ((k : Int) == 0) = false := by rw [beq_eq_false_iff_ne]; omega
          have H3' : Hid (∀ h2 : 0 < s.size, Lx.isL s[0] = true) := H3.out (by omega)
          clear H3 hk0
          rcases bool_cases (Lx.isD s[k]) with HE | HE
          · go_wp2_with (first | (go_at_call 123; refine (isLetter_b _ _ HL _).mono ?_; rintro e w' ⟨rfl, rfl⟩) | (go_at_call 124; refine (isDigit_b _ _ HE _).mono ?_; rintro e w' ⟨rfl, rfl⟩))
            go_round
            case rel => exact ⟨k + 1, by omega, by go_num, by show _ = _; rw [H2.out, HD.out, List.all_cons, show Lx.alnum s[k] = true from by unfold Lx.alnum; rw [HE.out]; simp, Bool.true_and], fun _ h2 => H3'.out h2⟩
            case measure => simp [intOf]; omega
          · have HX : Hid (b = false) := by
              show b = _
              rw [HB.out, isWordB_at s (by omega), H2.out, HD.out, List.all_cons, show Lx.alnum s[k] = false from by unfold Lx.alnum; rw [HE.out, HL.out]; rfl, Bool.false_and, Bool.and_false]
            go_wp2_with (first | (go_at_call 123; refine (isLetter_b _ _ HL _).mono ?_; rintro e w' ⟨rfl, rfl⟩) | (go_at_call 124; refine (isDigit_b _ _ HE _).mono ?_; rintro e w' ⟨rfl, rfl⟩))
            go_ret
            exact ⟨ret_bool HX.out.symm, rfl⟩
    · have he : k = s.size := by omega
      subst he
      by_cases h0 : s.size = 0
      · have hn : s.toList.isEmpty = true := by rw [List.isEmpty_iff, toList_nil_iff]; exact h0
        have HX : Hid (b = false) := by
          show b = _
          have : s.data.toList = [] := by rw [← List.length_eq_zero_iff, len_at]; exact h0
          rw [HB.out, this]; rfl
        clear h0
        go_wp2_with fail
        go_ret
        exact ⟨ret_bool (by rw [HX.out]), rfl⟩
      · have hn : s.toList.isEmpty = false := by
          rw [Bool.eq_false_iff]
          intro h
          rw [List.isEmpty_iff, toList_nil_iff] at h
          exact h0 h
        have HX : Hid (b = true) := by
          show b = _
          rw [HB.out, isWordB_at s (by omega), H3.out (by omega) (by omega), H2.out, drop_end s _ (Nat.le_refl _)]; rfl
        clear h0
        go_wp2_with fail
        go_ret
        exact ⟨ret_bool (by rw [HX.out]), rfl⟩
theorem isWord_b (s : ByteArray) (b : Bool) (H : Hid (Lx.isWordB s.data.toList = b)) (w : World) (hs : s.size ≤ 9000) :
    Calls Tryz.prog 121 #[.string s] w fun e w' => e = .returned (.bool b) ∧ w = w' := by
  have h : Lx.isWordB s.data.toList = b := H
  rw [← h]; exact isWord_any s w hs
theorem isName_b (s : ByteArray) (b : Bool) (H : Hid (Lx.isNameB s.data.toList = b)) (w : World) (hz : s.size ≤ maxLen) (hm : ML w) :
    Calls Tryz.prog 120 #[.string s] w fun e w' => e = .returned (.bool b) ∧ w = w' := by
  have H0 : Hid (b = (decide (s.size ≤ 12) && (Lx.isWordB s.data.toList && !Lx.isRes s.data.toList))) := by
    show b = _
    rw [← H.out]; unfold Lx.isNameB; rw [len_at]
  clear H
  unfold maxLen at hz
  by_cases h12 : s.size ≤ 12
  · have hs : s.size ≤ 9000 := by omega
    rcases bool_cases (Lx.isWordB s.data.toList) with HW | HW
    · rcases bool_cases (Lx.isRes s.data.toList) with HR | HR
      all_goals
        have HX := H0.out
        rw [HW.out, HR.out] at HX
        have HY : Hid (b = _) := HX
        clear HX H0
        go_enter Tryz.func120, Tryz.ntmps120
        go_wp2_with (first | (go_at_call 121; refine (isWord_b _ _ HW _ hs).mono ?_; rintro e w' ⟨rfl, rfl⟩) | (go_at_call 122; refine (reserved_b _ _ HR _ hs hm).mono ?_; rintro e w' ⟨rfl, rfl⟩))
        go_ret
        exact ⟨ret_bool (by rw [HY.out]; simp [h12]), rfl⟩
    · have HX := H0.out
      rw [HW.out] at HX
      have HY : Hid (b = _) := HX
      clear HX H0
      go_enter Tryz.func120, Tryz.ntmps120
      go_wp2_with (go_at_call 121; refine (isWord_b _ _ HW _ hs).mono ?_; rintro e w' ⟨rfl, rfl⟩)
      go_ret
      exact ⟨ret_bool (by rw [HY.out]; simp), rfl⟩
  · go_enter Tryz.func120, Tryz.ntmps120
    go_wp2_with fail
    go_ret
    exact ⟨ret_bool (by rw [H0.out]; simp [h12]), rfl⟩
theorem sname_b (s : ByteArray) (b : Bool) (H : Hid (Lx.isNameB s.data.toList = b)) (w : World) (hz : s.size ≤ maxLen) (hm : ML w) :
    Calls Tryz.prog 113 #[.string s] w fun e w' => e = .returned (.bool b) ∧ w = w' := by
  go_enter Tryz.func113, Tryz.ntmps113
  go_wp2_with fail
  refine (isName_b s b H _ hz hm).mono ?_
  rintro e w' ⟨rfl, rfl⟩
  go_wp2_with fail
  go_ret
  exact ⟨rfl, rfl⟩
end Go.Proofs.YthlhicegchkjjaaGreatDoor
