/-
  The walks over the lexer's and its reference's functions on words, numbers and signs.
-/
import Derived.Test.YthenhajgmbanjaaLxA
import Derived.Test.YthenhajgmbanjaaShelf
namespace Go.Proofs.Ythenhajgmbanjaa
open Go.RowKit

/-- The library's own variable holds some number. -/
def ML (w : World) : Prop := ∃ m : Int, w.cell? ⟨0, 0, none⟩ = some (.int .i64 m)
theorem ML.pos {w : World} (h : ML w) : 0 < w.heap.size := by
  obtain ⟨m, hm⟩ := h
  rcases Nat.eq_zero_or_pos w.heap.size with h0 | h0
  · rw [World.cell?, Array.getElem?_eq_none (by simp [h0])] at hm; simp at hm
  · exact h0
theorem ML.below {B : Nat} {w w' : World} (h : ML w) (hB : 0 < B) (hb : Below B w w') : ML w' := by
  obtain ⟨m, hm⟩ := h
  exact ⟨m, (hb.cell (p := ⟨0, 0, none⟩) hB).trans hm⟩
theorem ML.alloc {w : World} (h : ML w) (o : Obj) : ML (w.alloc o) :=
  h.below h.pos ((Below.refl _ _).alloc (Nat.le_refl _) o)
theorem ML.drew {w : World} (h : ML w) : ML w.drew := h

theorem toList_nil_iff (s : ByteArray) : (s.toList = []) ↔ s.size = 0 := by
  rw [Lib.toList_data]; rw [← List.length_eq_zero_iff]; simp

theorem contains_res (t x : ByteArray) (l : Lx.Bytes) (w : World) (hm : ML w) (ht : t.data.toList = Lx.resText) (hx : x.data.toList = 32 :: (l ++ [32])) :
    Calls Try.prog 26 #[.string t, .string x] w fun e w' => e = .returned (.bool (Lib.contains Lx.resText (32 :: (l ++ [32])))) ∧ w = w' := by
  obtain ⟨m, hm⟩ := hm
  rw [← ht, ← hx]
  refine (Try.strings_Contains t x m w ?_ hm).mono ?_
  · have h1 : t.data.toList.length ≤ 400 := by rw [ht]; decide +kernel
    have h2 : t.data.toList.length = t.size := by simp
    omega
  · rintro e w' ⟨rfl, rfl⟩
    exact ⟨rfl, rfl⟩

/-- lexer.Reserved. -/
theorem reserved_any (s : ByteArray) (w : World) (hs : s.size ≤ 9000) (hm : ML w) :
    Calls Try.prog 17 #[.string s] w fun e w' => e = .returned (.bool (Lx.isRes s.data.toList)) ∧ w = w' := by
  by_cases h0 : s.toList = []
  · have e1 : Lx.isRes s.data.toList = false := by rw [← Lib.toList_data, h0]; rfl
    rw [e1]
    clear e1
    go_enter Try.func17, Try.ntmps17
    go_wp2
    go_ret
    exact ⟨rfl, rfl⟩
  · obtain ⟨r, hr⟩ : ∃ r, r = Lx.isRes s.data.toList := ⟨_, rfl⟩
    rw [← hr]
    have HR := Lib.hid hr
    clear hr
    by_cases h1 : decide (0 ≤ Lib.indexByte s.data.toList 32) = true
    · go_enter Try.func17, Try.ntmps17
      go_wp2_with fail
      refine (Try.strings_Contains_one _ _ _).mono ?_
      rintro e w' ⟨rfl, rfl⟩
      go_wp2_with fail
      go_ret
      exact ⟨ret_bool (by rw [HR.out]; simp [Lx.isRes, h1]), rfl⟩
    · have hne : s.data.toList.isEmpty = false := by rw [← Lib.toList_data]; simpa using h0
      have HN : Hid (s.data.toList.isEmpty = false) := hne
      clear hne
      have h1' : decide (0 ≤ Lib.indexByte s.data.toList 32) = false := by simpa using h1
      clear h1
      go_enter Try.func17, Try.ntmps17
      go_wp2_with fail
      refine (Try.strings_Contains_one _ _ _).mono ?_
      rintro e w' ⟨rfl, rfl⟩
      go_wp2_with fail
      refine (contains_res _ _ s.data.toList _ hm ?_ ?_).mono ?_
      · rfl
      · simp
      rintro e w' ⟨rfl, rfl⟩
      go_wp2_with fail
      go_ret
      exact ⟨ret_bool (by rw [HR.out]; unfold Lx.isRes; rw [Lib.toList_data, HN.out, h1']; rfl), rfl⟩
theorem u8_inj {c : UInt8} (h : c.toNat = 48) : c = 48 := UInt8.toNat.inj h
theorem isD_range {c : UInt8} (h : Lx.isD c = true) : 48 ≤ c.toNat ∧ c.toNat ≤ 57 := by
  simpa [Lx.isD] using h
theorem head_at (s : ByteArray) (h : 0 < s.size) : s.data.toList.head? = some s[0] := by
  have := drop_at s 0 h
  rw [List.drop_zero] at this
  rw [this]; rfl
theorem len_at (s : ByteArray) : s.data.toList.length = s.size := by simp

/-- lexer.number. -/
theorem number_any (s : ByteArray) (w : World) (hs : s.size ≤ maxLen) (h0 : 0 < s.size) :
    Calls Try.prog 35 #[.string s] w fun e w' => e = .returned (.int .i64 (Lx.numCode s.data.toList : Int)) ∧ w = w' := by
  unfold maxLen at hs
  obtain ⟨r, hr⟩ : ∃ r, r = Lx.numCode s.data.toList := ⟨_, rfl⟩
  rw [← hr]
  have HR := Lib.hid hr
  clear hr
  go_enter Try.func35, Try.ntmps35
  go_wp2_with fail
  go_loop [3, 7] (fun u v => ∃ n k : Nat, k ≤ s.size ∧ n ≤ 1048577 ∧ u = .int .i64 n ∧ v = .int .i64 k ∧ Hid (Lx.val 0 s.data.toList = Lx.val n (s.data.toList.drop k)) ∧ Hid (s.data.toList.all Lx.isD = (s.data.toList.drop k).all Lx.isD)) (fun _ v => s.size - (intOf v).toNat)
  case atStart => exact ⟨0, 0, by omega, by omega, rfl, rfl, rfl, rfl⟩
  case round =>
    obtain ⟨n, k, hk, hn, rfl, rfl, H1, H2⟩ := hrel
    by_cases hlt : k < s.size
    · have HD : Hid (s.data.toList.drop k = s[k] :: s.data.toList.drop (k + 1)) := drop_at s k hlt
      by_cases hd : Lx.isD s[k] = true
      · obtain ⟨b1, b2⟩ := isD_range hd
        go_wp2_with (go_at_call 34; refine (isDigit_any _ _).mono ?_; rintro e w' ⟨rfl, rfl⟩)
        go_round
        case rel => exact ⟨Lx.satur (10 * n + (s[k].toNat - 48)), k + 1, by omega, Lx.satur_le _, by unfold Lx.satur; congr 1; (repeat' split) <;> omega, by go_num, by have := H1.out; rw [HD.out, Lx.val_cons] at this; exact this, by have := H2.out; rw [HD.out, List.all_cons, hd, Bool.true_and] at this; exact this⟩
        case measure => simp [intOf]; omega
      · have hd' : Lx.isD s[k] = false := by simpa using hd
        clear hd
        go_wp2_with (go_at_call 34; refine (isDigit_any _ _).mono ?_; rintro e w' ⟨rfl, rfl⟩)
        go_ret
        exact ⟨ret_int (by rw [HR.out]; unfold Lx.numCode; rw [H2.out, HD.out]; simp [hd']), rfl⟩
    · have he : k = s.size := by omega
      subst he
      rw [drop_end s _ (Nat.le_refl _)] at H1 H2
      have hv : Lx.val 0 s.data.toList = n := H1
      have ha : s.data.toList.all Lx.isD = true := H2
      have HF : Hid (r = if (s[0] == 48 && decide (1 < s.size)) = true then 6 else if 1048576 < n then 3 else 0) := by
        show r = _
        rw [HR.out]; unfold Lx.numCode
        rw [ha, head_at s h0, hv, len_at, if_pos rfl]; rfl
      clear H1 H2 hv ha HR
      have hlen : (decide ((s.size : Int) ≤ 1) = true) ∨ 1 < s.size := by
        by_cases h : 1 < s.size
        · exact .inr h
        · exact .inl (by simp; omega)
      by_cases hz : s[0] = 48
      · have hz1 : ((s[0].toNat : Int) == 48) = true := by rw [hz]; rfl
        have HZ : Hid (s[0] = 48) := hz
        clear hz
        by_cases h1 : 1 < s.size
        · go_wp2
          go_ret
          exact ⟨ret_int (by rw [HF.out, HZ.out]; simp [h1]), rfl⟩
        · by_cases h2 : 1048576 < n
          · go_wp2
            go_ret
            exact ⟨ret_int (by rw [HF.out]; simp [h1, h2]), rfl⟩
          · go_wp2
            go_ret
            exact ⟨ret_int (by rw [HF.out]; simp [h1, h2]), rfl⟩
      · have hz1 : ((s[0].toNat : Int) == 48) = false := by
          rw [beq_eq_false_iff_ne]; intro h; exact hz (u8_inj (by omega))
        have hz2 : (s[0] == 48) = false := by simp [hz]
        have HZ : Hid ((s[0] == 48) = false) := hz2
        clear hz hz2
        by_cases h2 : 1048576 < n
        · go_wp2
          go_ret
          exact ⟨ret_int (by rw [HF.out, HZ.out]; simp [h2]), rfl⟩
        · go_wp2
          go_ret
          exact ⟨ret_int (by rw [HF.out, HZ.out]; simp [h2]), rfl⟩

/-- keyholeref09.number. -/
theorem rnumber_any (s : ByteArray) (w : World) (hs : s.size ≤ maxLen) (h0 : 0 < s.size) :
    Calls Try.prog 38 #[.string s] w fun e w' => e = .returned (.int .i64 (Lx.numCode s.data.toList : Int)) ∧ w = w' := by
  unfold maxLen at hs
  obtain ⟨r, hr⟩ : ∃ r, r = Lx.numCode s.data.toList := ⟨_, rfl⟩
  rw [← hr]
  have HR := Lib.hid hr
  clear hr
  have H0 : Hid (∀ a : Bool, s.data.toList.all Lx.isD = a → (s[0] == 48 && decide (1 < s.size)) = true → r = 6) := by
    intro a ha hb
    rw [HR.out]; unfold Lx.numCode
    rw [head_at s h0, len_at]
    cases s.data.toList.all Lx.isD
    · rw [if_neg (by simp)]
    · rw [if_pos rfl, if_pos (by simpa using hb)]
  by_cases hb : (s[0] == 48 && decide (1 < s.size)) = true
  · have hr6 := H0.out _ rfl hb
    simp only [Bool.and_eq_true, beq_iff_eq, decide_eq_true_eq] at hb
    obtain ⟨hz, h1⟩ := hb
    have hz1 : ((s[0].toNat : Int) == 48) = true := by rw [hz]; rfl
    clear hz H0
    have H6 := Lib.hid hr6
    clear hr6
    go_enter Try.func38, Try.ntmps38
    go_wp2_with fail
    go_ret
    exact ⟨ret_int (by rw [H6.out]; rfl), rfl⟩
  · have HB : Hid ((s[0] == 48 && decide (1 < s.size)) = false) := Bool.eq_false_iff.2 hb
    clear H0
    have hc : 1 < s.size ∧ ((s[0].toNat : Int) == 48) = false ∨ ¬ 1 < s.size := by
      by_cases h1 : 1 < s.size
      · refine .inl ⟨h1, ?_⟩
        rw [beq_eq_false_iff_ne]; intro h
        exact hb (by rw [u8_inj (c := s[0]) (by omega)]; simp [h1])
      · exact .inr h1
    clear hb
    rcases hc with ⟨hc1, hc2⟩ | hc1
    all_goals
      go_enter Try.func38, Try.ntmps38
      go_wp2_with fail
      go_loop [4] (fun v => ∃ k : Nat, k ≤ s.size ∧ v = .int .i64 k ∧ Hid (s.data.toList.all Lx.isD = (s.data.toList.drop k).all Lx.isD)) (fun v => s.size - (intOf v).toNat)
      case atStart => exact ⟨0, by omega, rfl, rfl⟩
      case round =>
        obtain ⟨k, hk, rfl, H2⟩ := hrel
        by_cases hlt : k < s.size
        · have HD : Hid (s.data.toList.drop k = s[k] :: s.data.toList.drop (k + 1)) := drop_at s k hlt
          by_cases hd : Lx.isD s[k] = true
          · go_wp2_with (go_at_call 37; refine (digit_any _ _).mono ?_; rintro e w' ⟨rfl, rfl⟩)
            go_round
            case rel => exact ⟨k + 1, by omega, by go_num, by have := H2.out; rw [HD.out, List.all_cons, hd, Bool.true_and] at this; exact this⟩
            case measure => simp [intOf]; omega
          · have hd' : Lx.isD s[k] = false := by simpa using hd
            clear hd
            go_wp2_with (go_at_call 37; refine (digit_any _ _).mono ?_; rintro e w' ⟨rfl, rfl⟩)
            go_ret
            exact ⟨ret_int (by rw [HR.out]; unfold Lx.numCode; rw [H2.out, HD.out]; simp [hd']), rfl⟩
        · have he : k = s.size := by omega
          subst he
          have HA : Hid (s.data.toList.all Lx.isD = true) := by
            show _ = _
            rw [H2.out, drop_end s _ (Nat.le_refl _)]; rfl
          clear H2
          go_wp2_with fail
          go_loop [3, 5] (fun u v => ∃ n k : Nat, k ≤ s.size ∧ n ≤ 1048576 ∧ u = .int .i64 n ∧ v = .int .i64 k ∧ Hid (Lx.val 0 s.data.toList = Lx.val n (s.data.toList.drop k))) (fun _ v => s.size - (intOf v).toNat)
          case atStart => exact ⟨0, 0, by omega, by omega, rfl, rfl, rfl⟩
          case round =>
            obtain ⟨n, k, hk, hn, rfl, rfl, H1⟩ := hrel
            by_cases hlt : k < s.size
            · have HD : Hid (s.data.toList.drop k = s[k] :: s.data.toList.drop (k + 1)) := drop_at s k hlt
              have hd : Lx.isD s[k] = true := by
                have := HA.out
                rw [List.all_eq_true] at this
                exact this _ (List.mem_of_mem_drop (i := k) (by rw [HD.out]; simp))
              obtain ⟨b1, b2⟩ := isD_range hd
              clear hd
              by_cases hbig : 1048576 < n * 10 + (s[k].toNat - 48)
              · go_wp2_with fail
                go_ret
                exact ⟨ret_int (by
                  have hv : 1048576 < Lx.val 0 s.data.toList := by
                    rw [H1.out, HD.out, Lx.val_cons]; exact Lx.val_big _ _ (by rw [Lx.satur_big (by omega)]; omega)
                  rw [HR.out]; unfold Lx.numCode
                  rw [HA.out, head_at s h0, len_at, if_pos rfl, if_neg (by have := HB.out; simpa using this), if_pos hv]; rfl), rfl⟩
              · go_wp2_with fail
                go_round
                case rel => exact ⟨n * 10 + (s[k].toNat - 48), k + 1, by omega, by omega, by congr 1; omega, by go_num, by have := H1.out; rw [HD.out, Lx.val_cons, Lx.satur_id (by omega), Nat.mul_comm 10 n] at this; exact this⟩
                case measure => simp [intOf]; omega
            · have he : k = s.size := by omega
              subst he
              go_wp2_with fail
              go_ret
              exact ⟨ret_int (by
                have hv : Lx.val 0 s.data.toList = n := by
                  rw [H1.out, drop_end s _ (Nat.le_refl _)]; rfl
                rw [HR.out]; unfold Lx.numCode
                rw [HA.out, head_at s h0, len_at, if_pos rfl, if_neg (by have := HB.out; simpa using this), hv, if_neg (by omega)]; rfl), rfl⟩
end Go.Proofs.Ythenhajgmbanjaa
