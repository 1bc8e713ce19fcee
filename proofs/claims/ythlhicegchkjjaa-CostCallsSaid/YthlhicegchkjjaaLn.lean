/-
  Names: the lexer's and its reference's functions on words, walked at this translation.
-/
import Derived.Test.YthlhicegchkjjaaEtA
import Derived.Test.YthlhicegchkjjaaLx
import Derived.Test.YthlhicegchkjjaaShelf
import Derived.Lib.IndexAny
import Derived.Lib.IndexLaws
namespace Go.Proofs.Ythlhicegchkjjaa
open Go.RowKit

theorem drop_at (s : ByteArray) (k : Nat) (h : k < s.size) : s.data.toList.drop k = s[k] :: s.data.toList.drop (k + 1) := by
  rw [List.drop_eq_getElem_cons (by simpa using h)]; rfl
theorem drop_end (s : ByteArray) (k : Nat) (h : s.size ≤ k) : s.data.toList.drop k = [] := List.drop_of_length_le (by simpa using h)
theorem isL_def (c : UInt8) : Lx.isL c = (decide (97 ≤ (c.toNat : Int)) && decide ((c.toNat : Int) ≤ 122)) := by
  unfold Lx.isL; congr 2 <;> (apply propext; omega)
theorem isD_def (c : UInt8) : Lx.isD c = (decide (48 ≤ (c.toNat : Int)) && decide ((c.toNat : Int) ≤ 57)) := by
  unfold Lx.isD; congr 2 <;> (apply propext; omega)
theorem wlen_yes {c : UInt8} {l : Lx.Bytes} (h : Lx.alnum c = true) : Lx.wlen (c :: l) = Lx.wlen l + 1 := by simp [Lx.wlen, h]
theorem wlen_no {c : UInt8} {l : Lx.Bytes} (h : Lx.alnum c = false) : Lx.wlen (c :: l) = 0 := by simp [Lx.wlen, h]
theorem isLetter_any (c : UInt8) (w : World) :
    Calls Try.prog 90 #[.int .u8 (c.toNat : Int)] w fun e w' => e = .returned (.bool (Lx.isL c)) ∧ w = w' := by
  rw [isL_def]
  go_enter Try.func90, Try.ntmps90
  go_wp2
  all_goals go_ret
  all_goals exact ⟨ret_bool (by first | (simp [*]; done) | (simp [*]; omega)), rfl⟩
theorem isDigit_any (c : UInt8) (w : World) :
    Calls Try.prog 91 #[.int .u8 (c.toNat : Int)] w fun e w' => e = .returned (.bool (Lx.isD c)) ∧ w = w' := by
  rw [isD_def]
  go_enter Try.func91, Try.ntmps91
  go_wp2
  all_goals go_ret
  all_goals exact ⟨ret_bool (by first | (simp [*]; done) | (simp [*]; omega)), rfl⟩
theorem letter_any (c : UInt8) (w : World) :
    Calls Try.prog 84 #[.int .u8 (c.toNat : Int)] w fun e w' => e = .returned (.bool (Lx.isL c)) ∧ w = w' := by
  rw [isL_def]
  go_enter Try.func84, Try.ntmps84
  go_wp2
  all_goals go_ret
  all_goals exact ⟨ret_bool (by first | (simp [*]; done) | (simp [*]; omega)), rfl⟩
theorem digit_any (c : UInt8) (w : World) :
    Calls Try.prog 89 #[.int .u8 (c.toNat : Int)] w fun e w' => e = .returned (.bool (Lx.isD c)) ∧ w = w' := by
  rw [isD_def]
  go_enter Try.func89, Try.ntmps89
  go_wp2
  all_goals go_ret
  all_goals exact ⟨ret_bool (by first | (simp [*]; done) | (simp [*]; omega)), rfl⟩
theorem rrun_any (s : ByteArray) (i : Nat) (w : World) (hs : s.size ≤ maxLen) (hi : i ≤ s.size) :
    Calls Try.prog 86 #[.string s, .int .i64 i] w fun e w' => e = .returned (.int .i64 ((i + Lx.wlen (s.data.toList.drop i) : Nat) : Int)) ∧ w = w' := by
  unfold maxLen at hs
  obtain ⟨n, hn⟩ : ∃ n, n = i + Lx.wlen (s.data.toList.drop i) := ⟨_, rfl⟩
  rw [← hn]
  have HN := Lib.hid hn
  clear hn
  go_enter Try.func86, Try.ntmps86
  go_wp2
  go_loop [1] (fun v => ∃ k : Nat, k ≤ s.size ∧ v = .int .i64 k ∧ Hid (n = k + Lx.wlen (s.data.toList.drop k))) (fun v => s.size - (intOf v).toNat)
  case atStart => exact ⟨i, hi, rfl, HN⟩
  case round =>
    obtain ⟨k, hk, rfl, H⟩ := hrel
    clear HN
    by_cases hlt : k < s.size
    · have H1 : Hid (s.data.toList.drop k = s[k] :: s.data.toList.drop (k + 1)) := drop_at s k hlt
      by_cases hl : Lx.isL s[k] = true
      · go_wp2_with (first | (go_at_call 84; refine (letter_any _ _).mono ?_; rintro e w' ⟨rfl, rfl⟩) | (go_at_call 89; refine (digit_any _ _).mono ?_; rintro e w' ⟨rfl, rfl⟩))
        go_round
        case rel => exact ⟨k + 1, by omega, by go_num, by have := H.out; rw [H1.out, wlen_yes (by simp [Lx.alnum, hl])] at this; show n = _; omega⟩
        case measure => simp [intOf]; omega
      · have hl' : Lx.isL s[k] = false := by simpa using hl
        clear hl
        by_cases hd : Lx.isD s[k] = true
        · go_wp2_with (first | (go_at_call 84; refine (letter_any _ _).mono ?_; rintro e w' ⟨rfl, rfl⟩) | (go_at_call 89; refine (digit_any _ _).mono ?_; rintro e w' ⟨rfl, rfl⟩))
          go_round
          case rel => exact ⟨k + 1, by omega, by go_num, by have := H.out; rw [H1.out, wlen_yes (by simp [Lx.alnum, hd])] at this; show n = _; omega⟩
          case measure => simp [intOf]; omega
        · have hd' : Lx.isD s[k] = false := by simpa using hd
          clear hd
          go_wp2_with (first | (go_at_call 84; refine (letter_any _ _).mono ?_; rintro e w' ⟨rfl, rfl⟩) | (go_at_call 89; refine (digit_any _ _).mono ?_; rintro e w' ⟨rfl, rfl⟩))
          go_ret
          exact ⟨ret_int (by have := H.out; rw [H1.out, wlen_no (by simp [Lx.alnum, hl', hd'])] at this; omega), rfl⟩
    · go_wp2
      go_ret
      exact ⟨ret_int (by have := H.out; rw [drop_end s k (by omega)] at this; simp [Lx.wlen] at this; omega), rfl⟩
/-- The library's own variable holds some number. -/
def ML (w : World) : Prop := ∃ m : Int, w.cell? ⟨0, 0, none⟩ = some (.int .i64 m)
theorem ML.pos {w : World} (h : ML w) : 0 < w.heap.size := by
  obtain ⟨m, hm⟩ := h
  rcases Nat.eq_zero_or_pos w.heap.size with h0 | h0
  · rw [World.cell?, Array.getElem?_eq_none (by simp [h0])] at hm; simp at hm
  · exact h0
theorem ML.below {B : Nat} {w w' : World} (h : ML w) (hB : 0 < B) (hb : Below B w w') : ML w' := by
  obtain ⟨m, hm⟩ := h
  exact ⟨m, (hb.cell (p := ⟨0, 0, none⟩) hB).trans hm⟩
theorem ML.alloc {w : World} (h : ML w) (o : Obj) : ML (w.alloc o) :=
  h.below h.pos ((Below.refl _ _).alloc (Nat.le_refl _) o)
theorem ML.drew {w : World} (h : ML w) : ML w.drew := h
theorem toList_nil_iff (s : ByteArray) : (s.toList = []) ↔ s.size = 0 := by
  rw [Lib.toList_data]; rw [← List.length_eq_zero_iff]; simp
theorem contains_res (t x : ByteArray) (l : Lx.Bytes) (w : World) (hm : ML w) (ht : t.data.toList = Lx.resText) (hx : x.data.toList = 32 :: (l ++ [32])) :
    Calls Try.prog 92 #[.string t, .string x] w fun e w' => e = .returned (.bool (Lib.contains Lx.resText (32 :: (l ++ [32])))) ∧ w = w' := by
  obtain ⟨m, hm⟩ := hm
  rw [← ht, ← hx]
  refine (Try.strings_Contains t x m w ?_ hm).mono ?_
  · have h1 : t.data.toList.length ≤ 400 := by rw [ht]; decide +kernel
    have h2 : t.data.toList.length = t.size := by simp
    omega
  · rintro e w' ⟨rfl, rfl⟩
    exact ⟨rfl, rfl⟩
/-- lexer.Reserved. -/
theorem reserved_any (s : ByteArray) (w : World) (hs : s.size ≤ 9000) (hm : ML w) :
    Calls Try.prog 88 #[.string s] w fun e w' => e = .returned (.bool (Lx.isRes s.data.toList)) ∧ w = w' := by
  by_cases h0 : s.toList = []
  · have e1 : Lx.isRes s.data.toList = false := by rw [← Lib.toList_data, h0]; rfl
    rw [e1]
    clear e1
    go_enter Try.func88, Try.ntmps88
    go_wp2
    go_ret
    exact ⟨rfl, rfl⟩
  · obtain ⟨r, hr⟩ : ∃ r, r = Lx.isRes s.data.toList := ⟨_, rfl⟩
    rw [← hr]
    have HR := Lib.hid hr
    clear hr
    by_cases h1 : decide (0 ≤ Lib.indexByte s.data.toList 32) = true
    · go_enter Try.func88, Try.ntmps88
      go_wp2_with fail
      refine (Try.strings_Contains_one _ _ _).mono ?_
      rintro e w' ⟨rfl, rfl⟩
      go_wp2_with fail
      go_ret
      exact ⟨ret_bool (by rw [HR.out]; simp [Lx.isRes, h1]), rfl⟩
    · have hne : s.data.toList.isEmpty = false := by rw [← Lib.toList_data]; simpa using h0
      have HN : Hid (s.data.toList.isEmpty = false) := hne
      clear hne
      have h1' : decide (0 ≤ Lib.indexByte s.data.toList 32) = false := by simpa using h1
      clear h1
      go_enter Try.func88, Try.ntmps88
      go_wp2_with fail
      refine (Try.strings_Contains_one _ _ _).mono ?_
      rintro e w' ⟨rfl, rfl⟩
      go_wp2_with fail
      refine (contains_res _ _ s.data.toList _ hm ?_ ?_).mono ?_
      · rfl
      · simp
      rintro e w' ⟨rfl, rfl⟩
      go_wp2_with fail
      go_ret
      exact ⟨ret_bool (by rw [HR.out]; unfold Lx.isRes; rw [Lib.toList_data, HN.out, h1']; rfl), rfl⟩
theorem u8_inj {c : UInt8} (h : c.toNat = 48) : c = 48 := UInt8.toNat.inj h
theorem isD_range {c : UInt8} (h : Lx.isD c = true) : 48 ≤ c.toNat ∧ c.toNat ≤ 57 := by
  simpa [Lx.isD] using h
theorem head_at (s : ByteArray) (h : 0 < s.size) : s.data.toList.head? = some s[0] := by
  have := drop_at s 0 h
  rw [List.drop_zero] at this
  rw [this]; rfl
theorem len_at (s : ByteArray) : s.data.toList.length = s.size := by simp
theorem noSpace_of (w : Lx.Bytes) (h : w.all Lx.isL = true) : decide (0 ≤ Lib.indexByte w 32) = false := by
  rw [← Lib.contains_iff_indexByte, Bool.eq_false_iff]
  intro hc
  rw [List.contains_iff_mem] at hc
  rw [List.all_eq_true] at h
  exact absurd (h _ hc) (by decide)
theorem resText_chars : ∀ c ∈ Lx.resText, Lx.isL c = true ∨ c = 32 := by decide +kernel
theorem isRes_letters (w : Lx.Bytes) (h : Lx.isRes w = true) : w.all Lx.isL = true := by
  unfold Lx.isRes at h
  simp only [Bool.and_eq_true, Bool.not_eq_true'] at h
  obtain ⟨_, h1, h2⟩ := h
  rw [← Lib.contains_iff_indexByte] at h1
  rw [List.all_eq_true]
  intro c hc
  have hne : c ≠ 32 := by
    rintro rfl
    rw [Bool.eq_false_iff] at h1
    exact h1 (List.contains_iff_mem.2 hc)
  have hm : c ∈ Lx.resText := by
    unfold Lib.contains at h2
    rcases Lib.index_spec Lx.resText (32 :: (w ++ [32])) with ⟨hx, _⟩ | ⟨i, _, _, ho, _⟩
    · rw [hx] at h2; simp at h2
    · unfold Lib.occAt at ho
      rw [List.isPrefixOf_iff_prefix] at ho
      obtain ⟨t, ht⟩ := ho
      have : c ∈ Lx.resText.drop i := by rw [← ht]; simp [hc]
      exact List.mem_of_mem_drop this
  exact (resText_chars c hm).resolve_right hne
theorem resText_len : Lx.resText.length = 162 := by decide +kernel
/-- No instance begins below i. -/
def NoRes (w : Lx.Bytes) (i : Nat) : Prop := Lib.NoOcc Lx.resText (32 :: (w ++ [32])) i
theorem res_hit (w : Lx.Bytes) (i : Nat) (hn : NoRes w i) (hi : i + w.length + 2 ≤ 162) (h : ((Lx.resText.drop i).take (w.length + 2) == 32 :: (w ++ [32])) = true) : Lib.contains Lx.resText (32 :: (w ++ [32])) = true := by
  have e : (32 :: (w ++ [32])).length = w.length + 2 := by simp
  unfold Lib.contains
  rw [Lib.index_hit hn (by rw [resText_len]; omega) (by rw [Lib.occAt_iff_take _ _ _ (by rw [e, resText_len]; omega), e]; exact h)]
  simp
theorem res_miss (w : Lx.Bytes) (i : Nat) (hn : NoRes w i) (hi : i + w.length + 2 ≤ 162) (h : ((Lx.resText.drop i).take (w.length + 2) == 32 :: (w ++ [32])) = false) : NoRes w (i + 1) := by
  have e : (32 :: (w ++ [32])).length = w.length + 2 := by simp
  refine Lib.NoOcc.succ hn ?_
  rw [Lib.occAt_iff_take _ _ _ (by rw [e, resText_len]; omega), e]; exact h
theorem res_past (w : Lx.Bytes) (i : Nat) (hn : NoRes w i) (hi : 162 < i + w.length + 2) : Lib.contains Lx.resText (32 :: (w ++ [32])) = false := by
  have e : (32 :: (w ++ [32])).length = w.length + 2 := by simp
  unfold Lib.contains
  rw [Lib.index_past (by simp) hn (by rw [e, resText_len]; omega)]
  decide
theorem res_test (t : ByteArray) (ht : t.data.toList = Lx.resText) (s : ByteArray) (k : Nat) :
    ((t.extract k (k + s.size + 2)).toList == (⟨#[32]⟩ ++ s ++ ⟨#[32]⟩ : ByteArray).toList) = ((Lx.resText.drop k).take (s.data.toList.length + 2) == 32 :: (s.data.toList ++ [32])) := by
  rw [Lib.extract_toList, ht, len_at, Lib.toList_data]
  have e1 : k + s.size + 2 - k = s.size + 2 := by omega
  have e2 : (⟨#[32]⟩ ++ s ++ ⟨#[32]⟩ : ByteArray).data.toList = 32 :: (s.data.toList ++ [32]) := by simp
  rw [e1, e2]
set_option maxRecDepth 100000 in
/-- keyholeref09.Reserved. -/
theorem rreserved_any (s : ByteArray) (w : World) (hs : s.size ≤ 9000) :
    Calls Try.prog 85 #[.string s] w fun e w' => e = .returned (.bool (Lx.isRes s.data.toList)) ∧ w = w' := by
  obtain ⟨r, hr⟩ : ∃ r, r = Lx.isRes s.data.toList := ⟨_, rfl⟩
  rw [← hr]
  have HR := Lib.hid hr
  clear hr
  by_cases h0 : s.size = 0
  · have h1 : ((s.size : Int) == 0) = true := by rw [h0]; rfl
    have hz : s.data.toList = [] := by rw [← List.length_eq_zero_iff, len_at]; exact h0
    have hr : r = false := by rw [HR.out, hz]; rfl
    subst hr
    clear HR hz h0
    go_enter Try.func85, Try.ntmps85
    go_wp2_with fail
    go_ret
    exact ⟨rfl, rfl⟩
  · have h1 : ((s.size : Int) == 0) = false := by rw [beq_eq_false_iff_ne]; omega
    have hne : Hid (s.data.toList.isEmpty = false) := by
      show _ = _
      rw [List.isEmpty_eq_false_iff]
      intro h; exact h0 (by rw [← len_at, h]; rfl)
    clear h0
    go_enter Try.func85, Try.ntmps85
    go_wp2_with fail
    go_loop [3] (fun v => ∃ k : Nat, k ≤ s.size ∧ v = .int .i64 k ∧ Hid (s.data.toList.all Lx.isL = (s.data.toList.drop k).all Lx.isL)) (fun v => s.size - (intOf v).toNat)
    case atStart => exact ⟨0, by omega, rfl, rfl⟩
    case round =>
      obtain ⟨k, hk, rfl, H2⟩ := hrel
      by_cases hlt : k < s.size
      · have HD : Hid (s.data.toList.drop k = s[k] :: s.data.toList.drop (k + 1)) := drop_at s k hlt
        by_cases hd : Lx.isL s[k] = true
        · go_wp2_with (go_at_call 84; refine (letter_any _ _).mono ?_; rintro e w' ⟨rfl, rfl⟩)
          go_round
          case rel => exact ⟨k + 1, by omega, by go_num, by have := H2.out; rw [HD.out, List.all_cons, hd, Bool.true_and] at this; exact this⟩
          case measure => simp [intOf]; omega
        · have hd' : Lx.isL s[k] = false := by simpa using hd
          clear hd
          go_wp2_with (go_at_call 84; refine (letter_any _ _).mono ?_; rintro e w' ⟨rfl, rfl⟩)
          go_ret
          exact ⟨ret_bool (by
            rw [HR.out]
            refine (Bool.eq_false_iff.2 fun h => ?_).symm
            have := isRes_letters _ h
            rw [H2.out, HD.out, List.all_cons, hd'] at this
            simp at this), rfl⟩
      · have he : k = s.size := by omega
        subst he
        have HA : Hid (s.data.toList.all Lx.isL = true) := by
          show _ = _
          rw [H2.out, drop_end s _ (Nat.le_refl _)]; rfl
        clear H2
        have HC : Hid (r = Lib.contains Lx.resText (32 :: (s.data.toList ++ [32]))) := by
          show _ = _
          rw [HR.out]; unfold Lx.isRes
          rw [noSpace_of _ HA.out, hne.out]; rfl
        clear HR HA
        go_wp2_with fail
        go_loop [4] (fun v => ∃ k : Nat, k ≤ 162 ∧ v = .int .i64 k ∧ Hid (NoRes s.data.toList k)) (fun v => 163 - (intOf v).toNat)
        case atStart => exact ⟨0, by omega, rfl, Lib.NoOcc.zero _ _⟩
        case round =>
          obtain ⟨k, hk, rfl, H⟩ := hrel
          by_cases hlt : k + s.size + 2 ≤ 162
          · go_wp2_with fail
            · obtain ⟨t, ht, hx⟩ : ∃ t : ByteArray, t.data.toList = Lx.resText ∧ ((t.extract k (k + s.size + 2)).toList == (⟨#[32]⟩ ++ s ++ ⟨#[32]⟩ : ByteArray).toList) = true := by
                refine ⟨_, ?_, by assumption⟩
                rfl
              rw [res_test t ht] at hx
              go_ret
              exact ⟨ret_bool (by rw [HC.out]; exact (res_hit _ k H.out (by rw [len_at]; omega) hx).symm), rfl⟩
            · obtain ⟨t, ht, hx⟩ : ∃ t : ByteArray, t.data.toList = Lx.resText ∧ ((t.extract k (k + s.size + 2)).toList == (⟨#[32]⟩ ++ s ++ ⟨#[32]⟩ : ByteArray).toList) = false := by
                refine ⟨_, ?_, by assumption⟩
                rfl
              rw [res_test t ht] at hx
              have H' : Hid (NoRes s.data.toList (k + 1)) := res_miss _ k H.out (by rw [len_at]; omega) hx
              clear hx ht
              go_round
              case rel => exact ⟨k + 1, by omega, by go_num, H'⟩
              case measure => simp [intOf]; omega
          · go_wp2_with fail
            go_ret
            exact ⟨ret_bool (by rw [HC.out]; exact (res_past _ k H.out (by rw [len_at]; omega)).symm), rfl⟩
theorem rrun_n (s : ByteArray) (i n : Nat) (HN : Hid (n = i + Lx.wlen (s.data.toList.drop i))) (w : World) (hs : s.size ≤ 9000) (hi : i ≤ s.size) :
    Calls Try.prog 86 #[.string s, .int .i64 i] w fun e w' => e = .returned (.int .i64 n) ∧ w = w' := by
  have h : n = i + Lx.wlen (s.data.toList.drop i) := HN
  rw [h]
  exact rrun_any s i w (by unfold maxLen; omega) hi
theorem reserved_b (s : ByteArray) (b : Bool) (H : Hid (Lx.isRes s.data.toList = b)) (w : World) (hs : s.size ≤ 9000) (hm : ML w) :
    Calls Try.prog 88 #[.string s] w fun e w' => e = .returned (.bool b) ∧ w = w' := by
  have h : Lx.isRes s.data.toList = b := H
  rw [← h]; exact reserved_any s w hs hm
theorem rreserved_b (s : ByteArray) (b : Bool) (H : Hid (Lx.isRes s.data.toList = b)) (w : World) (hs : s.size ≤ 9000) :
    Calls Try.prog 85 #[.string s] w fun e w' => e = .returned (.bool b) ∧ w = w' := by
  have h : Lx.isRes s.data.toList = b := H
  rw [← h]; exact rreserved_any s w hs
theorem isLetter_b (c : UInt8) (b : Bool) (H : Hid (Lx.isL c = b)) (w : World) :
    Calls Try.prog 90 #[.int .u8 (c.toNat : Int)] w fun e w' => e = .returned (.bool b) ∧ w = w' := by
  have h : Lx.isL c = b := H
  rw [← h]; exact isLetter_any c w
theorem isDigit_b (c : UInt8) (b : Bool) (H : Hid (Lx.isD c = b)) (w : World) :
    Calls Try.prog 91 #[.int .u8 (c.toNat : Int)] w fun e w' => e = .returned (.bool b) ∧ w = w' := by
  have h : Lx.isD c = b := H
  rw [← h]; exact isDigit_any c w
theorem letter_b (c : UInt8) (b : Bool) (H : Hid (Lx.isL c = b)) (w : World) :
    Calls Try.prog 84 #[.int .u8 (c.toNat : Int)] w fun e w' => e = .returned (.bool b) ∧ w = w' := by
  have h : Lx.isL c = b := H
  rw [← h]; exact letter_any c w
theorem digit_b (c : UInt8) (b : Bool) (H : Hid (Lx.isD c = b)) (w : World) :
    Calls Try.prog 89 #[.int .u8 (c.toNat : Int)] w fun e w' => e = .returned (.bool b) ∧ w = w' := by
  have h : Lx.isD c = b := H
  rw [← h]; exact digit_any c w
theorem bool_cases (b : Bool) : Hid (b = true) ∨ Hid (b = false) := by cases b; exact .inr rfl; exact .inl rfl
theorem isWordB_at (s : ByteArray) (h : 0 < s.size) : Lx.isWordB s.data.toList = (Lx.isL s[0] && s.data.toList.all Lx.alnum) := by
  have hd := drop_at s 0 h
  rw [List.drop_zero] at hd
  rw [hd]; rfl
theorem isWord_any (s : ByteArray) (w : World) (hs : s.size ≤ 9000) :
    Calls Try.prog 87 #[.string s] w fun e w' => e = .returned (.bool (Lx.isWordB s.data.toList)) ∧ w = w' := by
  obtain ⟨b, hb⟩ : ∃ b, b = Lx.isWordB s.data.toList := ⟨_, rfl⟩
  rw [← hb]
  have HB := Lib.hid hb
  clear hb
  go_enter Try.func87, Try.ntmps87
  go_wp2_with fail
  go_loop [6] (fun v => ∃ k : Nat, k ≤ s.size ∧ v = .int .i64 k ∧ Hid (s.data.toList.all Lx.alnum = (s.data.toList.drop k).all Lx.alnum) ∧ Hid (∀ h : 0 < k, ∀ h2 : 0 < s.size, Lx.isL s[0] = true)) (fun v => s.size - (intOf v).toNat)
  case atStart => exact ⟨0, by omega, rfl, rfl, fun h => absurd h (by omega)⟩
  case round =>
    obtain ⟨k, hk, rfl, H2, H3⟩ := hrel
    by_cases hlt : k < s.size
    · have HD : Hid (s.data.toList.drop k = s[k] :: s.data.toList.drop (k + 1)) := drop_at s k hlt
      rcases bool_cases (Lx.isL s[k]) with HL | HL
      · go_wp2_with (go_at_call 90; refine (isLetter_b _ _ HL _).mono ?_; rintro e w' ⟨rfl, rfl⟩)
        go_round
        case rel => exact ⟨k + 1, by omega, by go_num, by show _ = _; rw [H2.out, HD.out, List.all_cons, show Lx.alnum s[k] = true from by unfold Lx.alnum; rw [HL.out]; rfl, Bool.true_and], fun _ h2 => by
          rcases Nat.eq_zero_or_pos k with h | h
          · subst h; exact HL.out
          · exact H3.out h h2⟩
        case measure => simp [intOf]; omega
      · by_cases hk0 : k = 0
        · subst hk0
          have HX : Hid (b = false) := by
            show b = _
            rw [HB.out, isWordB_at s hlt, HL.out]; rfl
          go_wp2_with (go_at_call 90; refine (isLetter_b _ _ HL _).mono ?_; rintro e w' ⟨rfl, rfl⟩)
          go_ret
          exact ⟨ret_bool HX.out.symm, rfl⟩
        · have hk1 : ((k : Int) == 0) = false := by rw [beq_eq_false_iff_ne]; omega
          have H3' : Hid (∀ h2 : 0 < s.size, Lx.isL s[0] = true) := H3.out (by omega)
          clear H3 hk0
          rcases bool_cases (Lx.isD s[k]) with HE | HE
          · go_wp2_with (first | (go_at_call 90; refine (isLetter_b _ _ HL _).mono ?_; rintro e w' ⟨rfl, rfl⟩) | (go_at_call 91; refine (isDigit_b _ _ HE _).mono ?_; rintro e w' ⟨rfl, rfl⟩))
            go_round
            case rel => exact ⟨k + 1, by omega, by go_num, by show _ = _; rw [H2.out, HD.out, List.all_cons, show Lx.alnum s[k] = true from by unfold Lx.alnum; rw [HE.out]; simp, Bool.true_and], fun _ h2 => H3'.out h2⟩
            case measure => simp [intOf]; omega
          · have HX : Hid (b = false) := by
              show b = _
              rw [HB.out, isWordB_at s (by omega), H2.out, HD.out, List.all_cons, show Lx.alnum s[k] = false from by unfold Lx.alnum; rw [HE.out, HL.out]; rfl, Bool.false_and, Bool.and_false]
            go_wp2_with (first | (go_at_call 90; refine (isLetter_b _ _ HL _).mono ?_; rintro e w' ⟨rfl, rfl⟩) | (go_at_call 91; refine (isDigit_b _ _ HE _).mono ?_; rintro e w' ⟨rfl, rfl⟩))
            go_ret
            exact ⟨ret_bool HX.out.symm, rfl⟩
    · have he : k = s.size := by omega
      subst he
      by_cases h0 : s.size = 0
      · have hn : s.toList.isEmpty = true := by rw [List.isEmpty_iff, toList_nil_iff]; exact h0
        have HX : Hid (b = false) := by
          show b = _
          have : s.data.toList = [] := by rw [← List.length_eq_zero_iff, len_at]; exact h0
          rw [HB.out, this]; rfl
        clear h0
        go_wp2_with fail
        go_ret
        exact ⟨ret_bool (by rw [HX.out]), rfl⟩
      · have hn : s.toList.isEmpty = false := by
          rw [Bool.eq_false_iff]
          intro h
          rw [List.isEmpty_iff, toList_nil_iff] at h
          exact h0 h
        have HX : Hid (b = true) := by
          show b = _
          rw [HB.out, isWordB_at s (by omega), H3.out (by omega) (by omega), H2.out, drop_end s _ (Nat.le_refl _)]; rfl
        clear h0
        go_wp2_with fail
        go_ret
        exact ⟨ret_bool (by rw [HX.out]), rfl⟩
theorem isWord_b (s : ByteArray) (b : Bool) (H : Hid (Lx.isWordB s.data.toList = b)) (w : World) (hs : s.size ≤ 9000) :
    Calls Try.prog 87 #[.string s] w fun e w' => e = .returned (.bool b) ∧ w = w' := by
  have h : Lx.isWordB s.data.toList = b := H
  rw [← h]; exact isWord_any s w hs
theorem isName_b (s : ByteArray) (b : Bool) (H : Hid (Lx.isNameB s.data.toList = b)) (w : World) (hz : s.size ≤ maxLen) (hm : ML w) :
    Calls Try.prog 83 #[.string s] w fun e w' => e = .returned (.bool b) ∧ w = w' := by
  have H0 : Hid (b = (decide (s.size ≤ 12) && (Lx.isWordB s.data.toList && !Lx.isRes s.data.toList))) := by
    show b = _
    rw [← H.out]; unfold Lx.isNameB; rw [len_at]
  clear H
  unfold maxLen at hz
  by_cases h12 : s.size ≤ 12
  · have hs : s.size ≤ 9000 := by omega
    rcases bool_cases (Lx.isWordB s.data.toList) with HW | HW
    · rcases bool_cases (Lx.isRes s.data.toList) with HR | HR
      all_goals
        have HX := H0.out
        rw [HW.out, HR.out] at HX
        have HY : Hid (b = _) := HX
        clear HX H0
        go_enter Try.func83, Try.ntmps83
        go_wp2_with (first | (go_at_call 87; refine (isWord_b _ _ HW _ hs).mono ?_; rintro e w' ⟨rfl, rfl⟩) | (go_at_call 88; refine (reserved_b _ _ HR _ hs hm).mono ?_; rintro e w' ⟨rfl, rfl⟩))
        go_ret
        exact ⟨ret_bool (by rw [HY.out]; simp [h12]), rfl⟩
    · have HX := H0.out
      rw [HW.out] at HX
      have HY : Hid (b = _) := HX
      clear HX H0
      go_enter Try.func83, Try.ntmps83
      go_wp2_with (go_at_call 87; refine (isWord_b _ _ HW _ hs).mono ?_; rintro e w' ⟨rfl, rfl⟩)
      go_ret
      exact ⟨ret_bool (by rw [HY.out]; simp), rfl⟩
  · go_enter Try.func83, Try.ntmps83
    go_wp2_with fail
    go_ret
    exact ⟨ret_bool (by rw [H0.out]; simp [h12]), rfl⟩
theorem risName_b (s : ByteArray) (b : Bool) (H : Hid (Lx.isNameB s.data.toList = b)) (w : World) (hz : s.size ≤ maxLen) :
    Calls Try.prog 82 #[.string s] w fun e w' => e = .returned (.bool b) ∧ w = w' := by
  have H0 : Hid (b = (decide (s.size ≤ 12) && (Lx.isWordB s.data.toList && !Lx.isRes s.data.toList))) := by
    show b = _
    rw [← H.out]; unfold Lx.isNameB; rw [len_at]
  clear H
  unfold maxLen at hz
  by_cases h0 : s.size < 1
  · have HX : Hid (b = false) := by
      show b = _
      have : s.data.toList = [] := by rw [← List.length_eq_zero_iff, len_at]; omega
      rw [H0.out, this]; simp [Lx.isWordB]
    go_enter Try.func82, Try.ntmps82
    go_wp2_with fail
    go_ret
    exact ⟨ret_bool HX.out.symm, rfl⟩
  · by_cases h12 : s.size ≤ 12
    · have hs : s.size ≤ 9000 := by omega
      rcases bool_cases (Lx.isL s[0]) with HL | HL
      · rcases bool_cases (Lx.isRes s.data.toList) with HR | HR
        · have HX : Hid (b = false) := by show b = _; rw [H0.out, HR.out]; simp
          go_enter Try.func82, Try.ntmps82
          go_wp2_with (first | (go_at_call 84; refine (letter_b _ _ HL _).mono ?_; rintro e w' ⟨rfl, rfl⟩) | (go_at_call 85; refine (rreserved_b _ _ HR _ hs).mono ?_; rintro e w' ⟨rfl, rfl⟩))
          go_ret
          exact ⟨ret_bool HX.out.symm, rfl⟩
        · obtain ⟨n, hn⟩ : ∃ n, n = Lx.wlen s.data.toList := ⟨_, rfl⟩
          have HX : Hid (b = ((n : Int) == (s.size : Int))) := by
            show b = _
            rw [H0.out, HR.out, isWordB_at s (by omega), HL.out]
            have := @Lx.wlen_full s.data.toList
            rw [← hn, len_at] at this
            rw [Bool.eq_iff_iff]
            simp only [Bool.and_eq_true, decide_eq_true_eq, Bool.true_and, Bool.not_false, Bool.and_true, beq_iff_eq]
            rw [← this]
            omega
          have HN : Hid (n = 0 + Lx.wlen (s.data.toList.drop 0)) := by show n = _; rw [List.drop_zero, Nat.zero_add]; exact hn
          clear hn
          go_enter Try.func82, Try.ntmps82
          go_wp2_with (first | (go_at_call 84; refine (letter_b _ _ HL _).mono ?_; rintro e w' ⟨rfl, rfl⟩) | (go_at_call 85; refine (rreserved_b _ _ HR _ hs).mono ?_; rintro e w' ⟨rfl, rfl⟩))
          refine (rrun_n s 0 n HN _ hs (by omega)).mono ?_
          rintro e w' ⟨rfl, rfl⟩
          go_wp2_with fail
          go_ret
          exact ⟨ret_bool HX.out.symm, rfl⟩
      · have HX : Hid (b = false) := by show b = _; rw [H0.out, isWordB_at s (by omega), HL.out]; simp
        go_enter Try.func82, Try.ntmps82
        go_wp2_with (go_at_call 84; refine (letter_b _ _ HL _).mono ?_; rintro e w' ⟨rfl, rfl⟩)
        go_ret
        exact ⟨ret_bool HX.out.symm, rfl⟩
    · have HX : Hid (b = false) := by show b = _; rw [H0.out]; simp [h12]
      go_enter Try.func82, Try.ntmps82
      go_wp2_with fail
      go_ret
      exact ⟨ret_bool HX.out.symm, rfl⟩
theorem rname_b (s : ByteArray) (b : Bool) (H : Hid (Lx.isNameB s.data.toList = b)) (w : World) (hz : s.size ≤ maxLen) :
    Calls Try.prog 79 #[.string s] w fun e w' => e = .returned (.bool b) ∧ w = w' := by
  go_enter Try.func79, Try.ntmps79
  go_wp2_with fail
  refine (risName_b s b H _ hz).mono ?_
  rintro e w' ⟨rfl, rfl⟩
  go_wp2_with fail
  go_ret
  exact ⟨rfl, rfl⟩
theorem sname_b (s : ByteArray) (b : Bool) (H : Hid (Lx.isNameB s.data.toList = b)) (w : World) (hz : s.size ≤ maxLen) (hm : ML w) :
    Calls Try.prog 80 #[.string s] w fun e w' => e = .returned (.bool b) ∧ w = w' := by
  go_enter Try.func80, Try.ntmps80
  go_wp2_with fail
  refine (isName_b s b H _ hz hm).mono ?_
  rintro e w' ⟨rfl, rfl⟩
  go_wp2_with fail
  go_ret
  exact ⟨rfl, rfl⟩
end Go.Proofs.Ythlhicegchkjjaa
