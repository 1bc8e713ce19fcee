/-
  The walks over the reference's reserved words, white space and single tokens, and over the program's single tokens.
-/
import Derived.Test.YthenhajgmbanjaaLxC
import Derived.Lib.IndexLaws
namespace Go.Proofs.Ythenhajgmbanjaa
open Go.RowKit

theorem noSpace_of (w : Lx.Bytes) (h : w.all Lx.isL = true) : decide (0 ≤ Lib.indexByte w 32) = false := by
  rw [← Lib.contains_iff_indexByte, Bool.eq_false_iff]
  intro hc
  rw [List.contains_iff_mem] at hc
  rw [List.all_eq_true] at h
  exact absurd (h _ hc) (by decide)
theorem resText_chars : ∀ c ∈ Lx.resText, Lx.isL c = true ∨ c = 32 := by decide +kernel
theorem isRes_letters (w : Lx.Bytes) (h : Lx.isRes w = true) : w.all Lx.isL = true := by
  unfold Lx.isRes at h
  simp only [Bool.and_eq_true, Bool.not_eq_true'] at h
  obtain ⟨_, h1, h2⟩ := h
  rw [← Lib.contains_iff_indexByte] at h1
  rw [List.all_eq_true]
  intro c hc
  have hne : c ≠ 32 := by
    rintro rfl
    rw [Bool.eq_false_iff] at h1
    exact h1 (List.contains_iff_mem.2 hc)
  have hm : c ∈ Lx.resText := by
    unfold Lib.contains at h2
    rcases Lib.index_spec Lx.resText (32 :: (w ++ [32])) with ⟨hx, _⟩ | ⟨i, _, _, ho, _⟩
    · rw [hx] at h2; simp at h2
    · unfold Lib.occAt at ho
      rw [List.isPrefixOf_iff_prefix] at ho
      obtain ⟨t, ht⟩ := ho
      have : c ∈ Lx.resText.drop i := by rw [← ht]; simp [hc]
      exact List.mem_of_mem_drop this
  exact (resText_chars c hm).resolve_right hne
theorem resText_len : Lx.resText.length = 162 := by decide +kernel
/-- No instance begins below i. -/
def NoRes (w : Lx.Bytes) (i : Nat) : Prop := Lib.NoOcc Lx.resText (32 :: (w ++ [32])) i
theorem res_hit (w : Lx.Bytes) (i : Nat) (hn : NoRes w i) (hi : i + w.length + 2 ≤ 162) (h : ((Lx.resText.drop i).take (w.length + 2) == 32 :: (w ++ [32])) = true) : Lib.contains Lx.resText (32 :: (w ++ [32])) = true := by
  have e : (32 :: (w ++ [32])).length = w.length + 2 := by simp
  unfold Lib.contains
  rw [Lib.index_hit hn (by rw [resText_len]; omega) (by rw [Lib.occAt_iff_take _ _ _ (by rw [e, resText_len]; omega), e]; exact h)]
  simp
theorem res_miss (w : Lx.Bytes) (i : Nat) (hn : NoRes w i) (hi : i + w.length + 2 ≤ 162) (h : ((Lx.resText.drop i).take (w.length + 2) == 32 :: (w ++ [32])) = false) : NoRes w (i + 1) := by
  have e : (32 :: (w ++ [32])).length = w.length + 2 := by simp
  refine Lib.NoOcc.succ hn ?_
  rw [Lib.occAt_iff_take _ _ _ (by rw [e, resText_len]; omega), e]; exact h
theorem res_past (w : Lx.Bytes) (i : Nat) (hn : NoRes w i) (hi : 162 < i + w.length + 2) : Lib.contains Lx.resText (32 :: (w ++ [32])) = false := by
  have e : (32 :: (w ++ [32])).length = w.length + 2 := by simp
  unfold Lib.contains
  rw [Lib.index_past (by simp) hn (by rw [e, resText_len]; omega)]
  decide

theorem res_test (t : ByteArray) (ht : t.data.toList = Lx.resText) (s : ByteArray) (k : Nat) :
    ((t.extract k (k + s.size + 2)).toList == (⟨#[32]⟩ ++ s ++ ⟨#[32]⟩ : ByteArray).toList) = ((Lx.resText.drop k).take (s.data.toList.length + 2) == 32 :: (s.data.toList ++ [32])) := by
  rw [Lib.extract_toList, ht, len_at, Lib.toList_data]
  have e1 : k + s.size + 2 - k = s.size + 2 := by omega
  have e2 : (⟨#[32]⟩ ++ s ++ ⟨#[32]⟩ : ByteArray).data.toList = 32 :: (s.data.toList ++ [32]) := by simp
  rw [e1, e2]

set_option maxRecDepth 100000 in
/-- keyholeref09.Reserved. -/
theorem rreserved_any (s : ByteArray) (w : World) (hs : s.size ≤ 9000) :
    Calls Try.prog 19 #[.string s] w fun e w' => e = .returned (.bool (Lx.isRes s.data.toList)) ∧ w = w' := by
  obtain ⟨r, hr⟩ : ∃ r, r = Lx.isRes s.data.toList := ⟨_, rfl⟩
  rw [← hr]
  have HR := Lib.hid hr
  clear hr
  by_cases h0 : s.size = 0
  · have h1 : ((s.size : Int) == 0) = true := by rw [h0]; rfl
    have hz : s.data.toList = [] := by rw [← List.length_eq_zero_iff, len_at]; exact h0
    have hr : r = false := by rw [HR.out, hz]; rfl
    subst hr
    clear HR hz h0
    go_enter Try.func19, Try.ntmps19
    go_wp2_with fail
    go_ret
    exact ⟨rfl, rfl⟩
  · have h1 : ((s.size : Int) == 0) = false := by rw [beq_eq_false_iff_ne]; omega
    have hne : Hid (s.data.toList.isEmpty = false) := by
      show _ = _
      rw [List.isEmpty_eq_false_iff]
      intro h; exact h0 (by rw [← len_at, h]; rfl)
    clear h0
    go_enter Try.func19, Try.ntmps19
    go_wp2_with fail
    go_loop [3] (fun v => ∃ k : Nat, k ≤ s.size ∧ v = .int .i64 k ∧ Hid (s.data.toList.all Lx.isL = (s.data.toList.drop k).all Lx.isL)) (fun v => s.size - (intOf v).toNat)
    case atStart => exact ⟨0, by omega, rfl, rfl⟩
    case round =>
      obtain ⟨k, hk, rfl, H2⟩ := hrel
      by_cases hlt : k < s.size
      · have HD : Hid (s.data.toList.drop k = s[k] :: s.data.toList.drop (k + 1)) := drop_at s k hlt
        by_cases hd : Lx.isL s[k] = true
        · go_wp2_with (go_at_call 27; refine (letter_any _ _).mono ?_; rintro e w' ⟨rfl, rfl⟩)
          go_round
          case rel => exact ⟨k + 1, by omega, by go_num, by have := H2.out; rw [HD.out, List.all_cons, hd, Bool.true_and] at this; exact this⟩
          case measure => simp [intOf]; omega
        · have hd' : Lx.isL s[k] = false := by simpa using hd
          clear hd
          go_wp2_with (go_at_call 27; refine (letter_any _ _).mono ?_; rintro e w' ⟨rfl, rfl⟩)
          go_ret
          exact ⟨ret_bool (by
            rw [HR.out]
            refine (Bool.eq_false_iff.2 fun h => ?_).symm
            have := isRes_letters _ h
            rw [H2.out, HD.out, List.all_cons, hd'] at this
            simp at this), rfl⟩
      · have he : k = s.size := by omega
        subst he
        have HA : Hid (s.data.toList.all Lx.isL = true) := by
          show _ = _
          rw [H2.out, drop_end s _ (Nat.le_refl _)]; rfl
        clear H2
        have HC : Hid (r = Lib.contains Lx.resText (32 :: (s.data.toList ++ [32]))) := by
          show _ = _
          rw [HR.out]; unfold Lx.isRes
          rw [noSpace_of _ HA.out, hne.out]; rfl
        clear HR HA
        go_wp2_with fail
        go_loop [4] (fun v => ∃ k : Nat, k ≤ 162 ∧ v = .int .i64 k ∧ Hid (NoRes s.data.toList k)) (fun v => 163 - (intOf v).toNat)
        case atStart => exact ⟨0, by omega, rfl, Lib.NoOcc.zero _ _⟩
        case round =>
          obtain ⟨k, hk, rfl, H⟩ := hrel
          by_cases hlt : k + s.size + 2 ≤ 162
          · go_wp2_with fail
            · obtain ⟨t, ht, hx⟩ : ∃ t : ByteArray, t.data.toList = Lx.resText ∧ ((t.extract k (k + s.size + 2)).toList == (⟨#[32]⟩ ++ s ++ ⟨#[32]⟩ : ByteArray).toList) = true := by
                refine ⟨_, ?_, by assumption⟩
                rfl
              rw [res_test t ht] at hx
              go_ret
              exact ⟨ret_bool (by rw [HC.out]; exact (res_hit _ k H.out (by rw [len_at]; omega) hx).symm), rfl⟩
            · obtain ⟨t, ht, hx⟩ : ∃ t : ByteArray, t.data.toList = Lx.resText ∧ ((t.extract k (k + s.size + 2)).toList == (⟨#[32]⟩ ++ s ++ ⟨#[32]⟩ : ByteArray).toList) = false := by
                refine ⟨_, ?_, by assumption⟩
                rfl
              rw [res_test t ht] at hx
              have H' : Hid (NoRes s.data.toList (k + 1)) := res_miss _ k H.out (by rw [len_at]; omega) hx
              clear hx ht
              go_round
              case rel => exact ⟨k + 1, by omega, by go_num, H'⟩
              case measure => simp [intOf]; omega
          · go_wp2_with fail
            go_ret
            exact ⟨ret_bool (by rw [HC.out]; exact (res_past _ k H.out (by rw [len_at]; omega)).symm), rfl⟩

theorem skipc_at (s : ByteArray) (k : Nat) (h : k < s.size) (hc : (s[k] == 10) = false) : Lx.skipc (s.data.toList.drop k) = Lx.skipc (s.data.toList.drop (k + 1)) + 1 := by
  rw [drop_at s k h]
  simp only [Lx.skipc, hc, Bool.false_eq_true, if_false]
theorem skipc_nl (s : ByteArray) (k : Nat) (h : k < s.size) (hc : s[k] = 10) : Lx.skipc (s.data.toList.drop k) = 0 := by
  rw [drop_at s k h]
  simp [Lx.skipc, hc]
theorem skipc_end (s : ByteArray) (k : Nat) (h : s.size ≤ k) : Lx.skipc (s.data.toList.drop k) = 0 := by
  rw [drop_end s k h]; rfl
/-- Behind a comment. -/
theorem lex_hash (s : ByteArray) (i : Nat) (h : i < s.size) (hc : s[i] = 35) : Lx.lex i (s.data.toList.drop i) = Lx.lex (i + Lx.skipc (s.data.toList.drop i)) (s.data.toList.drop (i + Lx.skipc (s.data.toList.drop i))) := by
  have hd := drop_at s i h
  rw [hc] at hd
  rw [hd, Lx.lex_comment, ← hd, List.drop_drop]
theorem lex_space (s : ByteArray) (i : Nat) (h : i < s.size) (hc : Lx.white s[i] = true) : Lx.lex i (s.data.toList.drop i) = Lx.lex (i + 1) (s.data.toList.drop (i + 1)) := by
  rw [drop_at s i h, Lx.lex_white _ _ _ hc]
theorem u8_of_int {c d : UInt8} (h : (c.toNat : Int) = (d.toNat : Int)) : c = d := UInt8.toNat.inj (by omega)
theorem u8_beq (c d : UInt8) : ((c.toNat : Int) == (d.toNat : Int)) = (c == d) := by
  rw [Bool.eq_iff_iff, beq_iff_eq, beq_iff_eq]
  exact ⟨u8_of_int, fun h => by rw [h]⟩

theorem comment_to (s : ByteArray) (i k j : Nat) (hlt : k < s.size) (hkj : k ≤ j) (H : Hid (Lx.lex i (s.data.toList.drop i) = Lx.lex k (s.data.toList.drop k))) (HH : Hid (s[k] = 35))
    (H2 : Hid (Lx.skipc (s.data.toList.drop k) = j - k + Lx.skipc (s.data.toList.drop j))) (HN : Hid (Lx.skipc (s.data.toList.drop j) = 0)) : Hid (Lx.lex i (s.data.toList.drop i) = Lx.lex j (s.data.toList.drop j)) := by
  show _ = _
  rw [H.out, lex_hash s k hlt HH.out, H2.out, HN.out, show k + (j - k + 0) = j from by omega]
/-- What a way over white space and comments leaves. -/
def Blank (s : ByteArray) (i n : Nat) : Prop :=
  i ≤ n ∧ n ≤ s.size ∧ Lx.lex i (s.data.toList.drop i) = Lx.lex n (s.data.toList.drop n) ∧ (∀ h : n < s.size, Lx.white s[n] = false ∧ (s[n] == 35) = false)
def BlankPost (s : ByteArray) (i : Nat) (w : World) (e : Ending) (w' : World) : Prop :=
  (∃ n : Nat, e = .returned (.int .i64 n) ∧ Blank s i n) ∧ w = w'
theorem blank_any (s : ByteArray) (i : Nat) (w : World) (hs : s.size ≤ 9000) (hi : i ≤ s.size) :
    Calls Try.prog 23 #[.string s, .int .i64 i] w (BlankPost s i w) := by
  go_enter Try.func23, Try.ntmps23
  go_wp2_with fail
  go_loop [1] (fun v => ∃ k : Nat, i ≤ k ∧ k ≤ s.size ∧ v = .int .i64 k ∧ Hid (Lx.lex i (s.data.toList.drop i) = Lx.lex k (s.data.toList.drop k))) (fun v => s.size - (intOf v).toNat)
  case atStart => exact ⟨i, Nat.le_refl _, hi, rfl, rfl⟩
  case round =>
    obtain ⟨k, hik, hk, rfl, H⟩ := hrel
    by_cases hlt : k < s.size
    · by_cases hh : s[k] = 35
      · have h1 : ((s[k].toNat : Int) == 35) = true := by rw [hh]; rfl
        have HH : Hid (s[k] = 35) := hh
        clear hh
        go_wp2_with fail
        go_loop [1] (fun v => ∃ j : Nat, k ≤ j ∧ j ≤ s.size ∧ v = .int .i64 j ∧ Hid (Lx.skipc (s.data.toList.drop k) = j - k + Lx.skipc (s.data.toList.drop j))) (fun v => s.size - (intOf v).toNat)
        case atStart => exact ⟨k, Nat.le_refl _, hk, rfl, by show _ = _; omega⟩
        case round =>
          obtain ⟨j, hkj, hj, rfl, H2⟩ := hrel
          by_cases hlt2 : j < s.size
          · by_cases hn : s[j] = 10
            · have h2 : ((s[j].toNat : Int) == 10) = true := by rw [hn]; rfl
              have h3 : (!((s[j].toNat : Int) == 10)) = false := by rw [h2]; rfl
              have HN : Hid (Lx.skipc (s.data.toList.drop j) = 0) := skipc_nl s j hlt2 hn
              have hne : k < j := by
                rcases Nat.lt_or_ge k j with h | h
                · exact h
                · have e : k = j := by omega
                  subst e
                  have := HH.out
                  rw [hn] at this
                  exact absurd this (by decide)
              clear hn
              go_wp2_with fail
              go_round
              case rel => exact ⟨j, by omega, by omega, rfl, comment_to s i k j hlt hkj H HH H2 HN⟩
              case measure => simp [intOf]; omega
            · have h2 : (s[j] == 10) = false := by simpa using hn
              have h3 : ((s[j].toNat : Int) == 10) = false := by rw [show (10 : Int) = ((10 : UInt8).toNat : Int) from rfl, u8_beq]; exact h2
              have HS : Hid (Lx.skipc (s.data.toList.drop j) = Lx.skipc (s.data.toList.drop (j + 1)) + 1) := skipc_at s j hlt2 h2
              clear hn h2
              go_wp2_with fail
              go_round
              case rel => exact ⟨j + 1, by omega, by omega, by go_num, by show _ = _; rw [H2.out, HS.out]; omega⟩
              case measure => simp [intOf]; omega
          · have HN : Hid (Lx.skipc (s.data.toList.drop j) = 0) := skipc_end s j (by omega)
            go_wp2_with fail
            go_round
            case rel => exact ⟨j, by omega, by omega, rfl, comment_to s i k j hlt hkj H HH H2 HN⟩
            case measure => simp [intOf]; omega
      · have h1 : (s[k] == 35) = false := by simpa using hh
        have h2 : ((s[k].toNat : Int) == 35) = false := by rw [show (35 : Int) = ((35 : UInt8).toNat : Int) from rfl, u8_beq]; exact h1
        have H1 := Lib.hid h1
        clear hh h1
        by_cases hw : Lx.white s[k] = true
        · have hc : ((s[k].toNat : Int) == 32) = true ∨ (((s[k].toNat : Int) == 32) = false ∧ ((s[k].toNat : Int) == 9) = true) ∨ (((s[k].toNat : Int) == 32) = false ∧ ((s[k].toNat : Int) == 9) = false ∧ ((s[k].toNat : Int) == 10) = true) := by
            unfold Lx.white at hw
            rw [show (32 : Int) = ((32 : UInt8).toNat : Int) from rfl, show (9 : Int) = ((9 : UInt8).toNat : Int) from rfl, show (10 : Int) = ((10 : UInt8).toNat : Int) from rfl, u8_beq, u8_beq, u8_beq]
            cases e1 : s[k] == 32 <;> cases e2 : s[k] == 9 <;> simp_all
          have HW : Hid (Lx.lex k (s.data.toList.drop k) = Lx.lex (k + 1) (s.data.toList.drop (k + 1))) := lex_space s k hlt hw
          clear hw
          rcases hc with hc | ⟨hc1, hc2⟩ | ⟨hc1, hc2, hc3⟩
          all_goals
            go_wp2_with fail
            go_round
            case rel => exact ⟨k + 1, by omega, by omega, by go_num, H.out.trans HW.out⟩
            case measure => simp [intOf]; omega
        · have hw' : Lx.white s[k] = false := by simpa using hw
          have hc : ((s[k].toNat : Int) == 32) = false ∧ ((s[k].toNat : Int) == 9) = false ∧ ((s[k].toNat : Int) == 10) = false := by
            unfold Lx.white at hw'
            rw [show (32 : Int) = ((32 : UInt8).toNat : Int) from rfl, show (9 : Int) = ((9 : UInt8).toNat : Int) from rfl, show (10 : Int) = ((10 : UInt8).toNat : Int) from rfl, u8_beq, u8_beq, u8_beq]
            cases e1 : s[k] == 32 <;> cases e2 : s[k] == 9 <;> simp_all
          obtain ⟨hc1, hc2, hc3⟩ := hc
          have HW := Lib.hid hw'
          clear hw hw'
          go_wp2_with fail
          go_ret
          exact ⟨⟨k, rfl, hik, hk, H.out, fun _ => ⟨HW.out, H1.out⟩⟩, rfl⟩
    · have he : k = s.size := by omega
      subst he
      go_wp2_with fail
      go_ret
      exact ⟨⟨s.size, rfl, hik, hk, H.out, fun h => absurd h (by omega)⟩, rfl⟩
end Go.Proofs.Ythenhajgmbanjaa
