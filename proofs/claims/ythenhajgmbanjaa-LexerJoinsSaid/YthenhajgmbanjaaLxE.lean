/-
  The walks over single tokens: the program's next, the reference's token.
-/
import Derived.Test.YthenhajgmbanjaaLxD
import Derived.StillTailTactics
import Derived.Deep.RegionWith
import Derived.Deep.RegionHeld3
namespace Go.Proofs.Ythenhajgmbanjaa
open Go.RowKit

theorem run_n (s : ByteArray) (i n : Nat) (HN : Hid (n = i + Lx.wlen (s.data.toList.drop i))) (w : World) (hs : s.size ≤ 9000) (hi : i ≤ s.size) :
    Calls Try.prog 33 #[.string s, .int .i64 i] w fun e w' => e = .returned (.int .i64 n) ∧ w = w' := by
  have h : n = i + Lx.wlen (s.data.toList.drop i) := HN
  rw [h]
  exact run_any s i w (by unfold maxLen; omega) hi
theorem rrun_n (s : ByteArray) (i n : Nat) (HN : Hid (n = i + Lx.wlen (s.data.toList.drop i))) (w : World) (hs : s.size ≤ 9000) (hi : i ≤ s.size) :
    Calls Try.prog 28 #[.string s, .int .i64 i] w fun e w' => e = .returned (.int .i64 n) ∧ w = w' := by
  have h : n = i + Lx.wlen (s.data.toList.drop i) := HN
  rw [h]
  exact rrun_any s i w (by unfold maxLen; omega) hi
/-- A piece of the text, as the run's end gives it. -/
theorem piece (s : ByteArray) (i n : Nat) (HN : Hid (n = i + Lx.wlen (s.data.toList.drop i))) : (s.extract i n).data.toList = (s.data.toList.drop i).take (Lx.wlen (s.data.toList.drop i)) := by
  have h : n = i + Lx.wlen (s.data.toList.drop i) := HN
  rw [Lib.extract_data, h, Nat.add_sub_cancel_left]
theorem run_end (s : ByteArray) (i n : Nat) (hi : i ≤ s.size) (HN : Hid (n = i + Lx.wlen (s.data.toList.drop i))) : i ≤ n ∧ n ≤ s.size := by
  have h : n = i + Lx.wlen (s.data.toList.drop i) := HN
  have := Lx.wlen_le (s.data.toList.drop i)
  rw [List.length_drop, len_at] at this
  omega
theorem tokOf_L (s : ByteArray) (i : Nat) (hi : i < s.size) (hl : Lx.isL s[i] = true) : Lx.tokOf (s.data.toList.drop i) =
    (if Lx.isRes ((s.data.toList.drop i).take (Lx.wlen (s.data.toList.drop i))) then (0, 2, Lx.wlen (s.data.toList.drop i)) else if 12 < Lx.wlen (s.data.toList.drop i) then (7, 0, Lx.wlen (s.data.toList.drop i)) else (0, 0, Lx.wlen (s.data.toList.drop i))) := by
  have hd := drop_at s i hi
  rw [hd]
  simp only [Lx.tokOf, hl, if_true]
theorem tokOf_D (s : ByteArray) (i : Nat) (hi : i < s.size) (hl : Lx.isL s[i] = false) (hd : Lx.isD s[i] = true) : Lx.tokOf (s.data.toList.drop i) =
    (Lx.numCode ((s.data.toList.drop i).take (Lx.wlen (s.data.toList.drop i))), 1, Lx.wlen (s.data.toList.drop i)) := by
  rw [drop_at s i hi]
  simp only [Lx.tokOf, hl, hd, Bool.false_eq_true, if_false, if_true]
theorem tokOf_S (s : ByteArray) (i : Nat) (hi : i < s.size) (hl : Lx.isL s[i] = false) (hd : Lx.isD s[i] = false) : Lx.tokOf (s.data.toList.drop i) =
    (if Lx.sgn (s.data.toList.drop i) = 0 then 6 else 0, 3, Lx.sgn (s.data.toList.drop i)) := by
  rw [drop_at s i hi]
  simp only [Lx.tokOf, hl, hd, Bool.false_eq_true, if_false]

/-- What next and token hand back. -/
def TokPost (s : ByteArray) (i : Nat) (w : World) (e : Ending) (w' : World) : Prop :=
  (∃ (k : Int) (tx : ByteArray) (a : Int), e = .returned (.tuple #[.agg #[.int .i64 k, .string tx, .int .i64 a], .int .i64 ((Lx.tokOf (s.data.toList.drop i)).1 : Int)]) ∧
    ((Lx.tokOf (s.data.toList.drop i)).1 = 0 → k = (Lx.tokOf (s.data.toList.drop i)).2.1 ∧ tx = ⟨((s.data.toList.drop i).take (Lx.tokOf (s.data.toList.drop i)).2.2).toArray⟩ ∧ a = i)) ∧ Below w.heap.size w w'
theorem tokPost_of (s : ByteArray) (i : Nat) (w w' : World) (tx : ByteArray) (c k n : Nat) (h : Lx.tokOf (s.data.toList.drop i) = (c, k, n)) (ht : c = 0 → tx.data.toList = (s.data.toList.drop i).take n) (hb : Below w.heap.size w w') :
    TokPost s i w (.returned (.tuple #[.agg #[.int .i64 k, .string tx, .int .i64 i], .int .i64 c])) w' := by
  refine ⟨⟨k, tx, i, ?_, ?_⟩, hb⟩
  · rw [h]
  · rw [h]
    intro hc
    exact ⟨rfl, bstr_eq (ht hc), rfl⟩
theorem tokPost_err (s : ByteArray) (i : Nat) (w w' : World) (tx : ByteArray) (k' a : Int) (c k n : Nat) (h : Lx.tokOf (s.data.toList.drop i) = (c, k, n)) (hc : c ≠ 0) (hb : Below w.heap.size w w') :
    TokPost s i w (.returned (.tuple #[.agg #[.int .i64 k', .string tx, .int .i64 a], .int .i64 c])) w' := by
  refine ⟨⟨k', tx, a, ?_, ?_⟩, hb⟩
  · rw [h]
  · rw [h]
    intro h0
    exact absurd h0 hc
theorem reserved_b (s : ByteArray) (b : Bool) (H : Hid (Lx.isRes s.data.toList = b)) (w : World) (hs : s.size ≤ 9000) (hm : ML w) :
    Calls Try.prog 17 #[.string s] w fun e w' => e = .returned (.bool b) ∧ w = w' := by
  have h : Lx.isRes s.data.toList = b := H
  rw [← h]; exact reserved_any s w hs hm
theorem rreserved_b (s : ByteArray) (b : Bool) (H : Hid (Lx.isRes s.data.toList = b)) (w : World) (hs : s.size ≤ 9000) :
    Calls Try.prog 19 #[.string s] w fun e w' => e = .returned (.bool b) ∧ w = w' := by
  have h : Lx.isRes s.data.toList = b := H
  rw [← h]; exact rreserved_any s w hs
theorem number_c (s : ByteArray) (c : Nat) (H : Hid (Lx.numCode s.data.toList = c)) (w : World) (hs : s.size ≤ 9000) (h0 : 0 < s.size) :
    Calls Try.prog 35 #[.string s] w fun e w' => e = .returned (.int .i64 c) ∧ w = w' := by
  have h : Lx.numCode s.data.toList = c := H
  rw [← h]; exact number_any s w (by unfold maxLen; omega) h0
theorem rnumber_c (s : ByteArray) (c : Nat) (H : Hid (Lx.numCode s.data.toList = c)) (w : World) (hs : s.size ≤ 9000) (h0 : 0 < s.size) :
    Calls Try.prog 38 #[.string s] w fun e w' => e = .returned (.int .i64 c) ∧ w = w' := by
  have h : Lx.numCode s.data.toList = c := H
  rw [← h]; exact rnumber_any s w (by unfold maxLen; omega) h0
theorem isLetter_b (c : UInt8) (b : Bool) (H : Hid (Lx.isL c = b)) (w : World) :
    Calls Try.prog 32 #[.int .u8 (c.toNat : Int)] w fun e w' => e = .returned (.bool b) ∧ w = w' := by
  have h : Lx.isL c = b := H
  rw [← h]; exact isLetter_any c w
theorem isDigit_b (c : UInt8) (b : Bool) (H : Hid (Lx.isD c = b)) (w : World) :
    Calls Try.prog 34 #[.int .u8 (c.toNat : Int)] w fun e w' => e = .returned (.bool b) ∧ w = w' := by
  have h : Lx.isD c = b := H
  rw [← h]; exact isDigit_any c w
theorem letter_b (c : UInt8) (b : Bool) (H : Hid (Lx.isL c = b)) (w : World) :
    Calls Try.prog 27 #[.int .u8 (c.toNat : Int)] w fun e w' => e = .returned (.bool b) ∧ w = w' := by
  have h : Lx.isL c = b := H
  rw [← h]; exact letter_any c w
theorem digit_b (c : UInt8) (b : Bool) (H : Hid (Lx.isD c = b)) (w : World) :
    Calls Try.prog 37 #[.int .u8 (c.toNat : Int)] w fun e w' => e = .returned (.bool b) ∧ w = w' := by
  have h : Lx.isD c = b := H
  rw [← h]; exact digit_any c w
theorem wlen_eq (s : ByteArray) (i n : Nat) (HN : Hid (n = i + Lx.wlen (s.data.toList.drop i))) : Lx.wlen (s.data.toList.drop i) = n - i := by
  have h : n = i + Lx.wlen (s.data.toList.drop i) := HN
  omega
theorem bool_cases (b : Bool) : Hid (b = true) ∨ Hid (b = false) := by cases b; exact .inr rfl; exact .inl rfl
theorem run_pos (s : ByteArray) (i n : Nat) (hi : i < s.size) (HN : Hid (n = i + Lx.wlen (s.data.toList.drop i))) (h : Lx.alnum s[i] = true) : i < n := by
  have e : n = i + Lx.wlen (s.data.toList.drop i) := HN
  rw [drop_at s i hi, wlen_yes h] at e
  omega

theorem next_L (s : ByteArray) (i : Nat) (w : World) (hs : s.size ≤ 9000) (hi : i < s.size) (hm : ML w) (HL : Hid (Lx.isL s[i] = true)) :
    Calls Try.prog 22 #[.string s, .int .i64 i] w (TokPost s i w) := by
  obtain ⟨n, hn⟩ : ∃ n, n = i + Lx.wlen (s.data.toList.drop i) := ⟨_, rfl⟩
  have HN := Lib.hid hn
  clear hn
  obtain ⟨b1, b2⟩ := run_end s i n (by omega) HN
  have HT := Lib.hid (tokOf_L s i hi HL.out)
  have HP := Lib.hid (piece s i n HN)
  have HW := Lib.hid (wlen_eq s i n HN)
  have hz : (s.extract i n).size ≤ 9000 := by simp; omega
  rcases bool_cases (Lx.isRes (s.extract i n).data.toList) with HR | HR
  · go_enter Try.func22, Try.ntmps22
    go_wp2_with (first | (go_at_call 32; refine (isLetter_b _ _ HL _).mono ?_; rintro e w' ⟨rfl, rfl⟩) | (go_at_call 33; refine (run_n s i n HN _ hs (by omega)).mono ?_; rintro e w' ⟨rfl, rfl⟩))
    refine (reserved_b _ _ HR _ hz (by repeat (first | exact hm | refine ML.alloc ?_ _))).mono ?_
    rintro e w' ⟨rfl, rfl⟩
    go_wp2_with fail
    refine bodyPost_ret (v := .tuple #[.agg #[.int .i64 2, .string (s.extract i n), .int .i64 i], .int .i64 0]) (by simp [results, Try.results22, go_sem]) rfl ?_
    exact tokPost_of s i w _ _ 0 2 _ (by rw [HT.out, ← HP.out, if_pos HR.out]) (fun _ => HP.out) (((Below.refl _ _).alloc (Nat.le_refl _) _).alloc (by simp) _)
  · by_cases h12 : 12 < n - i
    · go_enter Try.func22, Try.ntmps22
      go_wp2_with (first | (go_at_call 32; refine (isLetter_b _ _ HL _).mono ?_; rintro e w' ⟨rfl, rfl⟩) | (go_at_call 33; refine (run_n s i n HN _ hs (by omega)).mono ?_; rintro e w' ⟨rfl, rfl⟩))
      refine (reserved_b _ _ HR _ hz (by repeat (first | exact hm | refine ML.alloc ?_ _))).mono ?_
      rintro e w' ⟨rfl, rfl⟩
      go_wp2_with fail
      refine bodyPost_ret (v := .tuple #[.agg #[.int .i64 0, .string (s.extract i n), .int .i64 i], .int .i64 7]) (by simp [results, Try.results22, go_sem]) rfl ?_
      exact tokPost_of s i w _ _ 7 0 _ (by rw [HT.out, ← HP.out, if_neg (by rw [HR.out]; simp), HW.out, if_pos h12]) (fun h => absurd h (by decide)) (((Below.refl _ _).alloc (Nat.le_refl _) _).alloc (by simp) _)
    · go_enter Try.func22, Try.ntmps22
      go_wp2_with (first | (go_at_call 32; refine (isLetter_b _ _ HL _).mono ?_; rintro e w' ⟨rfl, rfl⟩) | (go_at_call 33; refine (run_n s i n HN _ hs (by omega)).mono ?_; rintro e w' ⟨rfl, rfl⟩))
      refine (reserved_b _ _ HR _ hz (by repeat (first | exact hm | refine ML.alloc ?_ _))).mono ?_
      rintro e w' ⟨rfl, rfl⟩
      go_wp2_with fail
      refine bodyPost_ret (v := .tuple #[.agg #[.int .i64 0, .string (s.extract i n), .int .i64 i], .int .i64 0]) (by simp [results, Try.results22, go_sem]) rfl ?_
      exact tokPost_of s i w _ _ 0 0 _ (by rw [HT.out, ← HP.out, if_neg (by rw [HR.out]; simp), HW.out, if_neg h12]) (fun _ => by rw [HP.out, HW.out]) (((Below.refl _ _).alloc (Nat.le_refl _) _).alloc (by simp) _)

theorem next_D (s : ByteArray) (i : Nat) (w : World) (hs : s.size ≤ 9000) (hi : i < s.size) (HL : Hid (Lx.isL s[i] = false)) (HD : Hid (Lx.isD s[i] = true)) :
    Calls Try.prog 22 #[.string s, .int .i64 i] w (TokPost s i w) := by
  obtain ⟨n, hn⟩ : ∃ n, n = i + Lx.wlen (s.data.toList.drop i) := ⟨_, rfl⟩
  have HN := Lib.hid hn
  clear hn
  obtain ⟨b1, b2⟩ := run_end s i n (by omega) HN
  have b3 := run_pos s i n hi HN (by unfold Lx.alnum; rw [HD.out]; simp)
  have HT := Lib.hid (tokOf_D s i hi HL.out HD.out)
  have HP := Lib.hid (piece s i n HN)
  have hz : (s.extract i n).size ≤ 9000 := by simp; omega
  have hz0 : 0 < (s.extract i n).size := by simp; omega
  obtain ⟨c, hc⟩ : ∃ c, Lx.numCode (s.extract i n).data.toList = c := ⟨_, rfl⟩
  have HC := Lib.hid hc
  clear hc
  go_enter Try.func22, Try.ntmps22
  go_wp2_with (first | (go_at_call 32; refine (isLetter_b _ _ HL _).mono ?_; rintro e w' ⟨rfl, rfl⟩) | (go_at_call 34; refine (isDigit_b _ _ HD _).mono ?_; rintro e w' ⟨rfl, rfl⟩) | (go_at_call 33; refine (run_n s i n HN _ hs (by omega)).mono ?_; rintro e w' ⟨rfl, rfl⟩))
  go_region_with (go_at_call 35; refine (number_c _ c HC _ hz hz0).mono ?_; rintro e w' ⟨rfl, rfl⟩)
  all_goals
    go_wp2_with fail
    refine bodyPost_ret (v := .tuple #[.agg #[.int .i64 1, .string (s.extract i n), .int .i64 i], .int .i64 c]) (by simp [results, Try.results22, go_sem]) rfl ?_
    exact tokPost_of s i w _ _ c 1 _ (by rw [HT.out, ← HP.out, HC.out]) (fun _ => HP.out) (by repeat (first | exact Below.refl _ _ | refine Below.drew ?_ | refine Below.alloc ?_ (by simp) _))

theorem next_S (s : ByteArray) (i : Nat) (w : World) (hs : s.size ≤ 9000) (hi : i < s.size) (HL : Hid (Lx.isL s[i] = false)) (HD : Hid (Lx.isD s[i] = false)) :
    Calls Try.prog 22 #[.string s, .int .i64 i] w (TokPost s i w) := by
  have HT := Lib.hid (tokOf_S s i hi HL.out HD.out)
  have HX := Lib.hid (Lib.extract_to_end s i)
  have hz : (s.extract i s.size).size ≤ 9000 := by simp; omega
  have hz0 : 0 < (s.extract i s.size).size := by simp; omega
  go_enter Try.func22, Try.ntmps22
  go_wp2_with (first | (go_at_call 32; refine (isLetter_b _ _ HL _).mono ?_; rintro e w' ⟨rfl, rfl⟩) | (go_at_call 34; refine (isDigit_b _ _ HD _).mono ?_; rintro e w' ⟨rfl, rfl⟩))
  refine (sign_any _ _ hz hz0).mono ?_
  rintro e w' ⟨⟨r, rfl, hr⟩, rfl⟩
  rw [HX.out] at hr
  have HR := Lib.hid hr
  clear hr
  by_cases h0 : r.toList = []
  · have hg : Lx.sgn (s.data.toList.drop i) = 0 := by
      have h1 := HR.out
      rw [← Lib.toList_data, h0] at h1
      have h2 := congrArg List.length h1
      rw [List.length_take] at h2
      have := Lx.sgn_le (s.data.toList.drop i)
      simp at h2 this
      omega
    have HG := Lib.hid hg
    clear hg
    go_wp2_with fail
    refine bodyPost_ret (v := .tuple #[.agg #[.int .i64 3, .string r, .int .i64 i], .int .i64 6]) (by simp [results, Try.results22, go_sem]) rfl ?_
    exact tokPost_of s i w _ _ 6 3 _ (by rw [HT.out, if_pos HG.out]) (fun h => absurd h (by decide)) (by repeat (first | exact Below.refl _ _ | refine Below.drew ?_ | refine Below.alloc ?_ (by simp) _))
  · have HG : Hid (¬ Lx.sgn (s.data.toList.drop i) = 0) := by
      intro hg
      apply h0
      rw [Lib.toList_data, HR.out, hg]; rfl
    have h0e : r.toList.isEmpty = false := by simpa using h0
    clear h0
    go_wp2_with fail
    refine bodyPost_ret (v := .tuple #[.agg #[.int .i64 3, .string r, .int .i64 i], .int .i64 0]) (by simp [results, Try.results22, go_sem]) rfl ?_
    exact tokPost_of s i w _ _ 0 3 _ (by rw [HT.out, if_neg HG.out]) (fun _ => HR.out) (by repeat (first | exact Below.refl _ _ | refine Below.drew ?_ | refine Below.alloc ?_ (by simp) _))

theorem next_any (s : ByteArray) (i : Nat) (w : World) (hs : s.size ≤ 9000) (hi : i < s.size) (hm : ML w) :
    Calls Try.prog 22 #[.string s, .int .i64 i] w (TokPost s i w) := by
  rcases bool_cases (Lx.isL s[i]) with HL | HL
  · exact next_L s i w hs hi hm HL
  · rcases bool_cases (Lx.isD s[i]) with HD | HD
    · exact next_D s i w hs hi HL HD
    · exact next_S s i w hs hi HL HD
end Go.Proofs.Ythenhajgmbanjaa
