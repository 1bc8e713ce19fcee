/-
  The walk over the reference's single tokens.
-/
import Derived.Test.YthenhajgmbanjaaLxE
namespace Go.Proofs.Ythenhajgmbanjaa
open Go.RowKit

theorem isSign_b (s : ByteArray) (b : Bool) (H : Hid (isSg s.data.toList = b)) (w : World) :
    Calls Try.prog 39 #[.string s] w fun e w' => e = .returned (.bool b) ∧ w = w' := by
  have h : isSg s.data.toList = b := H
  rw [← h]; exact isSign_any s w
theorem token_L (s : ByteArray) (i : Nat) (w : World) (hs : s.size ≤ 9000) (hi : i < s.size) (HL : Hid (Lx.isL s[i] = true)) :
    Calls Try.prog 24 #[.string s, .int .i64 i] w (TokPost s i w) := by
  obtain ⟨n, hn⟩ : ∃ n, n = i + Lx.wlen (s.data.toList.drop i) := ⟨_, rfl⟩
  have HN := Lib.hid hn
  clear hn
  obtain ⟨b1, b2⟩ := run_end s i n (by omega) HN
  have HT := Lib.hid (tokOf_L s i hi HL.out)
  have HP := Lib.hid (piece s i n HN)
  have HW := Lib.hid (wlen_eq s i n HN)
  have hz : (s.extract i n).size ≤ 9000 := by simp; omega
  rcases bool_cases (Lx.isRes (s.extract i n).data.toList) with HR | HR
  · go_enter Try.func24, Try.ntmps24
    go_wp2_with (first | (go_at_call 27; refine (letter_b _ _ HL _).mono ?_; rintro e w' ⟨rfl, rfl⟩) | (go_at_call 28; refine (rrun_n s i n HN _ hs (by omega)).mono ?_; rintro e w' ⟨rfl, rfl⟩))
    refine (rreserved_b _ _ HR _ hz).mono ?_
    rintro e w' ⟨rfl, rfl⟩
    go_wp2_with fail
    refine bodyPost_ret (v := .tuple #[.agg #[.int .i64 2, .string (s.extract i n), .int .i64 i], .int .i64 0]) (by simp [results, Try.results24, go_sem]) rfl ?_
    exact tokPost_of s i w _ _ 0 2 _ (by rw [HT.out, ← HP.out, if_pos HR.out]) (fun _ => HP.out) (by repeat (first | exact Below.refl _ _ | refine Below.drew ?_ | refine Below.alloc ?_ (by simp) _))
  · by_cases h12 : 12 < n - i
    · go_enter Try.func24, Try.ntmps24
      go_wp2_with (first | (go_at_call 27; refine (letter_b _ _ HL _).mono ?_; rintro e w' ⟨rfl, rfl⟩) | (go_at_call 28; refine (rrun_n s i n HN _ hs (by omega)).mono ?_; rintro e w' ⟨rfl, rfl⟩))
      refine (rreserved_b _ _ HR _ hz).mono ?_
      rintro e w' ⟨rfl, rfl⟩
      go_wp2_with fail
      refine bodyPost_ret (v := .tuple #[.agg #[.int .i64 0, .string ⟨#[]⟩, .int .i64 0], .int .i64 7]) (by simp [results, Try.results24, go_sem]) rfl ?_
      exact tokPost_err s i w _ _ _ _ 7 0 _ (by rw [HT.out, ← HP.out, if_neg (by rw [HR.out]; simp), HW.out, if_pos h12]) (by decide) (by repeat (first | exact Below.refl _ _ | refine Below.drew ?_ | refine Below.alloc ?_ (by simp) _))
    · go_enter Try.func24, Try.ntmps24
      go_wp2_with (first | (go_at_call 27; refine (letter_b _ _ HL _).mono ?_; rintro e w' ⟨rfl, rfl⟩) | (go_at_call 28; refine (rrun_n s i n HN _ hs (by omega)).mono ?_; rintro e w' ⟨rfl, rfl⟩))
      refine (rreserved_b _ _ HR _ hz).mono ?_
      rintro e w' ⟨rfl, rfl⟩
      go_wp2_with fail
      refine bodyPost_ret (v := .tuple #[.agg #[.int .i64 0, .string (s.extract i n), .int .i64 i], .int .i64 0]) (by simp [results, Try.results24, go_sem]) rfl ?_
      exact tokPost_of s i w _ _ 0 0 _ (by rw [HT.out, ← HP.out, if_neg (by rw [HR.out]; simp), HW.out, if_neg h12]) (fun _ => by rw [HP.out, HW.out]) (by repeat (first | exact Below.refl _ _ | refine Below.drew ?_ | refine Below.alloc ?_ (by simp) _))

theorem token_D (s : ByteArray) (i : Nat) (w : World) (hs : s.size ≤ 9000) (hi : i < s.size) (HL : Hid (Lx.isL s[i] = false)) (HD : Hid (Lx.isD s[i] = true)) :
    Calls Try.prog 24 #[.string s, .int .i64 i] w (TokPost s i w) := by
  obtain ⟨n, hn⟩ : ∃ n, n = i + Lx.wlen (s.data.toList.drop i) := ⟨_, rfl⟩
  have HN := Lib.hid hn
  clear hn
  obtain ⟨b1, b2⟩ := run_end s i n (by omega) HN
  have b3 := run_pos s i n hi HN (by unfold Lx.alnum; rw [HD.out]; simp)
  have HT := Lib.hid (tokOf_D s i hi HL.out HD.out)
  have HP := Lib.hid (piece s i n HN)
  have hz : (s.extract i n).size ≤ 9000 := by simp; omega
  have hz0 : 0 < (s.extract i n).size := by simp; omega
  obtain ⟨c, hc⟩ : ∃ c, Lx.numCode (s.extract i n).data.toList = c := ⟨_, rfl⟩
  have HC := Lib.hid hc
  clear hc
  by_cases hc0 : c = 0
  · subst hc0
    go_enter Try.func24, Try.ntmps24
    go_wp2_with (first | (go_at_call 27; refine (letter_b _ _ HL _).mono ?_; rintro e w' ⟨rfl, rfl⟩) | (go_at_call 37; refine (digit_b _ _ HD _).mono ?_; rintro e w' ⟨rfl, rfl⟩) | (go_at_call 28; refine (rrun_n s i n HN _ hs (by omega)).mono ?_; rintro e w' ⟨rfl, rfl⟩))
    refine (rnumber_c _ _ HC _ hz hz0).mono ?_
    rintro e w' ⟨rfl, rfl⟩
    go_wp2_with fail
    refine bodyPost_ret (v := .tuple #[.agg #[.int .i64 1, .string (s.extract i n), .int .i64 i], .int .i64 0]) (by simp [results, Try.results24, go_sem]) rfl ?_
    exact tokPost_of s i w _ _ 0 1 _ (by rw [HT.out, ← HP.out, HC.out]) (fun _ => HP.out) (by repeat (first | exact Below.refl _ _ | refine Below.drew ?_ | refine Below.alloc ?_ (by simp) _))
  · have hc1 : ((c : Int) == 0) = false := by rw [beq_eq_false_iff_ne]; omega
    have HC0 : Hid (c ≠ 0) := hc0
    clear hc0
    go_enter Try.func24, Try.ntmps24
    go_wp2_with (first | (go_at_call 27; refine (letter_b _ _ HL _).mono ?_; rintro e w' ⟨rfl, rfl⟩) | (go_at_call 37; refine (digit_b _ _ HD _).mono ?_; rintro e w' ⟨rfl, rfl⟩) | (go_at_call 28; refine (rrun_n s i n HN _ hs (by omega)).mono ?_; rintro e w' ⟨rfl, rfl⟩))
    refine (rnumber_c _ _ HC _ hz hz0).mono ?_
    rintro e w' ⟨rfl, rfl⟩
    go_wp2_with fail
    refine bodyPost_ret (v := .tuple #[.agg #[.int .i64 0, .string ⟨#[]⟩, .int .i64 0], .int .i64 c]) (by simp [results, Try.results24, go_sem]) rfl ?_
    exact tokPost_err s i w _ _ _ _ c 1 _ (by rw [HT.out, ← HP.out, HC.out]) HC0.out (by repeat (first | exact Below.refl _ _ | refine Below.drew ?_ | refine Below.alloc ?_ (by simp) _))

theorem token_S (s : ByteArray) (i : Nat) (w : World) (hs : s.size ≤ 9000) (hi : i < s.size) (HL : Hid (Lx.isL s[i] = false)) (HD : Hid (Lx.isD s[i] = false)) :
    Calls Try.prog 24 #[.string s, .int .i64 i] w (TokPost s i w) := by
  obtain ⟨n, hn⟩ : ∃ n, n = i + Lx.wlen (s.data.toList.drop i) := ⟨_, rfl⟩
  have HN := Lib.hid hn
  clear hn
  have HT := Lib.hid (tokOf_S s i hi HL.out HD.out)
  have H1 : Hid ((s.extract i (i + 1)).data.toList = (s.data.toList.drop i).take 1) := by
    show _ = _
    rw [Lib.extract_data, show i + 1 - i = 1 from by omega]
  have H2 : Hid ((s.extract i (i + 2)).data.toList = (s.data.toList.drop i).take 2) := by
    show _ = _
    rw [Lib.extract_data, show i + 2 - i = 2 from by omega]
  have e12 : Lx.sg2 ((s.data.toList.drop i).take 1) = false := Bool.eq_false_iff.2 fun h => by
    have := Lx.sg2_len h
    simp at this; omega
  have e21 : i + 2 ≤ s.size → Lx.sg1 ((s.data.toList.drop i).take 2) = false := fun h2 => Bool.eq_false_iff.2 fun h => by
    have := Lx.sg1_len h
    simp at this; omega
  have e22 : ¬ i + 2 ≤ s.size → Lx.sg2 ((s.data.toList.drop i).take 2) = false := fun h2 => Bool.eq_false_iff.2 fun h => by
    have := Lx.sg2_len h
    simp at this; omega
  have HS1 : Hid (isSg (s.extract i (i + 1)).data.toList = Lx.sg1 ((s.data.toList.drop i).take 1)) := by
    show _ = _
    unfold isSg
    rw [H1.out, e12]; rfl
  have HS2 : i + 2 ≤ s.size → Hid (isSg (s.extract i (i + 2)).data.toList = Lx.sg2 ((s.data.toList.drop i).take 2)) := fun h2 => by
    show _ = _
    unfold isSg
    rw [H2.out, e21 h2, Bool.or_false]
  have HE22 := Lib.hid e22
  clear e12 e21 e22
  have key : (i + 2 ≤ s.size ∧ Hid (isSg (s.extract i (i + 2)).data.toList = true) ∧ Hid (Lx.sgn (s.data.toList.drop i) = 2)) ∨
      ((i + 2 ≤ s.size ∧ Hid (isSg (s.extract i (i + 2)).data.toList = false)) ∨ ¬ i + 2 ≤ s.size) ∧
        ((Hid (isSg (s.extract i (i + 1)).data.toList = true) ∧ Hid (Lx.sgn (s.data.toList.drop i) = 1)) ∨ (Hid (isSg (s.extract i (i + 1)).data.toList = false) ∧ Hid (Lx.sgn (s.data.toList.drop i) = 0))) := by
    have tail : Lx.sg2 ((s.data.toList.drop i).take 2) = false → ((Hid (isSg (s.extract i (i + 1)).data.toList = true) ∧ Hid (Lx.sgn (s.data.toList.drop i) = 1)) ∨ (Hid (isSg (s.extract i (i + 1)).data.toList = false) ∧ Hid (Lx.sgn (s.data.toList.drop i) = 0))) := by
      intro h
      rcases bool_cases (Lx.sg1 ((s.data.toList.drop i).take 1)) with g | g
      · refine .inl ⟨HS1.out.trans g.out, ?_⟩
        show _ = _
        unfold Lx.sgn; rw [if_neg (by rw [h]; simp), if_pos g.out]
      · refine .inr ⟨HS1.out.trans g.out, ?_⟩
        show _ = _
        unfold Lx.sgn; rw [if_neg (by rw [h]; simp), if_neg (by rw [g.out]; simp)]
    by_cases h2 : i + 2 ≤ s.size
    · rcases bool_cases (Lx.sg2 ((s.data.toList.drop i).take 2)) with g | g
      · refine .inl ⟨h2, (HS2 h2).out.trans g.out, ?_⟩
        show _ = _
        unfold Lx.sgn; rw [if_pos g.out]
      · exact .inr ⟨.inl ⟨h2, (HS2 h2).out.trans g.out⟩, tail g.out⟩
    · exact .inr ⟨.inr h2, tail (HE22.out h2)⟩
  clear HS2 HE22 HS1
  rcases key with ⟨h2, K1, K2⟩ | ⟨ha, ⟨K1, K2⟩ | ⟨K1, K2⟩⟩
  · go_enter Try.func24, Try.ntmps24
    go_wp2_with (first | (go_at_call 27; refine (letter_b _ _ HL _).mono ?_; rintro e w' ⟨rfl, rfl⟩) | (go_at_call 37; refine (digit_b _ _ HD _).mono ?_; rintro e w' ⟨rfl, rfl⟩) | (go_at_call 28; refine (rrun_n s i n HN _ hs (by omega)).mono ?_; rintro e w' ⟨rfl, rfl⟩))
    refine (isSign_b _ _ K1 _).mono ?_
    rintro e w' ⟨rfl, rfl⟩
    go_wp2_with fail
    refine bodyPost_ret (v := .tuple #[.agg #[.int .i64 3, .string (s.extract i (i + 2)), .int .i64 i], .int .i64 0]) (by simp [results, Try.results24, go_sem]) rfl ?_
    exact tokPost_of s i w _ _ 0 3 _ (by rw [HT.out, if_neg (by rw [K2.out]; decide)]) (fun _ => by rw [H2.out, K2.out]) (by repeat (first | exact Below.refl _ _ | refine Below.drew ?_ | refine Below.alloc ?_ (by simp) _))
  · rcases ha with ⟨h2, K3⟩ | h2
    · go_enter Try.func24, Try.ntmps24
      go_wp2_with (first | (go_at_call 27; refine (letter_b _ _ HL _).mono ?_; rintro e w' ⟨rfl, rfl⟩) | (go_at_call 37; refine (digit_b _ _ HD _).mono ?_; rintro e w' ⟨rfl, rfl⟩) | (go_at_call 28; refine (rrun_n s i n HN _ hs (by omega)).mono ?_; rintro e w' ⟨rfl, rfl⟩))
      refine (isSign_b _ _ K3 _).mono ?_
      rintro e w' ⟨rfl, rfl⟩
      go_wp2_with fail
      refine (isSign_b _ _ K1 _).mono ?_
      rintro e w' ⟨rfl, rfl⟩
      go_wp2_with fail
      refine bodyPost_ret (v := .tuple #[.agg #[.int .i64 3, .string (s.extract i (i + 1)), .int .i64 i], .int .i64 0]) (by simp [results, Try.results24, go_sem]) rfl ?_
      exact tokPost_of s i w _ _ 0 3 _ (by rw [HT.out, if_neg (by rw [K2.out]; decide)]) (fun _ => by rw [H1.out, K2.out]) (by repeat (first | exact Below.refl _ _ | refine Below.drew ?_ | refine Below.alloc ?_ (by simp) _))
    · go_enter Try.func24, Try.ntmps24
      go_wp2_with (first | (go_at_call 27; refine (letter_b _ _ HL _).mono ?_; rintro e w' ⟨rfl, rfl⟩) | (go_at_call 37; refine (digit_b _ _ HD _).mono ?_; rintro e w' ⟨rfl, rfl⟩) | (go_at_call 28; refine (rrun_n s i n HN _ hs (by omega)).mono ?_; rintro e w' ⟨rfl, rfl⟩))
      refine (isSign_b _ _ K1 _).mono ?_
      rintro e w' ⟨rfl, rfl⟩
      go_wp2_with fail
      refine bodyPost_ret (v := .tuple #[.agg #[.int .i64 3, .string (s.extract i (i + 1)), .int .i64 i], .int .i64 0]) (by simp [results, Try.results24, go_sem]) rfl ?_
      exact tokPost_of s i w _ _ 0 3 _ (by rw [HT.out, if_neg (by rw [K2.out]; decide)]) (fun _ => by rw [H1.out, K2.out]) (by repeat (first | exact Below.refl _ _ | refine Below.drew ?_ | refine Below.alloc ?_ (by simp) _))
  · rcases ha with ⟨h2, K3⟩ | h2
    · go_enter Try.func24, Try.ntmps24
      go_wp2_with (first | (go_at_call 27; refine (letter_b _ _ HL _).mono ?_; rintro e w' ⟨rfl, rfl⟩) | (go_at_call 37; refine (digit_b _ _ HD _).mono ?_; rintro e w' ⟨rfl, rfl⟩) | (go_at_call 28; refine (rrun_n s i n HN _ hs (by omega)).mono ?_; rintro e w' ⟨rfl, rfl⟩))
      refine (isSign_b _ _ K3 _).mono ?_
      rintro e w' ⟨rfl, rfl⟩
      go_wp2_with fail
      refine (isSign_b _ _ K1 _).mono ?_
      rintro e w' ⟨rfl, rfl⟩
      go_wp2_with fail
      refine bodyPost_ret (v := .tuple #[.agg #[.int .i64 0, .string ⟨#[]⟩, .int .i64 0], .int .i64 6]) (by simp [results, Try.results24, go_sem]) rfl ?_
      exact tokPost_err s i w _ _ _ _ 6 3 _ (by rw [HT.out, if_pos K2.out]) (by decide) (by repeat (first | exact Below.refl _ _ | refine Below.drew ?_ | refine Below.alloc ?_ (by simp) _))
    · go_enter Try.func24, Try.ntmps24
      go_wp2_with (first | (go_at_call 27; refine (letter_b _ _ HL _).mono ?_; rintro e w' ⟨rfl, rfl⟩) | (go_at_call 37; refine (digit_b _ _ HD _).mono ?_; rintro e w' ⟨rfl, rfl⟩) | (go_at_call 28; refine (rrun_n s i n HN _ hs (by omega)).mono ?_; rintro e w' ⟨rfl, rfl⟩))
      refine (isSign_b _ _ K1 _).mono ?_
      rintro e w' ⟨rfl, rfl⟩
      go_wp2_with fail
      refine bodyPost_ret (v := .tuple #[.agg #[.int .i64 0, .string ⟨#[]⟩, .int .i64 0], .int .i64 6]) (by simp [results, Try.results24, go_sem]) rfl ?_
      exact tokPost_err s i w _ _ _ _ 6 3 _ (by rw [HT.out, if_pos K2.out]) (by decide) (by repeat (first | exact Below.refl _ _ | refine Below.drew ?_ | refine Below.alloc ?_ (by simp) _))

theorem token_any (s : ByteArray) (i : Nat) (w : World) (hs : s.size ≤ 9000) (hi : i < s.size) :
    Calls Try.prog 24 #[.string s, .int .i64 i] w (TokPost s i w) := by
  rcases bool_cases (Lx.isL s[i]) with HL | HL
  · exact token_L s i w hs hi HL
  · rcases bool_cases (Lx.isD s[i]) with HD | HD
    · exact token_D s i w hs hi HL HD
    · exact token_S s i w hs hi HL HD
end Go.Proofs.Ythenhajgmbanjaa
