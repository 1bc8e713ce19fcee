/-
  The walks over the functions on signs, white space and single tokens.
-/
import Derived.Test.YthenhajgmbanjaaLxB
import Derived.Lib.IndexAny
namespace Go.Proofs.Ythenhajgmbanjaa
open Go.RowKit

theorem bstr_eq {r : ByteArray} {l : Lx.Bytes} (h : r.data.toList = l) : r = ⟨l.toArray⟩ := by
  subst h; cases r; simp
theorem take2_at (s : ByteArray) : (s.extract 0 2).toList = s.data.toList.take 2 := by
  rw [Lib.extract_toList]; simp
theorem ex2_size (s : ByteArray) : (s.extract 0 2).data.toList = s.data.toList.take 2 := by
  rw [Lib.extract_data]; simp
theorem ex1_data (s : ByteArray) : (s.extract 0 1).data.toList = s.data.toList.take 1 := by
  rw [Lib.extract_data]; simp
theorem take1_at (s : ByteArray) (h : 0 < s.size) : s.data.toList.take 1 = [s[0]] := by
  have := drop_at s 0 h
  rw [List.drop_zero] at this
  rw [this]; rfl

/-- lexer.sign. -/
def SignPost (s : ByteArray) (w : World) (e : Ending) (w' : World) : Prop :=
  (∃ r : ByteArray, e = .returned (.string r) ∧ r.data.toList = s.data.toList.take (Lx.sgn s.data.toList)) ∧ w = w'
theorem sign_tail (s : ByteArray) (w : World) (h0 : 0 < s.size) (H : Hid (Lx.sg2 (s.data.toList.take 2) = false)) :
    (0 ≤ Lib.indexByte Lx.singles s[0] → SignPost s w (.returned (.string (s.extract 0 1))) w) ∧ (Lib.indexByte Lx.singles s[0] < 0 → SignPost s w (.returned (.string ⟨#[]⟩)) w) := by
  have h1 := take1_at s h0
  have e1 : Lx.sg1 [s[0]] = Lx.singles.contains s[0] := rfl
  rw [Lib.contains_iff_indexByte] at e1
  constructor
  · intro h
    refine ⟨⟨_, rfl, ?_⟩, rfl⟩
    unfold Lx.sgn
    rw [H.out, if_neg (by simp), h1, e1, if_pos (by simpa using h), ex1_data, h1]
  · intro h
    refine ⟨⟨_, rfl, ?_⟩, rfl⟩
    unfold Lx.sgn
    rw [H.out, if_neg (by simp), h1, e1, if_neg (by simpa using h)]
    rfl
theorem sign_head (s : ByteArray) (w : World) (H : Hid (Lx.sg2 (s.data.toList.take 2) = true)) : SignPost s w (.returned (.string (s.extract 0 2))) w := by
  refine ⟨⟨_, rfl, ?_⟩, rfl⟩
  unfold Lx.sgn
  rw [if_pos H.out, ex2_size s]
theorem sign_any (s : ByteArray) (w : World) (hs : s.size ≤ 9000) (h0 : 0 < s.size) :
    Calls Try.prog 36 #[.string s] w (SignPost s w) := by
  by_cases h2 : 2 ≤ s.size
  · have HT : Hid ((s.extract 0 2).toList = s.data.toList.take 2) := take2_at s
    by_cases h0a : ((s.extract 0 2).toList == [46, 46]) = true
    · have HH : Hid (Lx.sg2 (s.data.toList.take 2) = true) := by
        show _ = _
        rw [← HT.out]; unfold Lx.sg2; rw [h0a]; simp
      go_enter Try.func36, Try.ntmps36
      go_wp2_with fail
      go_ret
      exact sign_head s w HH
    have h0b : ((s.extract 0 2).toList == [46, 46]) = false := Bool.eq_false_iff.2 h0a
    clear h0a
    by_cases h1a : ((s.extract 0 2).toList == [61, 61]) = true
    · have HH : Hid (Lx.sg2 (s.data.toList.take 2) = true) := by
        show _ = _
        rw [← HT.out]; unfold Lx.sg2; rw [h1a]; simp
      go_enter Try.func36, Try.ntmps36
      go_wp2_with fail
      go_ret
      exact sign_head s w HH
    have h1b : ((s.extract 0 2).toList == [61, 61]) = false := Bool.eq_false_iff.2 h1a
    clear h1a
    by_cases h2a : ((s.extract 0 2).toList == [33, 61]) = true
    · have HH : Hid (Lx.sg2 (s.data.toList.take 2) = true) := by
        show _ = _
        rw [← HT.out]; unfold Lx.sg2; rw [h2a]; simp
      go_enter Try.func36, Try.ntmps36
      go_wp2_with fail
      go_ret
      exact sign_head s w HH
    have h2b : ((s.extract 0 2).toList == [33, 61]) = false := Bool.eq_false_iff.2 h2a
    clear h2a
    by_cases h3a : ((s.extract 0 2).toList == [60, 61]) = true
    · have HH : Hid (Lx.sg2 (s.data.toList.take 2) = true) := by
        show _ = _
        rw [← HT.out]; unfold Lx.sg2; rw [h3a]; simp
      go_enter Try.func36, Try.ntmps36
      go_wp2_with fail
      go_ret
      exact sign_head s w HH
    have h3b : ((s.extract 0 2).toList == [60, 61]) = false := Bool.eq_false_iff.2 h3a
    clear h3a
    by_cases h4a : ((s.extract 0 2).toList == [62, 61]) = true
    · have HH : Hid (Lx.sg2 (s.data.toList.take 2) = true) := by
        show _ = _
        rw [← HT.out]; unfold Lx.sg2; rw [h4a]; simp
      go_enter Try.func36, Try.ntmps36
      go_wp2_with fail
      go_ret
      exact sign_head s w HH
    have h4b : ((s.extract 0 2).toList == [62, 61]) = false := Bool.eq_false_iff.2 h4a
    clear h4a
    by_cases h5a : ((s.extract 0 2).toList == [38, 38]) = true
    · have HH : Hid (Lx.sg2 (s.data.toList.take 2) = true) := by
        show _ = _
        rw [← HT.out]; unfold Lx.sg2; rw [h5a]; simp
      go_enter Try.func36, Try.ntmps36
      go_wp2_with fail
      go_ret
      exact sign_head s w HH
    have h5b : ((s.extract 0 2).toList == [38, 38]) = false := Bool.eq_false_iff.2 h5a
    clear h5a
    by_cases h6a : ((s.extract 0 2).toList == [124, 124]) = true
    · have HH : Hid (Lx.sg2 (s.data.toList.take 2) = true) := by
        show _ = _
        rw [← HT.out]; unfold Lx.sg2; rw [h6a]; simp
      go_enter Try.func36, Try.ntmps36
      go_wp2_with fail
      go_ret
      exact sign_head s w HH
    have h6b : ((s.extract 0 2).toList == [124, 124]) = false := Bool.eq_false_iff.2 h6a
    clear h6a
    have HF : Hid (Lx.sg2 (s.data.toList.take 2) = false) := by
      show _ = _
      rw [← HT.out]; unfold Lx.sg2; rw [h0b, h1b, h2b, h3b, h4b, h5b, h6b]; rfl
    go_enter Try.func36, Try.ntmps36
    go_wp2_with fail
    refine (Try.strings_IndexByte _ _ _).mono ?_
    have ei : (({ data := #[59, 58, 44, 46, 61, 43, 45, 42, 47, 37, 60, 62, 33, 63, 40, 41, 91, 93, 123, 125] } : ByteArray).data.toList) = Lx.singles := rfl
    have ec : ((s[0].toNat : Int)).toNat.toUInt8 = s[0] := by simp
    rw [ei, ec]
    clear ei ec
    have HE := sign_tail s w h0 HF
    rintro e w' ⟨rfl, rfl⟩
    by_cases hp : 0 ≤ Lib.indexByte Lx.singles s[0]
    · have hq := HE.1 hp
      have HQ := Lib.hid hq
      clear HE hq
      go_wp2_with fail
      go_ret
      exact HQ.out
    · have hq := HE.2 (by omega)
      have HQ := Lib.hid hq
      clear HE hq
      go_wp2_with fail
      go_ret
      exact HQ.out
  · have HF : Hid (Lx.sg2 (s.data.toList.take 2) = false) := by
      refine Bool.eq_false_iff.2 fun h => ?_
      have := Lx.sg2_len h
      rw [List.length_take, len_at] at this
      omega
    go_enter Try.func36, Try.ntmps36
    go_wp2_with fail
    refine (Try.strings_IndexByte _ _ _).mono ?_
    have ei : (({ data := #[59, 58, 44, 46, 61, 43, 45, 42, 47, 37, 60, 62, 33, 63, 40, 41, 91, 93, 123, 125] } : ByteArray).data.toList) = Lx.singles := rfl
    have ec : ((s[0].toNat : Int)).toNat.toUInt8 = s[0] := by simp
    rw [ei, ec]
    clear ei ec
    have HE := sign_tail s w h0 HF
    rintro e w' ⟨rfl, rfl⟩
    by_cases hp : 0 ≤ Lib.indexByte Lx.singles s[0]
    · have hq := HE.1 hp
      have HQ := Lib.hid hq
      clear HE hq
      go_wp2_with fail
      go_ret
      exact HQ.out
    · have hq := HE.2 (by omega)
      have HQ := Lib.hid hq
      clear HE hq
      go_wp2_with fail
      go_ret
      exact HQ.out

/-- keyholeref09.isSign. -/
def isSg (l : Lx.Bytes) : Bool := Lx.sg2 l || Lx.sg1 l
theorem sg1_of (l : Lx.Bytes) : Lx.sg1 l = (l == [59] || (l == [58] || (l == [44] || (l == [46] || (l == [61] || (l == [43] || (l == [45] || (l == [42] || (l == [47] || (l == [37] || (l == [60] || (l == [62] || (l == [33] || (l == [63] || (l == [40] || (l == [41] || (l == [91] || (l == [93] || (l == [123] || (l == [125])))))))))))))))))))) := by
  match l with
  | [] => rfl
  | [c] => rw [Bool.eq_iff_iff]; simp [Lx.sg1, Lx.singles]
  | _ :: _ :: _ => simp [Lx.sg1]
theorem isSign_any (s : ByteArray) (w : World) :
    Calls Try.prog 39 #[.string s] w fun e w' => e = .returned (.bool (isSg s.data.toList)) ∧ w = w' := by
  obtain ⟨r, hr⟩ : ∃ r, r = isSg s.data.toList := ⟨_, rfl⟩
  rw [← hr]
  rw [← Lib.toList_data] at hr
  unfold isSg at hr
  rw [sg1_of] at hr
  unfold Lx.sg2 at hr
  have HR := Lib.hid hr
  clear hr
  by_cases h0a : (s.toList == [46, 46]) = true
  · have hr : r = true := by
      rw [HR.out, h0a]; simp
    subst hr
    clear HR
    go_enter Try.func39, Try.ntmps39
    go_wp2_with fail
    go_ret
    exact ⟨rfl, rfl⟩
  have h0b : (s.toList == [46, 46]) = false := Bool.eq_false_iff.2 h0a
  clear h0a
  by_cases h1a : (s.toList == [61, 61]) = true
  · have hr : r = true := by
      rw [HR.out, h1a]; simp
    subst hr
    clear HR
    go_enter Try.func39, Try.ntmps39
    go_wp2_with fail
    go_ret
    exact ⟨rfl, rfl⟩
  have h1b : (s.toList == [61, 61]) = false := Bool.eq_false_iff.2 h1a
  clear h1a
  by_cases h2a : (s.toList == [33, 61]) = true
  · have hr : r = true := by
      rw [HR.out, h2a]; simp
    subst hr
    clear HR
    go_enter Try.func39, Try.ntmps39
    go_wp2_with fail
    go_ret
    exact ⟨rfl, rfl⟩
  have h2b : (s.toList == [33, 61]) = false := Bool.eq_false_iff.2 h2a
  clear h2a
  by_cases h3a : (s.toList == [60, 61]) = true
  · have hr : r = true := by
      rw [HR.out, h3a]; simp
    subst hr
    clear HR
    go_enter Try.func39, Try.ntmps39
    go_wp2_with fail
    go_ret
    exact ⟨rfl, rfl⟩
  have h3b : (s.toList == [60, 61]) = false := Bool.eq_false_iff.2 h3a
  clear h3a
  by_cases h4a : (s.toList == [62, 61]) = true
  · have hr : r = true := by
      rw [HR.out, h4a]; simp
    subst hr
    clear HR
    go_enter Try.func39, Try.ntmps39
    go_wp2_with fail
    go_ret
    exact ⟨rfl, rfl⟩
  have h4b : (s.toList == [62, 61]) = false := Bool.eq_false_iff.2 h4a
  clear h4a
  by_cases h5a : (s.toList == [38, 38]) = true
  · have hr : r = true := by
      rw [HR.out, h5a]; simp
    subst hr
    clear HR
    go_enter Try.func39, Try.ntmps39
    go_wp2_with fail
    go_ret
    exact ⟨rfl, rfl⟩
  have h5b : (s.toList == [38, 38]) = false := Bool.eq_false_iff.2 h5a
  clear h5a
  by_cases h6a : (s.toList == [124, 124]) = true
  · have hr : r = true := by
      rw [HR.out, h6a]; simp
    subst hr
    clear HR
    go_enter Try.func39, Try.ntmps39
    go_wp2_with fail
    go_ret
    exact ⟨rfl, rfl⟩
  have h6b : (s.toList == [124, 124]) = false := Bool.eq_false_iff.2 h6a
  clear h6a
  by_cases h7a : (s.toList == [59]) = true
  · have hr : r = true := by
      rw [HR.out, h7a]; simp
    subst hr
    clear HR
    go_enter Try.func39, Try.ntmps39
    go_wp2_with fail
    go_ret
    exact ⟨rfl, rfl⟩
  have h7b : (s.toList == [59]) = false := Bool.eq_false_iff.2 h7a
  clear h7a
  by_cases h8a : (s.toList == [58]) = true
  · have hr : r = true := by
      rw [HR.out, h8a]; simp
    subst hr
    clear HR
    go_enter Try.func39, Try.ntmps39
    go_wp2_with fail
    go_ret
    exact ⟨rfl, rfl⟩
  have h8b : (s.toList == [58]) = false := Bool.eq_false_iff.2 h8a
  clear h8a
  by_cases h9a : (s.toList == [44]) = true
  · have hr : r = true := by
      rw [HR.out, h9a]; simp
    subst hr
    clear HR
    go_enter Try.func39, Try.ntmps39
    go_wp2_with fail
    go_ret
    exact ⟨rfl, rfl⟩
  have h9b : (s.toList == [44]) = false := Bool.eq_false_iff.2 h9a
  clear h9a
  by_cases h10a : (s.toList == [46]) = true
  · have hr : r = true := by
      rw [HR.out, h10a]; simp
    subst hr
    clear HR
    go_enter Try.func39, Try.ntmps39
    go_wp2_with fail
    go_ret
    exact ⟨rfl, rfl⟩
  have h10b : (s.toList == [46]) = false := Bool.eq_false_iff.2 h10a
  clear h10a
  by_cases h11a : (s.toList == [61]) = true
  · have hr : r = true := by
      rw [HR.out, h11a]; simp
    subst hr
    clear HR
    go_enter Try.func39, Try.ntmps39
    go_wp2_with fail
    go_ret
    exact ⟨rfl, rfl⟩
  have h11b : (s.toList == [61]) = false := Bool.eq_false_iff.2 h11a
  clear h11a
  by_cases h12a : (s.toList == [43]) = true
  · have hr : r = true := by
      rw [HR.out, h12a]; simp
    subst hr
    clear HR
    go_enter Try.func39, Try.ntmps39
    go_wp2_with fail
    go_ret
    exact ⟨rfl, rfl⟩
  have h12b : (s.toList == [43]) = false := Bool.eq_false_iff.2 h12a
  clear h12a
  by_cases h13a : (s.toList == [45]) = true
  · have hr : r = true := by
      rw [HR.out, h13a]; simp
    subst hr
    clear HR
    go_enter Try.func39, Try.ntmps39
    go_wp2_with fail
    go_ret
    exact ⟨rfl, rfl⟩
  have h13b : (s.toList == [45]) = false := Bool.eq_false_iff.2 h13a
  clear h13a
  by_cases h14a : (s.toList == [42]) = true
  · have hr : r = true := by
      rw [HR.out, h14a]; simp
    subst hr
    clear HR
    go_enter Try.func39, Try.ntmps39
    go_wp2_with fail
    go_ret
    exact ⟨rfl, rfl⟩
  have h14b : (s.toList == [42]) = false := Bool.eq_false_iff.2 h14a
  clear h14a
  by_cases h15a : (s.toList == [47]) = true
  · have hr : r = true := by
      rw [HR.out, h15a]; simp
    subst hr
    clear HR
    go_enter Try.func39, Try.ntmps39
    go_wp2_with fail
    go_ret
    exact ⟨rfl, rfl⟩
  have h15b : (s.toList == [47]) = false := Bool.eq_false_iff.2 h15a
  clear h15a
  by_cases h16a : (s.toList == [37]) = true
  · have hr : r = true := by
      rw [HR.out, h16a]; simp
    subst hr
    clear HR
    go_enter Try.func39, Try.ntmps39
    go_wp2_with fail
    go_ret
    exact ⟨rfl, rfl⟩
  have h16b : (s.toList == [37]) = false := Bool.eq_false_iff.2 h16a
  clear h16a
  by_cases h17a : (s.toList == [60]) = true
  · have hr : r = true := by
      rw [HR.out, h17a]; simp
    subst hr
    clear HR
    go_enter Try.func39, Try.ntmps39
    go_wp2_with fail
    go_ret
    exact ⟨rfl, rfl⟩
  have h17b : (s.toList == [60]) = false := Bool.eq_false_iff.2 h17a
  clear h17a
  by_cases h18a : (s.toList == [62]) = true
  · have hr : r = true := by
      rw [HR.out, h18a]; simp
    subst hr
    clear HR
    go_enter Try.func39, Try.ntmps39
    go_wp2_with fail
    go_ret
    exact ⟨rfl, rfl⟩
  have h18b : (s.toList == [62]) = false := Bool.eq_false_iff.2 h18a
  clear h18a
  by_cases h19a : (s.toList == [33]) = true
  · have hr : r = true := by
      rw [HR.out, h19a]; simp
    subst hr
    clear HR
    go_enter Try.func39, Try.ntmps39
    go_wp2_with fail
    go_ret
    exact ⟨rfl, rfl⟩
  have h19b : (s.toList == [33]) = false := Bool.eq_false_iff.2 h19a
  clear h19a
  by_cases h20a : (s.toList == [63]) = true
  · have hr : r = true := by
      rw [HR.out, h20a]; simp
    subst hr
    clear HR
    go_enter Try.func39, Try.ntmps39
    go_wp2_with fail
    go_ret
    exact ⟨rfl, rfl⟩
  have h20b : (s.toList == [63]) = false := Bool.eq_false_iff.2 h20a
  clear h20a
  by_cases h21a : (s.toList == [40]) = true
  · have hr : r = true := by
      rw [HR.out, h21a]; simp
    subst hr
    clear HR
    go_enter Try.func39, Try.ntmps39
    go_wp2_with fail
    go_ret
    exact ⟨rfl, rfl⟩
  have h21b : (s.toList == [40]) = false := Bool.eq_false_iff.2 h21a
  clear h21a
  by_cases h22a : (s.toList == [41]) = true
  · have hr : r = true := by
      rw [HR.out, h22a]; simp
    subst hr
    clear HR
    go_enter Try.func39, Try.ntmps39
    go_wp2_with fail
    go_ret
    exact ⟨rfl, rfl⟩
  have h22b : (s.toList == [41]) = false := Bool.eq_false_iff.2 h22a
  clear h22a
  by_cases h23a : (s.toList == [91]) = true
  · have hr : r = true := by
      rw [HR.out, h23a]; simp
    subst hr
    clear HR
    go_enter Try.func39, Try.ntmps39
    go_wp2_with fail
    go_ret
    exact ⟨rfl, rfl⟩
  have h23b : (s.toList == [91]) = false := Bool.eq_false_iff.2 h23a
  clear h23a
  by_cases h24a : (s.toList == [93]) = true
  · have hr : r = true := by
      rw [HR.out, h24a]; simp
    subst hr
    clear HR
    go_enter Try.func39, Try.ntmps39
    go_wp2_with fail
    go_ret
    exact ⟨rfl, rfl⟩
  have h24b : (s.toList == [93]) = false := Bool.eq_false_iff.2 h24a
  clear h24a
  by_cases h25a : (s.toList == [123]) = true
  · have hr : r = true := by
      rw [HR.out, h25a]; simp
    subst hr
    clear HR
    go_enter Try.func39, Try.ntmps39
    go_wp2_with fail
    go_ret
    exact ⟨rfl, rfl⟩
  have h25b : (s.toList == [123]) = false := Bool.eq_false_iff.2 h25a
  clear h25a
  by_cases h26a : (s.toList == [125]) = true
  · have hr : r = true := by
      rw [HR.out, h26a]; simp
    subst hr
    clear HR
    go_enter Try.func39, Try.ntmps39
    go_wp2_with fail
    go_ret
    exact ⟨rfl, rfl⟩
  have h26b : (s.toList == [125]) = false := Bool.eq_false_iff.2 h26a
  clear h26a
  have hr : r = false := by
    rw [HR.out, h0b, h1b, h2b, h3b, h4b, h5b, h6b, h7b, h8b, h9b, h10b, h11b, h12b, h13b, h14b, h15b, h16b, h17b, h18b, h19b, h20b, h21b, h22b, h23b, h24b, h25b, h26b]; rfl
  subst hr
  clear HR
  go_enter Try.func39, Try.ntmps39
  go_wp2_with fail
  go_ret
  exact ⟨rfl, rfl⟩
end Go.Proofs.Ythenhajgmbanjaa
