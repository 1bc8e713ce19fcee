/-
  Texts of cost models: strings.Cut at a space: plain laws; no program is in sight here.
-/
import Derived.Test.YthlhicegchkjjaaGreatDoorCtG
import Derived.Lib.IndexMore
namespace Go.Proofs.YthlhicegchkjjaaGreatDoor
theorem index_tw (c : UInt8) : ∀ s : List UInt8, Lib.index s [c] = if c ∈ s then ((s.takeWhile (· != c)).length : Int) else -1
  | [] => by simp [Lib.index]
  | b :: l => by
    rw [Lib.index, index_tw c l]
    by_cases hb : b = c
    · subst hb
      have e1 : (b :: l).takeWhile (· != b) = [] := List.takeWhile_cons_of_neg (p := (· != b)) (by simp)
      rw [e1, if_pos (by simp), if_pos (by simp)]
      rfl
    · have hne : (b != c) = true := by simpa using hb
      have e1 : (b :: l).takeWhile (· != c) = b :: l.takeWhile (· != c) := List.takeWhile_cons_of_pos (p := (· != c)) hne
      have hp : ([c] : List UInt8).isPrefixOf (b :: l) = false := by simp [List.isPrefixOf, Ne.symm hb]
      have hm : (c ∈ b :: l) ↔ c ∈ l := by simp [Ne.symm hb]
      rw [hp, if_neg (by decide), e1]
      by_cases h : c ∈ l
      · rw [if_pos h, if_pos (hm.2 h), if_neg (by rw [beq_iff_eq]; omega), List.length_cons]
        omega
      · rw [if_neg h, if_neg (fun e => h (hm.1 e))]
        rfl
theorem cut_one (c : UInt8) (s : List UInt8) : Lib.cut s [c] = if c ∈ s then (s.takeWhile (· != c), (s.dropWhile (· != c)).drop 1, true) else (s, [], false) := by
  unfold Lib.cut
  rw [index_tw]
  by_cases h : c ∈ s
  · rw [if_pos h, if_pos h, if_pos (by omega), Int.toNat_natCast]
    have h1 := List.takeWhile_append_dropWhile (p := (· != c)) (l := s)
    have ht : s.take (s.takeWhile (· != c)).length = s.takeWhile (· != c) := by
      obtain ⟨u, hu⟩ : ∃ u, s.takeWhile (· != c) = u := ⟨_, rfl⟩
      rw [hu] at h1 ⊢
      rw [← h1, List.take_left]
    have hd : s.drop ((s.takeWhile (· != c)).length + 1) = (s.dropWhile (· != c)).drop 1 := by
      obtain ⟨u, hu⟩ : ∃ u, s.takeWhile (· != c) = u := ⟨_, rfl⟩
      rw [hu] at h1 ⊢
      rw [← List.drop_drop]
      have e : s.drop u.length = s.dropWhile (· != c) := by
        have e2 : s.drop u.length = (u ++ s.dropWhile (· != c)).drop u.length := congrArg (List.drop u.length) h1.symm
        rw [e2, List.drop_left]
      rw [e]
    rw [ht, show ([c] : List UInt8).length = 1 from rfl, hd]
  · rw [if_neg h, if_neg h, if_neg (by decide)]
/-- What the program finds in a piece: the parts behind Cut, their tests, as partT. -/
theorem partT_prog (s : List UInt8) : partT s = if (Lib.cut s [32]).2.2 = true ∧ ((Lib.cut s [32]).1.all lowc = true ∧ (Lib.cut s [32]).1 ≠ []) ∧ numOk (Lib.trimLeftB (Lib.cut s [32]).2.1 32) = true
    then some ((Lib.cut s [32]).1, Lib.trimLeftB (Lib.cut s [32]).2.1 32) else none := by
  rw [partT_cut, cut_one]
  by_cases h : (32 : UInt8) ∈ s
  · rw [if_pos h]
    simp only [h, true_and, Lib.trimLeftB]
  · rw [if_neg h, if_neg (fun e => h e.1), if_neg (fun e => by cases e.1)]
end Go.Proofs.YthlhicegchkjjaaGreatDoor
