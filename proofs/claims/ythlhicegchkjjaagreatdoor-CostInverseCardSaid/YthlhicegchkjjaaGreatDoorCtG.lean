/-
  Texts of cost models: a piece by places, as the reference finds them: plain laws; no program is in sight here.
-/
import Derived.Test.YthlhicegchkjjaaGreatDoorCtF
namespace Go.Proofs.YthlhicegchkjjaaGreatDoor
/-- A piece is a word, spaces and digits. -/
theorem part_cut (s : List UInt8) : ∃ w z : List UInt8, s = w ++ (z ++ numT s) ∧ w = s.takeWhile lowc ∧ s.dropWhile lowc = z ++ numT s ∧ z = (s.dropWhile lowc).takeWhile (· == 32) ∧ (∀ b ∈ z, b = 32) := by
  refine ⟨s.takeWhile lowc, (s.dropWhile lowc).takeWhile (· == 32), ?_, rfl, ?_, rfl, fun b hb => ?_⟩
  · unfold numT
    rw [List.takeWhile_append_dropWhile, List.takeWhile_append_dropWhile]
  · unfold numT
    rw [List.takeWhile_append_dropWhile]
  · have h := List.all_takeWhile (p := (· == (32 : UInt8))) (l := s.dropWhile lowc)
    have := List.all_eq_true.1 h b hb
    simpa using this
/-- A piece by the word's end a and the digits' begin z. -/
theorem partT_pos (s : List UInt8) (a z : Nat) (ha : a = (s.takeWhile lowc).length) (hz : z = a + ((s.dropWhile lowc).takeWhile (· == 32)).length) :
    partT s = if a = 0 ∨ z = a ∨ z = s.length ∨ (s[z]? = some 48 ∧ z + 1 < s.length) then none else if (s.drop z).all digc = true then some (s.take a, s.drop z) else none := by
  obtain ⟨w, y, h1, h2, h3, h4, h5⟩ := part_cut s
  rw [← h2] at ha
  rw [← h4] at hz
  have hta : s.take a = w := by rw [h1, ha, List.take_left]
  have hdz : s.drop z = numT s := by
    have e : s.drop z = (w ++ (y ++ numT s)).drop z := congrArg (List.drop z) h1
    rw [e, hz, ha, ← List.drop_drop, List.drop_left, List.drop_left]
  have hlen : s.length = w.length + (y.length + (numT s).length) := by
    have := congrArg List.length h1
    rw [List.length_append, List.length_append] at this
    exact this
  have hat : s[z]? = (numT s).head? := by
    rw [← hdz, List.head?_drop]
  unfold partT
  rw [← h2, h3, hta, hdz, hat]
  obtain ⟨d, hd⟩ : ∃ d, numT s = d := ⟨_, rfl⟩
  rw [hd] at hlen ⊢
  have hw : (w ≠ []) ↔ ¬ a = 0 := by rw [ha, List.length_eq_zero_iff]
  have hy : ((y ++ d).head? = some 32 ∧ numOk d = true) ↔ (¬ z = a ∧ numOk d = true) := by
    refine and_congr_left fun hn => ?_
    cases y with
    | nil =>
      refine ⟨fun h => ?_, fun h => absurd (by rw [hz]; rfl) h⟩
      cases d with
      | nil => cases h
      | cons c d =>
        have hc := dig_head hn
        have : c = 32 := by simpa using h
        rw [this] at hc
        cases hc
    | cons c y =>
      have hc : c = 32 := h5 c (by simp)
      rw [hc]
      refine ⟨fun _ e => ?_, fun _ => rfl⟩
      rw [List.length_cons] at hz
      omega
  have hn : numOk d = true ↔ ¬ z = s.length ∧ ¬ (d.head? = some 48 ∧ z + 1 < s.length) ∧ d.all digc = true := by
    unfold numOk
    have e1 : (z = s.length) ↔ d = [] := by
      rw [← List.length_eq_zero_iff]
      omega
    have e2 : (z + 1 < s.length) ↔ 1 < d.length := by omega
    rw [e1, e2]
    cases d with
    | nil => simp
    | cons c r =>
      simp
      intro _ _
      exact (Decidable.imp_iff_not_or (a := c = 48) (b := r = [])).symm
  by_cases hc : a = 0 ∨ z = a ∨ z = s.length ∨ (d.head? = some 48 ∧ z + 1 < s.length)
  · rw [if_pos hc, if_neg]
    rintro ⟨k1, k2, k3⟩
    have j1 := hw.1 k1
    have j2 := (hy.1 ⟨k2, k3⟩).1
    have j3 := hn.1 k3
    rcases hc with hc | hc | hc | hc
    · exact j1 hc
    · exact j2 hc
    · exact j3.1 hc
    · exact j3.2.1 hc
  · rw [if_neg hc]
    by_cases hdg : d.all digc = true
    · have hok : numOk d = true := hn.2 ⟨fun e => hc (.inr (.inr (.inl e))), fun e => hc (.inr (.inr (.inr e))), hdg⟩
      have k2 := (hy.2 ⟨fun e => hc (.inr (.inl e)), hok⟩).1
      rw [if_pos hdg, if_pos ⟨hw.2 (fun e => hc (.inl e)), k2, hok⟩]
    · rw [if_neg hdg, if_neg]
      rintro ⟨_, _, k3⟩
      exact hdg (hn.1 k3).2.2
end Go.Proofs.YthlhicegchkjjaaGreatDoor
