/-
  Plain laws: how a time settles.
-/
import Derived.Test.YtjpjmoejdkmglaaFlZ
namespace Go.Proofs.Ytjpjmoejdkmglaa
open Go.RowKit

theorem settle_fold (t : Int) : ∀ (bs seen : List Int) (s : Int × Bool), (s.2 = false → s.1 = t ∧ ∀ b ∈ seen, b < t) → (s.2 = true → s.1 ∈ seen ∧ t ≤ s.1 ∧ ∀ b ∈ seen, t ≤ b → s.1 ≤ b) →
    let r := bs.foldl (settleS t) s
    (r.2 = false → r.1 = t ∧ ∀ b ∈ seen ++ bs, b < t) ∧ (r.2 = true → r.1 ∈ seen ++ bs ∧ t ≤ r.1 ∧ ∀ b ∈ seen ++ bs, t ≤ b → r.1 ≤ b)
  | [], seen, s, h0, h1 => by simpa using ⟨h0, h1⟩
  | b :: bs, seen, s, h0, h1 => by
    have := settle_fold t bs (seen ++ [b]) (settleS t s b) ?_ ?_
    · simpa using this
    · intro hf
      unfold settleS at hf ⊢
      split at hf
      · cases hf
      · rename_i hn
        rw [if_neg hn]
        obtain ⟨e1, e2⟩ := h0 hf
        refine ⟨e1, fun x hx => ?_⟩
        rw [List.mem_append, List.mem_singleton] at hx
        rcases hx with hx | rfl
        · exact e2 x hx
        · rcases Int.lt_or_le x t with h | h
          · exact h
          · exact absurd ⟨h, Or.inl hf⟩ hn
    · intro hf
      unfold settleS at hf ⊢
      split at hf
      · rename_i hp
        rw [if_pos hp]
        refine ⟨by simp, hp.1, fun x hx hx2 => ?_⟩
        rw [List.mem_append, List.mem_singleton] at hx
        rcases hx with hx | rfl
        · rcases hp.2 with h | h
          · have := (h0 h).2 x hx; omega
          · cases hs : s.2
            · have := (h0 hs).2 x hx; omega
            · have := (h1 hs).2.2 x hx hx2; show b ≤ x; omega
        · exact Int.le_refl _
      · rename_i hn
        rw [if_neg hn]
        obtain ⟨e1, e2, e3⟩ := h1 hf
        refine ⟨by simp [e1], e2, fun x hx hx2 => ?_⟩
        rw [List.mem_append, List.mem_singleton] at hx
        rcases hx with hx | rfl
        · exact e3 x hx hx2
        · rcases Int.lt_or_le x s.1 with h | h
          · exact absurd ⟨hx2, Or.inr h⟩ hn
          · exact h
theorem settled_iff (bs : List Int) (t : Int) : ((∀ b ∈ bs, b < t) ∧ settledP bs t = t) ∨ (settledP bs t ∈ bs ∧ t ≤ settledP bs t ∧ ∀ b ∈ bs, t ≤ b → settledP bs t ≤ b) := by
  have h := settle_fold t bs [] (t, false) (fun _ => ⟨rfl, by simp⟩) (fun h => by cases h)
  simp only [List.nil_append] at h
  unfold settledP
  cases hr : (bs.foldl (settleS t) (t, false)).2
  · have := h.1 hr
    exact .inl ⟨this.2, this.1⟩
  · exact .inr (h.2 hr)
theorem settled_le (bs : List Int) (t : Int) : t ≤ settledP bs t := by
  rcases settled_iff bs t with h | h
  · rw [h.2]; exact Int.le_refl _
  · exact h.2.1
theorem settled_stays (bs : List Int) (t : Int) : settledP bs (settledP bs t) = settledP bs t := by
  rcases settled_iff bs t with h | h
  · rw [h.2, h.2]
  · rcases settled_iff bs (settledP bs t) with k | k
    · exact k.2
    · have := k.2.2 _ h.1 (Int.le_refl _)
      omega
theorem settled_mono (bs : List Int) (t u : Int) (h : t ≤ u) : settledP bs t ≤ settledP bs u := by
  rcases settled_iff bs t with ht | ht
  · rw [ht.2]; have := settled_le bs u; omega
  · rcases settled_iff bs u with hu | hu
    · rw [hu.2]; have := hu.1 _ ht.1; omega
    · exact ht.2.2 _ hu.1 (by have := hu.2.1; omega)
end Go.Proofs.Ytjpjmoejdkmglaa
