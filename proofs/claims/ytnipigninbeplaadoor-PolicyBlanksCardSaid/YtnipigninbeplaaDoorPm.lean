/-
  The text with lines that say nothing, byte by byte: plain laws; no program is in sight here.
-/
import Derived.Test.YtnipigninbeplaaDoorPF
namespace Go.Proofs.YtnipigninbeplaaDoor
open Go.RowKit

/-- The state between two bytes: j lines are done, the next one begins at fm. -/
structure Bl (t : List UInt8) (f : Nat → List UInt8) (k fm j : Nat) (ob : List UInt8) : Prop where
  ls : ∃ ls, linS t = ls ++ linS (t.drop fm) ∧ ls.length = j ∧ ob = preT f 0 ls
  lo : fm ≤ k
  no : ∀ b ∈ (t.drop fm).take (k - fm), b ≠ 10
  len : ob.length ≤ fm + 11 * j
  jl : j ≤ fm
theorem Bl.zero (t : List UInt8) (f : Nat → List UInt8) : Bl t f 0 0 0 [] := ⟨⟨[], rfl, rfl, rfl⟩, Nat.le_refl _, fun b hb => by simp at hb, Nat.zero_le _, Nat.le_refl _⟩
theorem take_snocB {t : List UInt8} {k fm : Nat} {c : UInt8} (hk : t[k]? = some c) (h : fm ≤ k) : (t.drop fm).take (k + 1 - fm) = (t.drop fm).take (k - fm) ++ [c] := by
  rw [show k + 1 - fm = (k - fm) + 1 by omega, List.take_add_one, List.getElem?_drop, show fm + (k - fm) = k by omega, hk]
  rfl
section
variable {t : List UInt8} {f : Nat → List UInt8} {k fm j : Nat} {ob : List UInt8} {c : UInt8}
theorem Bl.skip (h : Bl t f k fm j ob) (hk : t[k]? = some c) (hc : c ≠ 10) : Bl t f (k + 1) fm j ob := by
  refine ⟨h.ls, by have := h.lo; omega, fun b hb => ?_, h.len, h.jl⟩
  rw [take_snocB hk h.lo] at hb
  rcases List.mem_append.1 hb with hb | hb
  · exact h.no b hb
  · rw [List.mem_singleton.1 hb]; exact hc
theorem Bl.cut (h : Bl t f k fm j ob) (hk : t[k]? = some 10) (hf : ∀ i, (f i).length ≤ 10) : Bl t f (k + 1) (k + 1) (j + 1) (ob ++ (f j ++ [10]) ++ (t.drop fm).take (k + 1 - fm)) := by
  obtain ⟨ls, h1, h2, h3⟩ := h.ls
  have hfm := h.lo
  have hkl := (List.getElem?_eq_some_iff.1 hk).1
  have hd : t.drop fm = (t.drop fm).take (k - fm) ++ 10 :: t.drop (k + 1) := by
    have e1 := (List.take_append_drop (k - fm) (t.drop fm)).symm
    rw [List.drop_drop, show fm + (k - fm) = k by omega, List.drop_eq_getElem_cons hkl, (List.getElem?_eq_some_iff.1 hk).2] at e1
    exact e1
  have hl := take_snocB hk hfm
  have hll : ((t.drop fm).take (k - fm)).length = k - fm := by rw [List.length_take, List.length_drop]; omega
  refine ⟨⟨ls ++ [(t.drop fm).take (k - fm)], ?_, by simp [h2], ?_⟩, Nat.le_refl _, fun b hb => by simp at hb, ?_, by have := h.jl; omega⟩
  · have e2 : linS (t.drop fm) = (t.drop fm).take (k - fm) :: linS (t.drop (k + 1)) := by
      rw [hd]
      have := linS_cut ((t.drop fm).take (k - fm)) (t.drop (k + 1)) h.no
      rw [← hd] at this ⊢
      exact this
    rw [h1, e2]
    simp
  · rw [preT_snoc, hl, h3, h2]
    simp
  · rw [hl]
    have := h.len
    have := hf j
    simp only [List.length_append, List.length_singleton, hll]
    omega
theorem Bl.done (h : Bl t f t.length fm j ob) (hf : ∀ i, Flat (f i)) : linS (ob ++ (f j ++ [10]) ++ t.drop fm) = inter f 0 (linS t) := by
  obtain ⟨ls, h1, h2, h3⟩ := h.ls
  have hno := h.no
  rw [List.take_of_length_le (by rw [List.length_drop]; omega)] at hno
  rw [linS_end _ hno] at h1
  have := linS_whole f hf t ls (t.drop fm) h1
  rw [← h3, h2] at this
  rw [← this]
  simp
end
/-- What the lines' numbers may be. -/
theorem rdLines_num : ∀ (ls : List (List UInt8)) (k : Int) (s : Rd), 0 ≤ k → 0 ≤ (rdLines k s ls).1.1 ∧ (rdLines k s ls).1.1 ≤ k + ls.length
  | [], k, s, h => by
    unfold rdLines
    simp only [List.length_nil]
    omega
  | l :: ls, k, s, h => by
    unfold rdLines
    split
    · simp only [List.length_cons]
      omega
    · have := rdLines_num ls (k + 1) (rdLine s l).2 (by omega)
      simp only [List.length_cons]
      omega
theorem parC_num (t : List UInt8) : 0 ≤ (parC t).1.1 ∧ (parC t).1.1 ≤ t.length + 1 := by
  have h1 := rdLines_num (linS t) 0 Rd.zero (by omega)
  have h2 := linZ_len (linS t)
  rw [linZ_lin] at h2
  unfold parC lineC endC
  split
  · simp only; omega
  · split
    · simp only; omega
    · split
      · simp only; omega
      · split <;> (simp only; omega)
/-- The lines that say nothing. -/
def kindU (k : Nat) : List UInt8 := if k % 4 = 0 then [] else if k % 4 = 1 then [32, 32, 32] else if k % 4 = 2 then [35, 32, 108, 101, 118, 101, 108, 115, 32, 120] else [32, 32, 35]
theorem kindU_len (k : Nat) : (kindU k).length ≤ 10 := by
  unfold kindU
  split
  · simp
  · split
    · simp
    · split <;> simp
theorem kindU_flat (k : Nat) : Flat (kindU k) := by
  unfold kindU Flat
  split
  · simp
  · split
    · decide
    · split <;> decide
theorem kindU_skip (k : Nat) : skipS (kindU k) = true := by
  unfold kindU
  split
  · rfl
  · split
    · decide
    · split <;> decide
end Go.Proofs.YtnipigninbeplaaDoor
