/-
  The walk over the reference's exprForm.
-/
import Derived.Test.YthlhicegchkjjaaGreatDoorEtC
namespace Go.Proofs.YthlhicegchkjjaaGreatDoor
open Go.RowKit
theorem bytes_nil (s : ByteArray) (h : s.size = 0) : s = ⟨#[]⟩ := by
  obtain ⟨d⟩ := s
  have : d = #[] := Array.eq_empty_of_size_eq_zero h
  rw [this]
theorem bytes_some (s : ByteArray) (h : ¬ s.size = 0) : s.toList.isEmpty = false := by
  rw [Lib.toList_data, List.isEmpty_eq_false_iff]
  intro hd
  have hl := congrArg List.length hd
  rw [Array.length_toList] at hl
  exact h hl
end Go.Proofs.YthlhicegchkjjaaGreatDoor
