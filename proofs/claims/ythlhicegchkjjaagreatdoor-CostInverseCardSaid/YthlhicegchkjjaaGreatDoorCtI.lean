/-
  Texts of cost models: bytes, what stands in memory; no walk of the program stands here.
-/
import Derived.Test.YthlhicegchkjjaaGreatDoorCtH
import Derived.Test.YthlhicegchkjjaaGreatDoorCoC
import Derived.Test.YthlhicegchkjjaaGreatDoorLn
import Derived.Deep.AppendLies
namespace Go.Proofs.YthlhicegchkjjaaGreatDoor
open Go.RowKit

theorem bsize_len (s : ByteArray) : s.size = s.data.toList.length := by rw [Array.length_toList]; rfl
theorem bytes_eq {x y : ByteArray} (h : x.data.toList = y.data.toList) : x = y := by
  have h2 : x.data = y.data := Array.ext' h
  cases x with | mk a => cases y with | mk b => exact congrArg ByteArray.mk h2
theorem mk_bytes (l : List UInt8) : ∃ s : ByteArray, s.data.toList = l := ⟨⟨l.toArray⟩, rfl⟩
theorem bget (s : ByteArray) (k : Nat) (h : k < s.size) : s.data.toList[k]? = some s[k] := by
  rw [Array.getElem?_toList]
  exact Array.getElem?_eq_getElem h
/-- A sum of texts at the operation. -/
theorem add_fact (x y z : ByteArray) (hz : x.data.toList ++ y.data.toList = z.data.toList) (hl : z.data.toList.length ≤ 100000) (W : World) : (Op.stringOp .add x y).run Tryz.prog W = .ok (.string z) W := by
  have e : x ++ y = z := bytes_eq (by rw [ByteArray.data_append, Array.toList_append, hz])
  rw [← e]
  refine run_string_add_sum _ _ _ ?_
  rw [bsize_len x, bsize_len y, ← List.length_append, hz]
  omega
theorem nms_at (k : Nat) : ∃ s : ByteArray, s.data.toList = nms.getD k [] := mk_bytes _
def nmB (k : Nat) : ByteArray := ⟨(nms.getD k []).toArray⟩
theorem nmB_data (k : Nat) : (nmB k).data.toList = nms.getD k [] := rfl
/-- The names' table in memory. -/
structure NT (w : World) : Prop where
  lt : 0 < w.heap.size
  cell : ∀ k < 13, w.cell? ⟨0, k, none⟩ = some (.string (nmB k))
theorem NT.below {w w' : World} (h : NT w) (hb : Below w.heap.size w w') : NT w' :=
  ⟨Nat.lt_of_lt_of_le h.lt hb.size, fun k hk => (hb.cell (p := ⟨_, k, none⟩) h.lt).trans (h.cell k hk)⟩
/-- The entry of a word, or -1. -/
def findT (w : List UInt8) : Int := match nameIx w with | none => -1 | some i => (i : Nat)
theorem findT_hit {w : List UInt8} {k : Nat} (hk : k < 13) (h : nms.getD k [] = w) : findT w = k := by
  unfold findT
  rw [← h, (nms_ok k hk).2.2]
theorem findT_none {w : List UInt8} (h : ∀ k < 13, nms.getD k [] ≠ w) : findT w = -1 := by
  have e : nameIx w = none := by
    unfold nameIx
    rw [List.findIdx?_eq_none_iff]
    intro x hx
    obtain ⟨k, hk, rfl⟩ := List.mem_iff_getElem.1 hx
    have := h k hk
    rw [List.getD_eq_getElem?_getD, List.getElem?_eq_getElem hk] at this
    simpa using this
  unfold findT
  rw [e]
end Go.Proofs.YthlhicegchkjjaaGreatDoor
