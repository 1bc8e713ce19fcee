/-
  The code of a policy and its text, as plain values; no program is in sight here.
-/
import Derived.Test.YtnipigninbeplaaDoorPD
import Derived.Lib.Join
namespace Go.Proofs.YtnipigninbeplaaDoor
open Go.RowKit

open Classical in
/-- The code of a policy. -/
noncomputable def polC (p : Py) : Int :=
  if newC p.levels p.order ≠ 0 then newC p.levels p.order
  else if 64 < p.inputs.length ∨ 64 < p.hatches.length then 4
  else if labelsC p.levels.length [] p.inputs ≠ 0 then labelsC p.levels.length [] p.inputs
  else if labelsC p.levels.length [] p.hatches ≠ 0 then labelsC p.levels.length [] p.hatches
  else if p.obs < 0 ∨ (p.levels.length : Int) ≤ p.obs then 3 else 0
/-- A level's name. -/
def lvT (names : List ByteArray) (i : Int) : List UInt8 := (names.getD i.toNat ⟨#[]⟩).data.toList
def tLevels : List UInt8 := [108, 101, 118, 101, 108, 115, 32]
def tOrder : List UInt8 := [111, 114, 100, 101, 114, 32]
def tInput : List UInt8 := [105, 110, 112, 117, 116, 32]
def tHatch : List UInt8 := [104, 97, 116, 99, 104, 32]
def tObs : List UInt8 := [111, 98, 115, 101, 114, 118, 101, 32]
def tTimed : List UInt8 := [32, 116, 105, 109, 101, 100]
def tSep : List UInt8 := [44, 32]
def tLt : List UInt8 := [32, 60, 32]
def pairT (names : List ByteArray) (p : Int × Int) : List UInt8 := lvT names p.1 ++ tLt ++ lvT names p.2
def labT (names : List ByteArray) (k : List UInt8) (x : Lb) : List UInt8 := k ++ x.name.data.toList ++ [32] ++ lvT names x.lev ++ [10]
def labsT (names : List ByteArray) (k : List UInt8) (l : List Lb) : List UInt8 := (l.map (labT names k)).flatten
/-- The names behind k of them. -/
def namU (names : List ByteArray) (k : Nat) : List UInt8 := Lib.join ((names.take k).map (·.data.toList)) tSep
/-- The pairs' line behind k of them, without its end. -/
def ordU (names : List ByteArray) (l : List (Int × Int)) (k : Nat) : List UInt8 := if k = 0 then [] else tOrder ++ Lib.join ((l.take k).map (pairT names)) tSep
def ordT (names : List ByteArray) (l : List (Int × Int)) : List UInt8 := ordU names l l.length ++ (if 0 < l.length then [10] else [])
def obsT (names : List ByteArray) (o : Int) (tm : Bool) : List UInt8 := tObs ++ lvT names o ++ (if tm then tTimed else []) ++ [10]
def headT (names : List ByteArray) : List UInt8 := tLevels ++ namU names names.length ++ [10]
/-- The text. -/
def printL (p : Py) : List UInt8 := headT p.levels ++ ordT p.levels p.order ++ labsT p.levels tInput p.inputs ++ labsT p.levels tHatch p.hatches ++ obsT p.levels p.obs p.timed
/-- The text and the code. -/
noncomputable def printC (p : Py) : List UInt8 × Int := if polC p ≠ 0 then ([], 1) else if 8192 < (printL p).length then ([], 5) else (printL p, 0)
theorem join_snoc (l : List (List UInt8)) (a sep : List UInt8) : Lib.join (l ++ [a]) sep = if l = [] then a else Lib.join l sep ++ sep ++ a := by
  match l with
  | [] => rw [if_pos rfl]; exact Lib.join_one a sep
  | x :: l =>
    rw [if_neg (by simp), List.cons_append, Lib.join_cons, Lib.join_cons, Lib.joinTail, Lib.joinTail]
    simp [List.append_assoc]
theorem namU_one (names : List ByteArray) (k : Nat) (s : ByteArray) (h : names[k]? = some s) : namU names (k + 1) = if k = 0 then s.data.toList else namU names k ++ tSep ++ s.data.toList := by
  have hk : k < names.length := (List.getElem?_eq_some_iff.1 h).1
  unfold namU
  rw [List.take_add_one, h, Option.toList_some, List.map_append, List.map_cons, List.map_nil, join_snoc]
  by_cases h0 : k = 0
  · subst h0
    simp
  · rw [if_neg (by intro e; rw [List.map_eq_nil_iff, List.take_eq_nil_iff] at e; rcases e with e | e; · exact h0 e
                   · rw [e] at hk; simp at hk), if_neg h0]
theorem ordU_one (names : List ByteArray) (l : List (Int × Int)) (k : Nat) (p : Int × Int) (h : l[k]? = some p) : ordU names l (k + 1) = ordU names l k ++ (if k = 0 then tOrder else tSep) ++ pairT names p := by
  have hk : k < l.length := (List.getElem?_eq_some_iff.1 h).1
  unfold ordU
  rw [if_neg (by omega), List.take_add_one, h, Option.toList_some, List.map_append, List.map_cons, List.map_nil, join_snoc]
  by_cases h0 : k = 0
  · subst h0
    simp
  · rw [if_neg (by intro e; rw [List.map_eq_nil_iff, List.take_eq_nil_iff] at e; rcases e with e | e; · exact h0 e
                   · rw [e] at hk; simp at hk), if_neg h0, if_neg h0]
    simp only [List.append_assoc]
theorem ordU_zero (names : List ByteArray) (l : List (Int × Int)) : ordU names l 0 = [] := rfl
theorem labsT_one (names : List ByteArray) (t : List UInt8) (l : List Lb) (k : Nat) (x : Lb) (h : l[k]? = some x) : labsT names t (l.take (k + 1)) = labsT names t (l.take k) ++ labT names t x := by
  unfold labsT
  rw [List.take_add_one, h, Option.toList_some, List.map_append, List.flatten_append]
  simp
/-- What is written stays at the head of what is written later. -/
theorem ordU_le (names : List ByteArray) (l : List (Int × Int)) : ∀ m k, k + m ≤ l.length → (ordU names l k).length ≤ (ordU names l (k + m)).length
  | 0, k, _ => Nat.le_refl _
  | m + 1, k, h => by
    have hk : k + m < l.length := by omega
    have := ordU_le names l m k (by omega)
    rw [← Nat.add_assoc, ordU_one names l (k + m) _ (List.getElem?_eq_getElem hk)]
    simp only [List.length_append]
    omega
end Go.Proofs.YtnipigninbeplaaDoor
