/-
  What the functions on expressions compute; no program is in sight here.
-/
import Derived.Test.YthlhicegchkjjaaGreatDoorEt
import Derived.Test.YthlhicegchkjjaaGreatDoorLx
namespace Go.Proofs.YthlhicegchkjjaaGreatDoor
namespace ET
mutual
/-- The depth. -/
def dep : ET → Nat
  | mk _ _ _ ks => depL ks + 1
def depL : List ET → Nat
  | [] => 0
  | k :: ks => max (dep k) (depL ks)
end
/-- The number of kids of an operator. -/
def arity (o : Int) : Int :=
  if o = 0 ∨ o = 1 ∨ o = 2 ∨ o = 3 then 0 else if o = 4 ∨ o = 6 ∨ o = 7 then 1 else if o = 5 ∨ (8 ≤ o ∧ o ≤ 22) then 2 else if o = 23 then 3 else -1
/-- A place by its operators. -/
def placeB : ET → Bool
  | mk o _ _ ks => if o = 3 then true else if o = 4 ∨ o = 5 then (match ks with | [] => false | k :: _ => placeB k) else false
/-- What a node alone must be. -/
def nodeForm : ET → Bool
  | mk o n s ks => decide (arity o = (ks.length : Int)) && ((decide (o = 0) || decide (n = 0)) && ((decide (o = 3) || (decide (o = 4) || decide (s.size = 0))) && ((!(decide (o = 4) || decide (o = 5))) || placeB (mk o n s ks))))
mutual
def formB : ET → Bool
  | mk o n s ks => nodeForm (mk o n s ks) && formL ks
def formL : List ET → Bool
  | [] => true
  | k :: ks => formB k && formL ks
end
mutual
def namesB : ET → Bool
  | mk o _ s ks => ((!(decide (o = 3) || decide (o = 4))) || Lx.isNameB s.data.toList) && namesL ks
def namesL : List ET → Bool
  | [] => true
  | k :: ks => namesB k && namesL ks
end
mutual
def numsB : ET → Bool
  | mk o n _ ks => ((!decide (o = 0)) || (decide (0 ≤ n) && decide (n ≤ 1048576))) && numsL ks
def numsL : List ET → Bool
  | [] => true
  | k :: ks => numsB k && numsL ks
end
/-- The code of an expression. -/
def check (e : ET) : Nat := if 1024 < cnt e ∨ 12 < dep e then 4 else if formB e then (if namesB e then (if numsB e then 0 else 3) else 7) else 1
theorem dropL (ks : List ET) (i : Nat) (h : i < ks.length) : ks.drop i = ks[i] :: ks.drop (i + 1) := List.drop_eq_getElem_cons h
end ET
end Go.Proofs.YthlhicegchkjjaaGreatDoor
