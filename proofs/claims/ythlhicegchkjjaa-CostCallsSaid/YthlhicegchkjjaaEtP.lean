/-
  What the functions on expressions compute; no program is in sight here.
-/
import Derived.Test.YthlhicegchkjjaaEt
import Derived.Test.YthlhicegchkjjaaLx
namespace Go.Proofs.Ythlhicegchkjjaa
namespace ET

mutual
/-- The depth. -/
def dep : ET → Nat
  | mk _ _ _ ks => depL ks + 1
def depL : List ET → Nat
  | [] => 0
  | k :: ks => max (dep k) (depL ks)
end
theorem depL_app (a b : List ET) : depL (a ++ b) = max (depL a) (depL b) := by
  induction a with
  | nil => simp [depL]
  | cons k a ih => simp only [List.cons_append, depL, ih]; omega
mutual
/-- What is left of a number behind an expression. -/
def left : ET → Int → Int
  | mk _ _ s ks, l => leftL ks (l - 1 - ((s.size / 16 : Nat) : Int))
def leftL : List ET → Int → Int
  | [], l => l
  | k :: ks, l => if 0 ≤ l then leftL ks (left k l) else l
end
theorem leftL_neg (ks : List ET) (l : Int) (h : l < 0) : leftL ks l = l := by
  cases ks with
  | nil => rfl
  | cons k ks => simp only [leftL]; rw [if_neg (by omega)]
mutual
theorem left_cnt : ∀ (e : ET) (l : Int), 0 ≤ left e l → (cnt e : Int) ≤ l - left e l
  | mk _ _ s ks, l, h => by
    simp only [left] at h ⊢
    have := leftL_cnt ks _ h
    simp only [cnt]
    omega
theorem leftL_cnt : ∀ (ks : List ET) (l : Int), 0 ≤ leftL ks l → (cntL ks : Int) ≤ l - leftL ks l
  | [], l, _ => by simp [cntL, leftL]
  | k :: ks, l, h => by
    simp only [leftL] at h ⊢
    by_cases h0 : 0 ≤ l
    · rw [if_pos h0] at h ⊢
      have h1 := leftL_cnt ks _ h
      have h2 : 0 ≤ left k l := by
        rcases Int.lt_or_le (left k l) 0 with hn | hn
        · rw [leftL_neg ks _ hn] at h; omega
        · exact hn
      have h3 := left_cnt k l h2
      simp only [cntL]
      omega
    · rw [if_neg h0] at h; omega
end
mutual
theorem left_le : ∀ (e : ET) (l : Int), left e l ≤ l - 1
  | mk _ _ s ks, l => by
    simp only [left]
    have := leftL_le ks (l - 1 - ((s.size / 16 : Nat) : Int))
    omega
theorem leftL_le : ∀ (ks : List ET) (l : Int), leftL ks l ≤ l
  | [], l => by simp [leftL]
  | k :: ks, l => by
    simp only [leftL]
    split
    · have h1 := leftL_le ks (left k l)
      have h2 := left_le k l
      omega
    · omega
end
/-- The number of kids of an operator. -/
def arity (o : Int) : Int :=
  if o = 0 ∨ o = 1 ∨ o = 2 ∨ o = 3 then 0 else if o = 4 ∨ o = 6 ∨ o = 7 then 1 else if o = 5 ∨ (8 ≤ o ∧ o ≤ 22) then 2 else if o = 23 then 3 else -1
/-- A place by its operators. -/
def placeB : ET → Bool
  | mk o _ _ ks => if o = 3 then true else if o = 4 ∨ o = 5 then (match ks with | [] => false | k :: _ => placeB k) else false
/-- What a node alone must be. -/
def nodeForm : ET → Bool
  | mk o n s ks => decide (arity o = (ks.length : Int)) && ((decide (o = 0) || decide (n = 0)) && ((decide (o = 3) || (decide (o = 4) || decide (s.size = 0))) && ((!(decide (o = 4) || decide (o = 5))) || placeB (mk o n s ks))))
mutual
def formB : ET → Bool
  | mk o n s ks => nodeForm (mk o n s ks) && formL ks
def formL : List ET → Bool
  | [] => true
  | k :: ks => formB k && formL ks
end
mutual
def namesB : ET → Bool
  | mk o _ s ks => ((!(decide (o = 3) || decide (o = 4))) || Lx.isNameB s.data.toList) && namesL ks
def namesL : List ET → Bool
  | [] => true
  | k :: ks => namesB k && namesL ks
end
mutual
def numsB : ET → Bool
  | mk o n _ ks => ((!decide (o = 0)) || (decide (0 ≤ n) && decide (n ≤ 1048576))) && numsL ks
def numsL : List ET → Bool
  | [] => true
  | k :: ks => numsB k && numsL ks
end
/-- The code of an expression. -/
def check (e : ET) : Nat := if 1024 < cnt e ∨ 12 < dep e then 4 else if formB e then (if namesB e then (if numsB e then 0 else 3) else 7) else 1
theorem dropL (ks : List ET) (i : Nat) (h : i < ks.length) : ks.drop i = ks[i] :: ks.drop (i + 1) := List.drop_eq_getElem_cons h
end ET
end Go.Proofs.Ythlhicegchkjjaa
