/-
  Plain laws: steps without the one with an index in preorder.
-/
import Derived.Test.YtjpjmoejdkmglaaFlEp
namespace Go.Proofs.Ytjpjmoejdkmglaa
open Go.RowKit

mutual
/-- A step without the one with an index inside it (0 is the step itself: it stays). -/
def woS : Sp → Int → Sp
  | .mk d c v n t th el bs, i => .mk d c v n t (woL th (i - 1)) (woL el (i - 1 - (sizeL th : Nat))) bs
/-- Steps without the one with an index in preorder. -/
def woL : List Sp → Int → List Sp
  | [], _ => []
  | k :: ks, i => if i = 0 then woL ks (i - (1 + (sizeO k : Nat))) else (if 0 < i ∧ i < 1 + (sizeO k : Nat) then woS k i else k) :: woL ks (i - (1 + (sizeO k : Nat)))
end
/-- An index outside takes nothing away. -/
theorem woL_out : ∀ (ks : List Sp) (i : Int), i < 0 ∨ (sizeL ks : Nat) ≤ i → woL ks i = ks
  | [], _, _ => by rw [woL]
  | k :: ks, i, h => by
    rw [sizeL] at h
    have h0 : ¬ i = 0 := by omega
    have h1 : ¬ (0 < i ∧ i < 1 + (sizeO k : Nat)) := by omega
    rw [woL, if_neg h0, if_neg h1, woL_out ks _ (by omega)]
theorem woS_out : ∀ (k : Sp) (i : Int), i ≤ 0 ∨ 1 + (sizeO k : Nat) ≤ i → woS k i = k
  | .mk d c v n t th el bs, i, h => by
    rw [sizeO] at h
    rw [woS, woL_out th _ (by omega), woL_out el _ (by omega)]
theorem woL_cons (k : Sp) (ks : List Sp) (i : Int) : woL (k :: ks) i = if i = 0 then woL ks (i - (1 + (sizeO k : Nat))) else woS k i :: woL ks (i - (1 + (sizeO k : Nat))) := by
  rw [woL]
  split
  · rfl
  · next h =>
    split
    · rfl
    · next h2 => rw [woS_out k i (by omega)]
theorem woL_drop {ks : List Sp} {k : Nat} {s : Sp} (h : k < ks.length) (hk : ks[k] = s) (i : Int) : woL (ks.drop k) i = if i = 0 then woL (ks.drop (k + 1)) (i - (1 + (sizeO s : Nat))) else woS s i :: woL (ks.drop (k + 1)) (i - (1 + (sizeO s : Nat))) := by
  rw [List.drop_eq_getElem_cons h, hk, woL_cons]
end Go.Proofs.Ytjpjmoejdkmglaa
