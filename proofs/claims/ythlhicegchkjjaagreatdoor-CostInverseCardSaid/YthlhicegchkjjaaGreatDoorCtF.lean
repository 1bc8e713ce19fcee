/-
  Texts of cost models: the order that a turn gives: plain laws; no program is in sight here.
-/
import Derived.Test.YthlhicegchkjjaaGreatDoorCtE
namespace Go.Proofs.YthlhicegchkjjaaGreatDoor
/-- i stands at place p. -/
def insAt (o : List Nat) (p i : Nat) : List Nat := o.take p ++ i :: o.drop p
theorem insAt_perm (o : List Nat) (p i : Nat) : (insAt o p i).Perm (i :: o) := by
  unfold insAt
  have h := List.perm_middle (a := i) (l₁ := o.take p) (l₂ := o.drop p)
  rw [List.take_append_drop] at h
  exact h
/-- The order behind i entries, and the rest of the turn. -/
def ordT : Nat → List Nat → List Nat → List Nat
  | _, o, [] => o
  | i, o, k :: ks => ordT (i + 1) (insAt o (k % (o.length + 1)) i) ks
theorem ordT_perm : ∀ (ks : List Nat) (i : Nat) (o : List Nat), o.Perm (List.range i) → (ordT i o ks).Perm (List.range (i + ks.length))
  | [], _, _, h => h
  | k :: ks, i, o, h => by
    have h1 : (insAt o (k % (o.length + 1)) i).Perm (List.range (i + 1)) := by
      rw [List.range_succ]
      exact (insAt_perm o _ i).trans ((List.Perm.cons i h).trans (List.perm_append_singleton i (List.range i)).symm)
    have h2 := ordT_perm ks (i + 1) _ h1
    rw [List.length_cons, show i + (ks.length + 1) = i + 1 + ks.length by omega]
    exact h2
theorem ordT_all (ks : List Nat) (h : ks.length = 13) : (ordT 0 [] ks).Nodup ∧ (∀ k ∈ ordT 0 [] ks, k < 13) ∧ (∀ k < 13, k ∈ ordT 0 [] ks) ∧ (ordT 0 [] ks).length = 13 := by
  have hp := ordT_perm ks 0 [] (List.Perm.refl _)
  rw [h, Nat.zero_add] at hp
  refine ⟨hp.nodup_iff.2 List.nodup_range, fun k hk => List.mem_range.1 (hp.mem_iff.1 hk), fun k hk => hp.mem_iff.2 (List.mem_range.2 hk), ?_⟩
  rw [hp.length_eq, List.length_range]
/-- The entries in the order that a turn gives are read again. -/
theorem parT_turn (v : List Nat) (hvl : v.length = 13) (hv : ∀ k < 13, v.getD k 0 ≤ 100) (ks : List Nat) (h : ks.length = 13) : parT (textT 2 1 ((ordT 0 [] ks).map (pieceT v))) = (0, v.map Int.ofNat) := by
  obtain ⟨h1, h2, h3, h4⟩ := ordT_all ks h
  refine parT_text 2 1 v hvl hv _ h1 h2 h3 ?_
  have hl := textT_len 2 1 ((ordT 0 [] ks).map (pieceT v)) (fun p hp => by
    obtain ⟨k, hk, rfl⟩ := List.mem_map.1 hp
    exact pieceT_len v k (h2 k hk) (hv k (h2 k hk)))
  rw [List.length_map, h4] at hl
  omega
end Go.Proofs.YthlhicegchkjjaaGreatDoor
