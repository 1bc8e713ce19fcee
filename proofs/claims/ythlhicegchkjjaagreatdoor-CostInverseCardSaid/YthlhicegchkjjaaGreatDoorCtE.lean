/-
  Texts of cost models: the reference's loop over the pieces, and a text made piece by piece: plain laws; no program is in sight here.
-/
import Derived.Test.YthlhicegchkjjaaGreatDoorCtD
namespace Go.Proofs.YthlhicegchkjjaaGreatDoor
/-- The first piece, and what follows. -/
theorem sepS_step (c : UInt8) : ∀ t : List UInt8, sepS c t = t.takeWhile (· != c) :: (match t.dropWhile (· != c) with | [] => [] | _ :: r => sepS c r)
  | [] => rfl
  | b :: l => by
    by_cases hb : b = c
    · subst hb
      have e1 : (b :: l).takeWhile (· != b) = [] := List.takeWhile_cons_of_neg (p := (· != b)) (by simp)
      have e2 : (b :: l).dropWhile (· != b) = b :: l := List.dropWhile_cons_of_neg (p := (· != b)) (by simp)
      rw [e1, e2, sepS, if_pos rfl]
    · have hne : (b != c) = true := by simpa using hb
      have e1 : (b :: l).takeWhile (· != c) = b :: l.takeWhile (· != c) := List.takeWhile_cons_of_pos (p := (· != c)) hne
      have e2 : (b :: l).dropWhile (· != c) = l.dropWhile (· != c) := List.dropWhile_cons_of_pos (p := (· != c)) hne
      rw [e1, e2, sepS, if_neg hb, sepS_step c l]
/-- The first piece by its length; the text ends with it. -/
theorem sepS_last (c : UInt8) (t : List UInt8) (h : (t.takeWhile (· != c)).length = t.length) : sepS c t = [t] := by
  have h1 := List.takeWhile_append_dropWhile (p := (· != c)) (l := t)
  have h2 : (t.dropWhile (· != c)).length = 0 := by
    have := congrArg List.length h1
    rw [List.length_append] at this
    omega
  rw [List.length_eq_zero_iff] at h2
  rw [sepS_step, h2]
  rw [h2, List.append_nil] at h1
  rw [h1]
/-- The same where a c follows. -/
theorem sepS_more (c : UInt8) (t : List UInt8) (h : ¬ (t.takeWhile (· != c)).length = t.length) : sepS c t = t.take (t.takeWhile (· != c)).length :: sepS c (t.drop ((t.takeWhile (· != c)).length + 1)) := by
  have h1 := List.takeWhile_append_dropWhile (p := (· != c)) (l := t)
  obtain ⟨u, hu⟩ : ∃ u, t.takeWhile (· != c) = u := ⟨_, rfl⟩
  rw [sepS_step]
  rw [hu] at h h1 ⊢
  cases hd : t.dropWhile (· != c) with
  | nil =>
    rw [hd, List.append_nil] at h1
    rw [h1] at h
    exact absurd rfl h
  | cons b r =>
    rw [hd] at h1
    rw [← h1, List.take_left, ← List.drop_drop, List.drop_left]
    rfl
/-- A text made piece by piece. -/
theorem textT_snoc (a b : Nat) : ∀ (ps : List (List UInt8)) (p : List UInt8), ps ≠ [] → textT a b (ps ++ [p]) = textT a b ps ++ (spc a ++ 44 :: spc b) ++ p
  | [], _, h => absurd rfl h
  | [q], p, _ => by
    show textT a b (q :: p :: []) = _
    rw [textT, textT, textT]
    simp only [List.append_assoc, List.cons_append]
  | q :: r :: s, p, _ => by
    have ih := textT_snoc a b (r :: s) p (by simp)
    show textT a b (q :: r :: (s ++ [p])) = _
    rw [textT, show r :: (s ++ [p]) = (r :: s) ++ [p] from rfl, ih, textT]
    simp only [List.append_assoc, List.cons_append]
theorem pieceT_len (v : List Nat) (k : Nat) (hk : k < 13) (hv : v.getD k 0 ≤ 100) : (pieceT v k).length ≤ 12 := by
  have h1 : ∀ k < 13, (nms.getD k []).length ≤ 8 := by decide
  have h2 : ∀ n < 101, (decT n).length ≤ 3 := by decide
  have a1 := h1 k hk
  have a2 := h2 (v.getD k 0) (by omega)
  unfold pieceT
  rw [List.length_append, List.length_cons]
  omega
theorem textT_len (a b : Nat) : ∀ (ps : List (List UInt8)), (∀ p ∈ ps, p.length ≤ 12) → (textT a b ps).length ≤ ps.length * (13 + a + b)
  | [], _ => by simp [textT]
  | [p], h => by
    have := h p (by simp)
    show p.length ≤ _
    simp only [List.length_cons, List.length_nil]
    omega
  | p :: q :: r, h => by
    have ih := textT_len a b (q :: r) (fun y hy => h y (by simp [hy]))
    have hp := h p (by simp)
    rw [textT]
    simp only [List.length_append, List.length_cons, spc, List.length_replicate] at ih ⊢
    have e : (r.length + 1 + 1) * (13 + a + b) = (r.length + 1) * (13 + a + b) + (13 + a + b) := Nat.succ_mul _ _
    omega
/-- The printed text of a model: its entries in their order. -/
def printT (v : List Nat) : List UInt8 := textT 0 1 ((List.range 13).map (pieceT v))
theorem parT_print (v : List Nat) (hvl : v.length = 13) (hv : ∀ k < 13, v.getD k 0 ≤ 100) : parT (printT v) = (0, v.map Int.ofNat) := by
  refine parT_text 0 1 v hvl hv (List.range 13) List.nodup_range (fun k hk => List.mem_range.1 hk) (fun k hk => List.mem_range.2 hk) ?_
  have h := textT_len 0 1 ((List.range 13).map (pieceT v)) (fun p hp => by
    obtain ⟨k, hk, rfl⟩ := List.mem_map.1 hp
    have hk2 := List.mem_range.1 hk
    exact pieceT_len v k hk2 (hv k hk2))
  simp only [List.length_map, List.length_range] at h
  omega
end Go.Proofs.YthlhicegchkjjaaGreatDoor
