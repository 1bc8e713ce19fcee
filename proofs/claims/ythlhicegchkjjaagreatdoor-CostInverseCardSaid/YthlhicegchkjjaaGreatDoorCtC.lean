/-
  Texts of cost models: pieces joined by a comma with spaces around it are read again: plain laws; no program is in sight here.
-/
import Derived.Test.YthlhicegchkjjaaGreatDoorCtB
namespace Go.Proofs.YthlhicegchkjjaaGreatDoor
/-- A piece: no space at its ends, no comma in it. -/
structure Cln (p : List UInt8) : Prop where
  hd : ∃ c r, p = c :: r ∧ (c == (32 : UInt8)) = false
  ls : ∃ r c, p = r ++ [c] ∧ (c == (32 : UInt8)) = false
  nc : ∀ b ∈ p, b ≠ 44
def spc (n : Nat) : List UInt8 := List.replicate n 32
theorem dw_spc : ∀ (n : Nat) (x : List UInt8), (spc n ++ x).dropWhile (· == 32) = x.dropWhile (· == 32)
  | 0, _ => rfl
  | n + 1, x => by
    have e : spc (n + 1) ++ x = 32 :: (spc n ++ x) := by simp [spc, List.replicate_succ]
    rw [e, List.dropWhile_cons_of_pos (by decide)]
    exact dw_spc n x
theorem spc_rev (n : Nat) : (spc n).reverse = spc n := by simp [spc]
theorem Cln.trim {p : List UInt8} (h : Cln p) (i j : Nat) : Lib.trimB (spc i ++ p ++ spc j) 32 = p := by
  unfold Lib.trimB Lib.trimLeftB Lib.trimRightB
  obtain ⟨r, c, hp, hc⟩ := h.ls
  obtain ⟨c2, r2, hp2, hc2⟩ := h.hd
  have e1 : (spc i ++ p ++ spc j).reverse = spc j ++ (c :: (r.reverse ++ spc i)) := by
    rw [hp]
    simp [spc_rev]
  rw [e1, dw_spc, List.dropWhile_cons_of_neg (by rw [hc]; decide)]
  have e2 : (c :: (r.reverse ++ spc i)).reverse = spc i ++ p := by
    rw [hp]
    simp [spc_rev]
  rw [e2, dw_spc, hp2, List.dropWhile_cons_of_neg (by rw [hc2]; decide)]
/-- Pieces joined: a spaces ahead of each comma, b behind it. -/
def textT (a b : Nat) : List (List UInt8) → List UInt8
  | [] => []
  | [p] => p
  | p :: q :: r => p ++ spc a ++ 44 :: (spc b ++ textT a b (q :: r))
theorem spc_nc (n : Nat) : ∀ x ∈ spc n, x ≠ (44 : UInt8) := by
  intro x hx
  rw [List.eq_of_mem_replicate hx]
  decide
theorem textT_sep (a b : Nat) : ∀ (ps : List (List UInt8)) (z : Nat), ps ≠ [] → (∀ p ∈ ps, Cln p) → (sepS 44 (spc z ++ textT a b ps)).map (fun s => Lib.trimB s 32) = ps
  | [], _, h, _ => absurd rfl h
  | [p], z, _, h => by
    have hc := h p (by simp)
    have e : sepS 44 (spc z ++ textT a b [p]) = [spc z ++ p] := by
      refine sepS_end 44 _ fun x hx => ?_
      rcases List.mem_append.1 hx with hx | hx
      · exact spc_nc z x hx
      · exact hc.nc x hx
    have ht := hc.trim z 0
    have e0 : spc 0 = [] := rfl
    rw [e0, List.append_nil] at ht
    rw [e, List.map_cons, List.map_nil, ht]
  | p :: q :: r, z, _, h => by
    have hc := h p (by simp)
    have e : spc z ++ textT a b (p :: q :: r) = (spc z ++ p ++ spc a) ++ 44 :: (spc b ++ textT a b (q :: r)) := by
      rw [textT]
      simp only [List.append_assoc]
    rw [e, sepS_cut 44 _ _ (fun x hx => ?_), List.map_cons, hc.trim z a, textT_sep a b (q :: r) b (by simp) (fun y hy => h y (by simp [hy]))]
    rcases List.mem_append.1 hx with hx | hx
    · rcases List.mem_append.1 hx with hx | hx
      · exact spc_nc z x hx
      · exact hc.nc x hx
    · exact spc_nc a x hx
theorem nms_cln : ∀ k < 13, ((nms.getD k []).head?.getD 32 == 32) = false ∧ (nms.getD k []).all (· != 44) = true := by decide
theorem decT_cln : ∀ n < 101, decT n ≠ [] ∧ ((decT n).getLast?.getD 32 == 32) = false ∧ (decT n).all (· != 44) = true := by decide
theorem pieceT_cln (v : List Nat) (k : Nat) (hk : k < 13) (hv : v.getD k 0 ≤ 100) : Cln (pieceT v k) := by
  obtain ⟨h1, h2⟩ := nms_cln k hk
  obtain ⟨h3, h4, h5⟩ := decT_cln (v.getD k 0) (by omega)
  unfold pieceT
  refine ⟨?_, ?_, fun b hb => ?_⟩
  · cases hw : nms.getD k [] with
    | nil => rw [hw] at h1; exact absurd h1 (by decide)
    | cons c w => rw [hw] at h1; exact ⟨c, _, rfl, h1⟩
  · have hl := List.dropLast_concat_getLast h3
    refine ⟨nms.getD k [] ++ 32 :: (decT (v.getD k 0)).dropLast, (decT (v.getD k 0)).getLast h3, ?_, ?_⟩
    · rw [List.append_assoc, List.cons_append, hl]
    · rw [List.getLast?_eq_some_getLast h3] at h4
      exact h4
  · rcases List.mem_append.1 hb with hb | hb
    · have := List.all_eq_true.1 h2 b hb
      simpa using this
    · rcases List.mem_cons.1 hb with hb | hb
      · rw [hb]; decide
      · have := List.all_eq_true.1 h5 b hb
        simpa using this
theorem dw_last (c : UInt8) (hc : (c == (32 : UInt8)) = false) : ∀ x : List UInt8, ∃ r, (x ++ [c]).dropWhile (· == 32) = r ++ [c]
  | [] => ⟨[], by rw [List.nil_append, List.dropWhile_cons_of_neg (by rw [hc]; decide)]⟩
  | d :: x => by
    by_cases hd : (d == 32) = true
    · obtain ⟨r, hr⟩ := dw_last c hc x
      exact ⟨r, by rw [List.cons_append, List.dropWhile_cons_of_pos (p := (· == 32)) hd, hr]⟩
    · exact ⟨d :: x, by rw [List.cons_append, List.dropWhile_cons_of_neg (p := (· == 32)) hd]⟩
/-- The entries in any order, joined with spaces, are read again. -/
theorem parT_text (a b : Nat) (v : List Nat) (hvl : v.length = 13) (hv : ∀ k < 13, v.getD k 0 ≤ 100) (ks : List Nat) (hn : ks.Nodup) (hk : ∀ k ∈ ks, k < 13) (ha : ∀ k < 13, k ∈ ks) (hz : (textT a b (ks.map (pieceT v))).length ≤ 8192) :
    parT (textT a b (ks.map (pieceT v))) = (0, v.map Int.ofNat) := by
  have hc : ∀ p ∈ ks.map (pieceT v), Cln p := fun p hp => by
    obtain ⟨k, hk2, rfl⟩ := List.mem_map.1 hp
    exact pieceT_cln v k (hk k hk2) (hv k (hk k hk2))
  have hne : ks.map (pieceT v) ≠ [] := fun e => by
    have h0 := ha 0 (by omega)
    rw [List.map_eq_nil_iff] at e
    rw [e] at h0
    cases h0
  have hs := textT_sep a b (ks.map (pieceT v)) 0 hne hc
  have e0 : spc 0 = [] := rfl
  rw [e0, List.nil_append] at hs
  unfold parT
  rw [if_neg (by omega), if_neg]
  · exact runT_all v hvl hv ks hn hk ha _ hs
  · intro e
    cases hp : ks.map (pieceT v) with
    | nil => exact hne hp
    | cons p r =>
      obtain ⟨c, w, hw, hc2⟩ := (hc p (by rw [hp]; simp)).hd
      have h1 : ∃ y, textT a b (p :: r) = c :: y := by
        cases r with
        | nil => exact ⟨w, hw⟩
        | cons q r => exact ⟨w ++ spc a ++ 44 :: (spc b ++ textT a b (q :: r)), by rw [textT, hw]; rfl⟩
      obtain ⟨y, hy⟩ := h1
      rw [hp, hy] at e
      unfold Lib.trimB Lib.trimLeftB Lib.trimRightB at e
      obtain ⟨z, hz2⟩ := dw_last c hc2 y.reverse
      rw [List.reverse_cons, hz2, List.reverse_append, List.reverse_cons, List.reverse_nil, List.nil_append, List.singleton_append, List.dropWhile_cons_of_neg (by rw [hc2]; decide)] at e
      cases e
end Go.Proofs.YthlhicegchkjjaaGreatDoor
