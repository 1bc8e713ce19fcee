/-
  Texts of cost models: what Parse returns, and what it returns for the entries in any order: plain laws; no program is in sight here.
-/
import Derived.Test.YthlhicegchkjjaaGreatDoorCtA
namespace Go.Proofs.YthlhicegchkjjaaGreatDoor
/-- The entries' names. -/
def nms : List (List UInt8) := [[97, 115, 115, 105, 103, 110], [98, 114, 97, 110, 99, 104], [108, 111, 111, 112], [99, 97, 108, 108], [111, 117, 116, 112, 117, 116], [114, 101, 108, 101, 97, 115, 101], [108, 111, 97, 100], [105, 110, 100, 101, 120], [97, 114, 105, 116, 104], [109, 117, 108, 116, 105, 112, 108, 121], [100, 105, 118, 105, 100, 101], [99, 111, 109, 112, 97, 114, 101], [108, 111, 103, 105, 99]]
def nameIx (w : List UInt8) : Option Nat := nms.findIdx? (· == w)
/-- One piece: the code, the entries, which of them are set. -/
def stepT (l : List Int) (sn : List Bool) (s : List UInt8) : Int × List Int × List Bool :=
  match partT (Lib.trimB s 32) with
  | none => (6, l, sn)
  | some (w, d) => match nameIx w with
    | none => (7, l, sn)
    | some i => if sn.getD i false then (8, l, sn) else if 100 < valD 0 d then (3, l, sn) else (0, l.set i (valD 0 d : Nat), sn.set i true)
def zeroL : List Int := List.replicate 13 0
/-- All pieces: the code and the entries. -/
def runT : List Int → List Bool → List (List UInt8) → Int × List Int
  | l, _, [] => (0, l)
  | l, sn, s :: r => if (stepT l sn s).1 ≠ 0 then ((stepT l sn s).1, zeroL) else runT (stepT l sn s).2.1 (stepT l sn s).2.2 r
/-- What Parse returns: the code and the entries. -/
def parT (t : List UInt8) : Int × List Int :=
  if 8192 < t.length then (5, zeroL) else if Lib.trimB t 32 = [] then (0, zeroL) else runT zeroL (List.replicate 13 false) (sepS 44 t)
theorem tw_app : ∀ (w r : List UInt8), w.all lowc = true → (w ++ 32 :: r).takeWhile lowc = w ∧ (w ++ 32 :: r).dropWhile lowc = 32 :: r
  | [], r, _ => by simp [low32]
  | c :: w, r, h => by
    rw [List.all_cons, Bool.and_eq_true] at h
    obtain ⟨h1, h2⟩ := tw_app w r h.2
    rw [List.cons_append, List.takeWhile_cons_of_pos h.1, List.dropWhile_cons_of_pos h.1, h1, h2]
    exact ⟨rfl, rfl⟩
theorem dig_head {c : UInt8} {d : List UInt8} (h : numOk (c :: d) = true) : (c == 32) = false := by
  unfold numOk at h
  rw [Bool.and_eq_true, List.all_cons] at h
  have h1 := (Bool.and_eq_true _ _ ▸ h.2 : digc c = true ∧ d.all digc = true).1
  unfold digc at h1
  rw [decide_eq_true_iff] at h1
  rw [beq_eq_false_iff_ne]
  intro e
  rw [e] at h1
  exact absurd h1 (by decide)
theorem partT_piece (w d : List UInt8) (hw : w ≠ []) (hl : w.all lowc = true) (hd : numOk d = true) : partT (w ++ 32 :: d) = some (w, d) := by
  obtain ⟨h1, h2⟩ := tw_app w d hl
  have hn : numT (w ++ 32 :: d) = d := by
    unfold numT
    rw [h2]
    cases d with
    | nil => cases hd
    | cons c d =>
      rw [List.dropWhile_cons_of_pos (by decide), List.dropWhile_cons_of_neg (by rw [dig_head hd]; decide)]
  unfold partT
  rw [h1, h2, hn, if_pos ⟨hw, rfl, hd⟩]
theorem nms_ok : ∀ k < 13, nms.getD k [] ≠ [] ∧ (nms.getD k []).all lowc = true ∧ nameIx (nms.getD k []) = some k := by decide
/-- The digits of a number up to 100. -/
def decT (n : Nat) : List UInt8 := if n < 10 then [UInt8.ofNat (48 + n)] else if n < 100 then [UInt8.ofNat (48 + n / 10), UInt8.ofNat (48 + n % 10)] else [49, 48, 48]
theorem decT_ok : ∀ n < 101, numOk (decT n) = true ∧ valD 0 (decT n) = n := by decide
/-- An entry's piece. -/
def pieceT (l : List Nat) (k : Nat) : List UInt8 := nms.getD k [] ++ 32 :: decT (l.getD k 0)
theorem stepT_piece (v : List Nat) (hv : ∀ k < 13, v.getD k 0 ≤ 100) (k : Nat) (hk : k < 13) (l : List Int) (sn : List Bool) (hs : sn.getD k false = false) (s : List UInt8) (h : Lib.trimB s 32 = pieceT v k) :
    stepT l sn s = (0, l.set k (v.getD k 0 : Nat), sn.set k true) := by
  obtain ⟨h1, h2, h3⟩ := nms_ok k hk
  obtain ⟨h4, h5⟩ := decT_ok (v.getD k 0) (by have := hv k hk; omega)
  unfold stepT
  rw [h]
  unfold pieceT
  rw [partT_piece _ _ h1 h2 h4]
  simp only [h3, hs, h5]
  rw [if_neg (by decide), if_neg (by have := hv k hk; omega)]
/-- Entries set one after another. -/
def setT (v : List Nat) : List Int → List Nat → List Int
  | l, [] => l
  | l, k :: ks => setT v (l.set k (v.getD k 0 : Nat)) ks
theorem runT_pieces (v : List Nat) (hv : ∀ k < 13, v.getD k 0 ≤ 100) : ∀ (ks : List Nat) (ss : List (List UInt8)) (l : List Int) (sn : List Bool), ks.Nodup → (∀ k ∈ ks, k < 13 ∧ sn.getD k false = false) → sn.length = 13 → ss.map (fun s => Lib.trimB s 32) = ks.map (pieceT v) →
    runT l sn ss = (0, setT v l ks)
  | [], ss, l, sn, _, _, _, h => by
    have : ss = [] := by simpa using h
    subst this
    rfl
  | k :: ks, [], _, _, _, _, _, h => by simp at h
  | k :: ks, s :: ss, l, sn, hn, ha, hl, h => by
    simp only [List.map_cons, List.cons.injEq] at h
    have hk := ha k (by simp)
    have hst := stepT_piece v hv k hk.1 l sn hk.2 s h.1
    unfold runT
    rw [hst, if_neg (by simp)]
    rw [List.nodup_cons] at hn
    refine runT_pieces v hv ks ss _ _ hn.2 (fun j hj => ⟨(ha j (by simp [hj])).1, ?_⟩) (by simpa using hl) h.2
    have hne : k ≠ j := fun e => hn.1 (e ▸ hj)
    have := (ha j (by simp [hj])).2
    simp only [List.getD_eq_getElem?_getD] at this ⊢
    rw [List.getElem?_set_ne hne]
    exact this
theorem setT_len (v : List Nat) : ∀ (ks : List Nat) (l : List Int), (setT v l ks).length = l.length
  | [], _ => rfl
  | k :: ks, l => by
    unfold setT
    rw [setT_len v ks]
    simp
theorem setT_keep (v : List Nat) : ∀ (ks : List Nat) (l : List Int) (j : Nat), j ∉ ks → (setT v l ks)[j]? = l[j]?
  | [], _, _, _ => rfl
  | k :: ks, l, j, h => by
    unfold setT
    rw [setT_keep v ks _ j (fun e => h (by simp [e])), List.getElem?_set_ne (fun e => h (by simp [e]))]
theorem setT_at (v : List Nat) : ∀ (ks : List Nat) (l : List Int) (j : Nat), j ∈ ks → j < l.length → ks.Nodup → (setT v l ks)[j]? = some ((v.getD j 0 : Nat) : Int)
  | k :: ks, l, j, h, hj, hn => by
    rw [List.nodup_cons] at hn
    unfold setT
    by_cases e : j = k
    · subst e
      rw [setT_keep v ks _ j hn.1, List.getElem?_set_self hj]
    · have hm : j ∈ ks := by
        rcases List.mem_cons.1 h with h | h
        · exact absurd h e
        · exact h
      exact setT_at v ks _ j hm (by simpa using hj) hn.2
/-- The entries in any order: all of them are set. -/
theorem runT_all (v : List Nat) (hvl : v.length = 13) (hv : ∀ k < 13, v.getD k 0 ≤ 100) (ks : List Nat) (hn : ks.Nodup) (hk : ∀ k ∈ ks, k < 13) (ha : ∀ k < 13, k ∈ ks) (ss : List (List UInt8)) (h : ss.map (fun s => Lib.trimB s 32) = ks.map (pieceT v)) :
    runT zeroL (List.replicate 13 false) ss = (0, v.map Int.ofNat) := by
  rw [runT_pieces v hv ks ss zeroL _ hn (fun k hk2 => ⟨hk k hk2, ?_⟩) (by simp) h]
  · refine congrArg (Prod.mk 0) (List.ext_getElem? fun j => ?_)
    by_cases hj : j < 13
    · rw [setT_at v ks zeroL j (ha j hj) (by simpa [zeroL] using hj) hn, List.getElem?_map, List.getD_eq_getElem?_getD, List.getElem?_eq_getElem (by omega)]
      rfl
    · rw [List.getElem?_eq_none (by rw [setT_len]; simp [zeroL]; omega), List.getElem?_eq_none (by simp; omega)]
  · rw [List.getD_eq_getElem?_getD, List.getElem?_replicate]
    split <;> rfl
end Go.Proofs.YthlhicegchkjjaaGreatDoor
