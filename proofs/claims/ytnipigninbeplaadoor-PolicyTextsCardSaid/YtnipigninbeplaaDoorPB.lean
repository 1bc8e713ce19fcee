/-
  A table of flags in memory, row by row; no walk stands here.
  The table of a lattice while it is made; no walk stands here.
-/
import Derived.Test.YtnipigninbeplaaDoorFlFr
import Derived.Test.YtnipigninbeplaaDoorPA
namespace Go.Proofs.YtnipigninbeplaaDoor
open Go.RowKit

/-- The first k rows stand in the blocks that rb names, their slices in block q. -/
structure Mem (W : World) (q n k : Nat) (rb : Nat → Nat) (M : Mx) : Prop where
  sq : Sq n M
  out : Cs W q ((List.range n).map fun i => if i < k then Value.slice (some ⟨rb i, 0, none⟩) n n else Value.slice none 0 0)
  row : ∀ i, i < k → Cs W (rb i) ((M.getD i []).map Value.bool)
  inj : ∀ i j, i < k → j < k → rb i = rb j → i = j
  ne : ∀ i, i < k → rb i ≠ q
  le : k ≤ n
theorem Mem.next {W W' : World} {q n k : Nat} {rb : Nat → Nat} {M : Mx} (h : Mem W q n k rb M) (hb : Below W.heap.size W W') : Mem W' q n k rb M :=
  ⟨h.sq, h.out.next hb, fun i hi => (h.row i hi).next hb, h.inj, h.ne, h.le⟩
theorem Mem.alloc {W : World} {q n k : Nat} {rb : Nat → Nat} {M : Mx} (h : Mem W q n k rb M) (o : Obj) : Mem (W.alloc o) q n k rb M := h.next ((Below.refl _ _).alloc (Nat.le_refl _) _)
theorem Mem.drew {W : World} {q n k : Nat} {rb : Nat → Nat} {M : Mx} (h : Mem W q n k rb M) : Mem W.drew q n k rb M := h.next (Below.refl _ _).drew
theorem Mem.other {W : World} {q n k : Nat} {rb : Nat → Nat} {M : Mx} (h : Mem W q n k rb M) {p : Addr} (hq : p.block ≠ q) (hr : ∀ i, i < k → p.block ≠ rb i) (v : Value) : Mem (W.setCell p v) q n k rb M :=
  ⟨h.sq, h.out.other hq v, fun i hi => (h.row i hi).other (hr i hi) v, h.inj, h.ne, h.le⟩
theorem Mem.fr {S : Nat → Prop} {W W' : World} {q n k : Nat} {rb : Nat → Nat} {M : Mx} (h : Mem W q n k rb M) (hf : Fr S W W') (hq : ¬ S q) (hr : ∀ i, i < k → ¬ S (rb i)) : Mem W' q n k rb M :=
  ⟨h.sq, h.out.fr hf hq, fun i hi => (h.row i hi).fr hf (hr i hi), h.inj, h.ne, h.le⟩
theorem Mem.rowAt {W : World} {q n k : Nat} {rb : Nat → Nat} {M : Mx} (h : Mem W q n k rb M) (i : Nat) (hi : i < k) : W.cell? ⟨q, i, none⟩ = some (.slice (some ⟨rb i, 0, none⟩) n n) := by
  refine h.out.at i _ ?_
  have := h.le
  simp [show i < n by omega, hi]
theorem Mem.nilAt {W : World} {q n k : Nat} {rb : Nat → Nat} {M : Mx} (h : Mem W q n k rb M) (i : Nat) (hi : ¬ i < k) (hn : i < n) : W.cell? ⟨q, i, none⟩ = some (.slice none 0 0) := by
  refine h.out.at i _ ?_
  simp [hn, hi]
theorem Mem.at {W : World} {q n k : Nat} {rb : Nat → Nat} {M : Mx} (h : Mem W q n k rb M) (i j : Nat) (hi : i < k) (hj : j < n) : W.cell? ⟨rb i, j, none⟩ = some (.bool (mget M i j)) := by
  refine (h.row i hi).at j _ ?_
  have hl := h.sq.2 i (by have := h.le; omega)
  unfold mget
  rw [List.getElem?_map, List.getD_eq_getElem?_getD (l := M.getD i []), List.getElem?_eq_getElem (by omega)]
  rfl
/-- A flag is written. -/
def mset (M : Mx) (i j : Nat) (b : Bool) : Mx := M.set i ((M.getD i []).set j b)
theorem Sq.mset {n : Nat} {M : Mx} (h : Sq n M) (i j : Nat) (b : Bool) : Sq n (mset M i j b) := by
  refine ⟨by rw [Go.Proofs.YtnipigninbeplaaDoor.mset, List.length_set]; exact h.1, fun k hk => ?_⟩
  have hkl : k < M.length := by rw [h.1]; exact hk
  unfold Go.Proofs.YtnipigninbeplaaDoor.mset
  by_cases hik : i = k
  · subst hik
    rw [List.getD_eq_getElem?_getD, List.getElem?_set_self hkl, Option.getD_some, List.length_set]
    exact h.2 i hk
  · rw [List.getD_eq_getElem?_getD, List.getElem?_set_ne hik, ← List.getD_eq_getElem?_getD]
    exact h.2 k hk
theorem mset_true (M : Mx) (i j : Nat) : mset M i j true = mput M i j := rfl
theorem set_getD_self {α : Type} (l : List α) (i : Nat) (d : α) : l.set i (l.getD i d) = l := by
  by_cases h : i < l.length
  · refine List.ext_getElem? fun k => ?_
    by_cases hk : i = k
    · subst hk
      rw [List.getElem?_set_self h, List.getD_eq_getElem?_getD, List.getElem?_eq_getElem h, Option.getD_some]
    · rw [List.getElem?_set_ne hk]
  · rw [List.set_eq_of_length_le (by omega)]
theorem mset_same (M : Mx) (i j : Nat) : mset M i j (mget M i j) = M := by
  unfold mset mget
  rw [set_getD_self, set_getD_self]
/-- One step of the closure, as the program writes it. -/
theorem mset_step (M : Mx) (k i j : Nat) : mset M i j (mget M i j || (mget M i k && mget M k j)) = stpM M k i j := by
  unfold stpM
  by_cases h : (mget M i k && mget M k j) = true
  · rw [if_pos h, h, Bool.or_true, mset_true]
  · rw [if_neg h]
    have h' : (mget M i k && mget M k j) = false := by simpa using h
    rw [h', Bool.or_false, mset_same]
theorem Mem.set {W : World} {q n k : Nat} {rb : Nat → Nat} {M : Mx} (h : Mem W q n k rb M) (i j : Nat) (b : Bool) (hi : i < k) (hj : j < n) : Mem (W.setCell ⟨rb i, j, none⟩ (.bool b)) q n k rb (mset M i j b) := by
  have hin : i < n := by have := h.le; omega
  have hil : i < M.length := by rw [h.sq.1]; exact hin
  refine ⟨h.sq.mset i j b, h.out.other (h.ne i hi) _, fun a ha => ?_, h.inj, h.ne, h.le⟩
  by_cases hai : i = a
  · subst hai
    have e : ((Go.Proofs.YtnipigninbeplaaDoor.mset M i j b).getD i []).map Value.bool = ((M.getD i []).map Value.bool).set j (.bool b) := by
      unfold Go.Proofs.YtnipigninbeplaaDoor.mset
      rw [List.getD_eq_getElem?_getD, List.getElem?_set_self hil, Option.getD_some, List.map_set]
    rw [e]
    exact (h.row i hi).set j _ (by rw [List.length_map, h.sq.2 i hin]; exact hj)
  · have e : (Go.Proofs.YtnipigninbeplaaDoor.mset M i j b).getD a [] = M.getD a [] := by
      unfold Go.Proofs.YtnipigninbeplaaDoor.mset
      rw [List.getD_eq_getElem?_getD, List.getElem?_set_ne hai, ← List.getD_eq_getElem?_getD]
    rw [e]
    exact (h.row a ha).other (fun hx => hai (h.inj i a hi ha hx)) _
/-- One row more. -/
theorem Mem.add {W : World} {q n k g : Nat} {rb : Nat → Nat} {M : Mx} (h : Mem W q n k rb M) (hk : k < n) (hg : Cs W g ((M.getD k []).map Value.bool)) (hq : g ≠ q) (hr : ∀ i, i < k → rb i ≠ g) :
    Mem (W.setCell ⟨q, k, none⟩ (.slice (some ⟨g, 0, none⟩) n n)) q n (k + 1) (fun i => if i = k then g else rb i) M := by
  refine ⟨h.sq, ?_, fun i hi => ?_, fun i j hi hj e => ?_, fun i hi => ?_, hk⟩
  · have := h.out.set k (.slice (some ⟨g, 0, none⟩) n n) (by simpa using hk)
    have e : ((List.range n).map fun i => if i < k then Value.slice (some ⟨rb i, 0, none⟩) n n else Value.slice none 0 0).set k (.slice (some ⟨g, 0, none⟩) n n) = (List.range n).map fun i => if i < k + 1 then Value.slice (some ⟨if i = k then g else rb i, 0, none⟩) n n else Value.slice none 0 0 := by
      refine List.ext_getElem (by simp) fun j h1 h2 => ?_
      rw [List.getElem_set]
      by_cases hj : k = j
      · subst hj
        simp
      · simp only [if_neg hj, List.getElem_map, List.getElem_range]
        by_cases hl : j < k
        · rw [if_pos hl, if_pos (by omega), if_neg (by omega)]
        · rw [if_neg hl, if_neg (by omega)]
    rw [e] at this
    exact this
  · by_cases hik : i = k
    · subst hik
      rw [if_pos rfl]
      exact hg.other (fun e => hq e.symm) _
    · rw [if_neg hik]
      exact (h.row i (by omega)).other (fun e => h.ne i (by omega) e.symm) _
  · by_cases hik : i = k
    · by_cases hjk : j = k
      · omega
      · rw [if_pos hik, if_neg hjk] at e
        exact absurd e.symm (hr j (by omega))
    · by_cases hjk : j = k
      · rw [if_neg hik, if_pos hjk] at e
        exact absurd e (hr i (by omega))
      · rw [if_neg hik, if_neg hjk] at e
        exact h.inj i j (by omega) (by omega) e
  · by_cases hik : i = k
    · rw [if_pos hik]; exact hq
    · rw [if_neg hik]; exact h.ne i (by omega)
/-- The rows of the table ahead of the pairs, of which k have their flag. -/
def begM (n k : Nat) : Mx := (List.range n).map fun a => if a < k then (List.replicate n false).set a true else List.replicate n false
theorem begM_sq (n k : Nat) : Sq n (begM n k) := by
  refine ⟨by simp [begM], fun i hi => ?_⟩
  unfold begM
  rw [List.getD_eq_getElem?_getD, List.getElem?_map, List.getElem?_range hi, Option.map_some, Option.getD_some]
  split <;> simp
theorem begM_row (n k : Nat) (h : k < n) : (begM n k).getD k [] = List.replicate n false := by
  unfold begM
  rw [List.getD_eq_getElem?_getD, List.getElem?_map, List.getElem?_range h, Option.map_some, Option.getD_some, if_neg (by omega)]
theorem begM_put (n k : Nat) (h : k < n) : mput (begM n k) k k = begM n (k + 1) := by
  unfold mput
  rw [begM_row n k h]
  unfold begM
  refine List.ext_getElem (by simp) fun j h1 h2 => ?_
  rw [List.getElem_set]
  by_cases hj : k = j
  · subst hj
    simp
  · simp only [if_neg hj, List.getElem_map, List.getElem_range]
    by_cases hl : j < k
    · rw [if_pos hl, if_pos (by omega)]
    · rw [if_neg hl, if_neg (by omega)]
theorem begM_end (n : Nat) : begM n n = unitM n := by
  unfold begM unitM
  refine List.map_congr_left fun a ha => ?_
  rw [if_pos (by simpa using ha)]
/-- Nothing but slices that are nil. -/
theorem Mem.zero {W : World} {q n : Nat} {rb : Nat → Nat} (h : Cs W q (List.replicate n (Value.slice none 0 0))) : Mem W q n 0 rb (begM n 0) := by
  refine ⟨begM_sq n 0, ?_, fun i hi => absurd hi (by omega), fun i j hi => absurd hi (by omega), fun i hi => absurd hi (by omega), Nat.zero_le _⟩
  have e : ((List.range n).map fun i => if i < 0 then Value.slice (some ⟨rb i, 0, none⟩) n n else Value.slice none 0 0) = List.replicate n (Value.slice none 0 0) := by
    refine List.ext_getElem (by simp) fun j h1 h2 => ?_
    simp
  rw [e]
  exact h
theorem pairM_snoc (l : List (Nat × Nat)) (p : Nat × Nat) : ∀ M, pairM M (l ++ [p]) = mput (pairM M l) p.1 p.2 := by
  induction l with
  | nil => intro M; rfl
  | cons a l ih => intro M; exact ih _
/-- The table by way of the first m levels; in the plane m the first a rows; in the row the first b places. -/
def rowU (k i : Nat) (M : Mx) : Nat → Mx
  | 0 => M
  | j + 1 => stpM (rowU k i M j) k i j
def planeU (n k : Nat) (M : Mx) : Nat → Mx
  | 0 => M
  | i + 1 => rowU k i (planeU n k M i) n
def closU (n : Nat) (M : Mx) : Nat → Mx
  | 0 => M
  | k + 1 => planeU n k (closU n M k) n
theorem rowM_U (n k i : Nat) (M : Mx) : ∀ m j, j + m = n → rowM n k i m (rowU k i M j) = rowU k i M n
  | 0, j, h => by have : j = n := by omega
                  subst this; rfl
  | m + 1, j, h => by
    unfold rowM
    have : n - (m + 1) = j := by omega
    rw [this]
    exact rowM_U n k i M m (j + 1) (by omega)
theorem rowM_eq (n k i : Nat) (M : Mx) : rowM n k i n M = rowU k i M n := rowM_U n k i M n 0 (by omega)
theorem planeM_U (n k : Nat) (M : Mx) : ∀ m j, j + m = n → planeM n k m (planeU n k M j) = planeU n k M n
  | 0, j, h => by have : j = n := by omega
                  subst this; rfl
  | m + 1, j, h => by
    unfold planeM
    have : n - (m + 1) = j := by omega
    rw [this, rowM_eq]
    exact planeM_U n k M m (j + 1) (by omega)
theorem planeM_eq (n k : Nat) (M : Mx) : planeM n k n M = planeU n k M n := planeM_U n k M n 0 (by omega)
theorem closM_U (n : Nat) (M : Mx) : ∀ m j, j + m = n → closM n m (closU n M j) = closU n M n
  | 0, j, h => by have : j = n := by omega
                  subst this; rfl
  | m + 1, j, h => by
    unfold closM
    have : n - (m + 1) = j := by omega
    rw [this, planeM_eq]
    exact closM_U n M m (j + 1) (by omega)
theorem closM_eq (n : Nat) (M : Mx) : closM n n M = closU n M n := closM_U n M n 0 (by omega)
theorem leM_eq (n : Nat) (l : List (Nat × Nat)) : leM n l = closU n (pairM (unitM n) l) n := closM_eq n _

theorem Fr.fresh {S : Nat → Prop} {a b : World} (h : Fr S a b) {p : Addr} (hp : a.heap.size ≤ p.block) (u : Value) : Fr S a (b.setCell p u) :=
  ⟨h.os, h.tape, h.output, Nat.le_trans h.size (by simp [World.setCell]), fun k hk hs => (Below.heap_setCell _ _ _ _ (fun e => by omega)).trans (h.block k hk hs)⟩
theorem Fr.next {S : Nat → Prop} {a b c : World} (h : Fr S a b) (hb : Below b.heap.size b c) : Fr S a c := h.trans (Fr.of hb)
/-- The lattice's block with its new table. -/
structure Clo (w : World) (b0 : Nat) (vs : List Value) (W : World) (q n k : Nat) (rb : Nat → Nat) (M : Mx) : Prop where
  fr : Fr (· = b0) w W
  cs : Cs W b0 (vs.set 2 (.slice (some ⟨q, 0, none⟩) n n))
  mem : Mem W q n k rb M
  lt : b0 < w.heap.size
  hq : w.heap.size ≤ q
  hr : ∀ i, i < k → w.heap.size ≤ rb i
theorem Clo.next {w : World} {b0 : Nat} {vs : List Value} {W W' : World} {q n k : Nat} {rb : Nat → Nat} {M : Mx} (h : Clo w b0 vs W q n k rb M) (hb : Below W.heap.size W W') : Clo w b0 vs W' q n k rb M :=
  ⟨h.fr.next hb, h.cs.next hb, h.mem.next hb, h.lt, h.hq, h.hr⟩
theorem Clo.alloc {w : World} {b0 : Nat} {vs : List Value} {W : World} {q n k : Nat} {rb : Nat → Nat} {M : Mx} (h : Clo w b0 vs W q n k rb M) (o : Obj) : Clo w b0 vs (W.alloc o) q n k rb M := h.next ((Below.refl _ _).alloc (Nat.le_refl _) _)
theorem Clo.set {w : World} {b0 : Nat} {vs : List Value} {W : World} {q n k : Nat} {rb : Nat → Nat} {M : Mx} (h : Clo w b0 vs W q n k rb M) (i j : Nat) (b : Bool) (hi : i < k) (hj : j < n) :
    Clo w b0 vs (W.setCell ⟨rb i, j, none⟩ (.bool b)) q n k rb (mset M i j b) :=
  ⟨h.fr.fresh (h.hr i hi) _, h.cs.other (fun e => by have := h.hr i hi; have := h.lt; simp only at e; omega) _, h.mem.set i j b hi hj, h.lt, h.hq, h.hr⟩
theorem Clo.zero {w : World} {b0 : Nat} {vs : List Value} {n : Nat} {rb : Nat → Nat} (T : TypeId) (hb : b0 < w.heap.size) (hc : Cs w b0 vs) (hl : 2 < vs.length) :
    Clo w b0 vs ((w.alloc (.cells (List.replicate n (Value.slice none 0 0)).toArray T)).setCell ⟨b0, 2, none⟩ (.slice (some ⟨w.heap.size, 0, none⟩) n n)) w.heap.size n 0 rb (begM n 0) :=
  ⟨Fr.setCell (S := (· = b0)) ((Fr.refl _ w).alloc _) (p := ⟨b0, 2, none⟩) rfl _, (hc.alloc _).set 2 _ hl, (Mem.zero (by have := Cs.new w (List.replicate n (Value.slice none 0 0)).toArray T; simpa using this)).other (by simp; omega) (fun i hi => absurd hi (by omega)) _, hb, Nat.le_refl _, fun i hi => absurd hi (by omega)⟩
/-- One row more, with its flag. -/
theorem Clo.row {w : World} {b0 : Nat} {vs : List Value} {W : World} {q n k : Nat} {rb : Nat → Nat} (T : TypeId) (h : Clo w b0 vs W q n k rb (begM n k)) (hk : k < n) :
    Clo w b0 vs (((W.alloc (.cells (List.replicate n (Value.bool false)).toArray T)).setCell ⟨q, k, none⟩ (.slice (some ⟨W.heap.size, 0, none⟩) n n)).setCell ⟨W.heap.size, k, none⟩ (.bool true)) q n (k + 1) (fun i => if i = k then W.heap.size else rb i) (begM n (k + 1)) := by
  have h1 := h.alloc (.cells (List.replicate n (Value.bool false)).toArray T)
  have hn := Cs.new W (List.replicate n (Value.bool false)).toArray T
  have hws := h.fr.size
  have hqw := h.mem.out.lt
  have h2 : Clo w b0 vs ((W.alloc (.cells (List.replicate n (Value.bool false)).toArray T)).setCell ⟨q, k, none⟩ (.slice (some ⟨W.heap.size, 0, none⟩) n n)) q n (k + 1) (fun i => if i = k then W.heap.size else rb i) (begM n k) := by
    refine ⟨h1.fr.fresh h.hq _, h1.cs.other (fun e => by have := h.hq; have := h.lt; simp only at e; omega) _, ?_, h.lt, h.hq, fun i hi => ?_⟩
    · refine h1.mem.add hk ?_ (by omega) (fun i hi => by have := (h.mem.row i hi).lt; omega)
      rw [begM_row n k hk]
      simpa using hn
    · by_cases e : i = k
      · simp only [if_pos e]; exact hws
      · simp only [if_neg e]; exact h.hr i (by omega)
  have h3 := h2.set k k true (by omega) hk
  rw [mset_true, begM_put n k hk] at h3
  simpa using h3
theorem Clo.rowCell {w : World} {b0 : Nat} {vs : List Value} {W : World} {q n k : Nat} {rb : Nat → Nat} (T : TypeId) (h : Clo w b0 vs W q n k rb (begM n k)) (hk : k < n) :
    ((W.alloc (.cells (List.replicate n (Value.bool false)).toArray T)).setCell ⟨q, k, none⟩ (.slice (some ⟨W.heap.size, 0, none⟩) n n)).cell? ⟨q, k, none⟩ = some (.slice (some ⟨W.heap.size, 0, none⟩) n n) := by
  have := (h.alloc (.cells (List.replicate n (Value.bool false)).toArray T)).mem.nilAt k (by omega) hk
  rw [World.cell?_setCell_same _ ⟨q, k, none⟩ _ this]
end Go.Proofs.YtnipigninbeplaaDoor
