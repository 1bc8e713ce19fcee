/-
  What a policy of code 0 is, and how long its text may be: plain laws; no program is in sight here.
  What Parse returns, and how what is read grows: plain laws; no program is in sight here.
  Parse reads what Print has printed: a plain law; no program is in sight here.
  The worked example of the chapter: plain laws; no program is in sight here.
  Lines that say nothing, put before each line of a text: a plain law; no program is in sight here.
-/
import Derived.Test.YtnipigninbeplaaDoorPq
import Derived.Test.YtnipigninbeplaaDoorPE
namespace Go.Proofs.YtnipigninbeplaaDoor
open Go.RowKit

theorem namesC_ok : ∀ (xs seen : List ByteArray), namesC seen xs = 0 → ∀ s ∈ xs, lnameB s = true
  | [], _, _, s, hs => by cases hs
  | x :: xs, seen, h, s, hs => by
    unfold namesC at h
    split at h
    · cases h
    · rename_i h1
      split at h
      · cases h
      · rcases List.mem_cons.1 hs with rfl | hs
        · simpa using h1
        · exact namesC_ok xs _ h s hs
theorem lname_len {s : ByteArray} (h : lnameB s = true) : 1 ≤ s.size ∧ s.size ≤ 12 := by
  unfold lnameB at h
  simp only [Bool.and_eq_true, decide_eq_true_eq] at h
  exact ⟨h.1, h.2.1⟩
theorem labelsC_ok {n : Int} : ∀ (xs : List Lb) (seen : List ByteArray), labelsC n seen xs = 0 → ∀ x ∈ xs, nameB x.name = true ∧ 0 ≤ x.lev ∧ x.lev < n
  | [], _, _, x, hx => by cases hx
  | y :: xs, seen, h, x, hx => by
    unfold labelsC at h
    split at h
    · cases h
    · rename_i h1
      split at h
      · cases h
      · split at h
        · cases h
        · rename_i h3
          rcases List.mem_cons.1 hx with rfl | hx
          · exact ⟨by simpa using h1, by omega, by omega⟩
          · exact labelsC_ok xs _ h x hx
theorem newC_ok {xs : List ByteArray} {o : List (Int × Int)} (h : newC xs o = 0) : (1 ≤ xs.length ∧ xs.length ≤ 12) ∧ namesC [] xs = 0 ∧ o.all (inPb xs.length) = true := by
  unfold newC at h
  split at h
  · cases h
  · rename_i h1
    split at h
    · rename_i h2; exact absurd h h2
    · rename_i h2
      split at h
      · cases h
      · rename_i h3
        exact ⟨by omega, by simpa using h2, by simpa using h3⟩
/-- A policy of code 0. -/
structure Vld (p : Py) : Prop where
  n1 : 1 ≤ p.levels.length
  n12 : p.levels.length ≤ 12
  nm : ∀ s ∈ p.levels, lnameB s = true
  od : ∀ q ∈ p.order, inPb p.levels.length q = true
  ni : p.inputs.length ≤ 64
  nh : p.hatches.length ≤ 64
  li : ∀ x ∈ p.inputs, nameB x.name = true ∧ 0 ≤ x.lev ∧ x.lev < p.levels.length
  lh : ∀ x ∈ p.hatches, nameB x.name = true ∧ 0 ≤ x.lev ∧ x.lev < p.levels.length
  ob : 0 ≤ p.obs ∧ p.obs < p.levels.length
  new : newC p.levels p.order = 0
theorem polC_ok {p : Py} (h : polC p = 0) : Vld p := by
  unfold polC at h
  split at h
  · rename_i h1; exact absurd h h1
  · rename_i h1
    have h1' : newC p.levels p.order = 0 := by simpa using h1
    obtain ⟨h2, h3, h4⟩ := newC_ok h1'
    split at h
    · cases h
    · rename_i h5
      split at h
      · rename_i h6; exact absurd h h6
      · rename_i h6
        split at h
        · rename_i h7; exact absurd h h7
        · rename_i h7
          split at h
          · cases h
          · rename_i h8
            exact ⟨h2.1, h2.2, namesC_ok _ _ h3, List.all_eq_true.1 h4, by omega, by omega, labelsC_ok _ _ (by simpa using h6), labelsC_ok _ _ (by simpa using h7), ⟨by omega, by omega⟩, h1'⟩
theorem lvT_len {names : List ByteArray} (h : ∀ s ∈ names, lnameB s = true) (i : Int) : (lvT names i).length ≤ 12 := by
  unfold lvT
  rw [List.getD_eq_getElem?_getD]
  cases hg : names[i.toNat]? with
  | none => simp
  | some s =>
    rw [Option.getD_some, Array.length_toList]
    exact (lname_len (h s (List.mem_of_getElem? hg))).2
theorem join_len (sep : List UInt8) (m : Nat) : ∀ l : List (List UInt8), (∀ x ∈ l, x.length ≤ m) → (Lib.join l sep).length ≤ l.length * (m + sep.length)
  | [], _ => by simp [Lib.join_nil]
  | x :: l, h => by
    have ih : ∀ l : List (List UInt8), (∀ x ∈ l, x.length ≤ m) → (Lib.joinTail sep l).length ≤ l.length * (m + sep.length) := by
      intro l
      induction l with
      | nil => intro _; simp [Lib.joinTail]
      | cons y l ih =>
        intro h
        have h1 := ih (fun x hx => h x (List.mem_cons_of_mem _ hx))
        have h2 := h y (List.mem_cons_self ..)
        have e : Lib.joinTail sep (y :: l) = sep ++ y ++ Lib.joinTail sep l := by simp [Lib.joinTail]
        rw [e, List.length_append, List.length_append, List.length_cons, Nat.add_mul]
        omega
    have h1 := ih l (fun x hx => h x (List.mem_cons_of_mem _ hx))
    have h2 := h x (List.mem_cons_self ..)
    rw [Lib.join_cons, List.length_append, List.length_cons, Nat.add_mul]
    omega
theorem namU_len {names : List ByteArray} (h : ∀ s ∈ names, lnameB s = true) (k : Nat) : (namU names k).length ≤ names.length * 14 := by
  unfold namU
  have h1 := join_len tSep 12 ((names.take k).map (·.data.toList)) (fun x hx => by
    rw [List.mem_map] at hx
    obtain ⟨s, hs, rfl⟩ := hx
    rw [Array.length_toList]
    exact (lname_len (h s (List.mem_of_mem_take hs))).2)
  rw [List.length_map, List.length_take] at h1
  have : tSep.length = 2 := rfl
  rw [this] at h1
  exact Nat.le_trans h1 (Nat.mul_le_mul_right _ (Nat.min_le_right _ _))
theorem pairT_len {names : List ByteArray} (h : ∀ s ∈ names, lnameB s = true) (q : Int × Int) : (pairT names q).length ≤ 27 := by
  unfold pairT
  have h1 := lvT_len h q.1
  have h2 := lvT_len h q.2
  have : tLt.length = 3 := rfl
  rw [List.length_append, List.length_append, this]
  omega
theorem ordU_len {names : List ByteArray} (h : ∀ s ∈ names, lnameB s = true) (l : List (Int × Int)) (k : Nat) : (ordU names l k).length ≤ 6 + l.length * 29 := by
  unfold ordU
  split
  · simp
  · have h1 := join_len tSep 27 ((l.take k).map (pairT names)) (fun x hx => by
      rw [List.mem_map] at hx
      obtain ⟨q, _, rfl⟩ := hx
      exact pairT_len h q)
    rw [List.length_map, List.length_take] at h1
    have e1 : tSep.length = 2 := rfl
    have e2 : tOrder.length = 6 := rfl
    rw [e1] at h1
    rw [List.length_append, e2]
    have := Nat.mul_le_mul_right 29 (Nat.min_le_right k l.length)
    omega
theorem name_len {s : ByteArray} (h : nameB s = true) : s.size ≤ 40 := by
  unfold nameB at h
  simp only [Bool.and_eq_true, decide_eq_true_eq] at h
  exact h.2.1
theorem labT_len {names : List ByteArray} (h : ∀ s ∈ names, lnameB s = true) (t : List UInt8) (ht : t.length ≤ 6) (x : Lb) (hx : nameB x.name = true) : (labT names t x).length ≤ 60 := by
  unfold labT
  have h1 := lvT_len h x.lev
  have h3 : x.name.data.toList.length ≤ 40 := by rw [Array.length_toList]; exact name_len hx
  simp only [List.length_append, List.length_cons, List.length_nil]
  omega
theorem labsT_len {names : List ByteArray} (h : ∀ s ∈ names, lnameB s = true) (t : List UInt8) (ht : t.length ≤ 6) : ∀ l : List Lb, (∀ x ∈ l, nameB x.name = true) → (labsT names t l).length ≤ l.length * 60
  | [], _ => by simp [labsT]
  | x :: l, hx => by
    have h1 := labsT_len h t ht l (fun y hy => hx y (List.mem_cons_of_mem _ hy))
    have h2 := labT_len h t ht x (hx x (List.mem_cons_self ..))
    have e : labsT names t (x :: l) = labT names t x ++ labsT names t l := by simp [labsT]
    rw [e, List.length_append, List.length_cons, Nat.add_mul]
    omega
theorem labsT_take {names : List ByteArray} (h : ∀ s ∈ names, lnameB s = true) (t : List UInt8) (ht : t.length ≤ 6) (l : List Lb) (hl : l.length ≤ 64) (hx : ∀ x ∈ l, nameB x.name = true) (k : Nat) : (labsT names t (l.take k)).length ≤ 3840 := by
  have h1 := labsT_len h t ht (l.take k) (fun x hx' => hx x (List.mem_of_mem_take hx'))
  rw [List.length_take] at h1
  have := Nat.mul_le_mul_right 60 (Nat.le_trans (Nat.min_le_right k l.length) hl)
  omega

def Py.zero : Py := ⟨[], [], [], [], 0, false⟩
/-- What Parse returns behind the last line. -/
noncomputable def endC (s : Rd) : (Int × Int) × Py := if s.sorted = false ∨ s.seen = false then ((0, 11), Py.zero) else if polC s.p ≠ 0 then ((0, polC s.p), Py.zero) else ((0, 0), s.p)
noncomputable def lineC (x : (Int × Int) × Rd) : (Int × Int) × Py := if x.1.2 ≠ 0 then (x.1, Py.zero) else endC x.2
/-- What Parse returns: the line's number and the code, the policy. -/
noncomputable def parC (t : List UInt8) : (Int × Int) × Py := if 8192 < t.length then ((0, 5), Py.zero) else lineC (rdLines 0 Rd.zero (linS t))
theorem flushW_len (cur : List UInt8) (r : List ByteArray) : (flushW cur r).length ≤ r.length + (if cur = [] then 0 else 1) := by
  unfold flushW
  split <;> simp
theorem tokS_len : ∀ (l cur : List UInt8) (r : List ByteArray), tokS cur l = some r → r.length ≤ l.length + (if cur = [] then 0 else 1)
  | [], cur, r, h => by
    unfold tokS at h
    injection h with h
    subst h
    have := flushW_len cur []
    simpa using this
  | c :: l, cur, r, h => by
    unfold tokS at h
    split at h
    · have := tokS_len l _ r h
      rw [if_neg (by simp)] at this
      simp only [List.length_cons]
      omega
    · split at h
      · rw [Option.map_eq_some_iff] at h
        obtain ⟨q, hq, rfl⟩ := h
        have h2 := tokS_len l [] q hq
        have h3 := flushW_len cur q
        rw [if_pos rfl] at h2
        simp only [List.length_cons]
        omega
      · split at h
        · rw [Option.map_eq_some_iff] at h
          obtain ⟨q, hq, rfl⟩ := h
          have h2 := tokS_len l [] q hq
          have h3 := flushW_len cur (⟨#[c]⟩ :: q)
          rw [if_pos rfl] at h2
          simp only [List.length_cons] at h3 ⊢
          omega
        · cases h
/-- What has been read has grown by k entries of each list at the most. -/
structure Grw (s s' : Rd) (k : Nat) : Prop where
  o : s'.p.order.length ≤ s.p.order.length + k
  i : s'.p.inputs.length ≤ s.p.inputs.length + k
  h : s'.p.hatches.length ≤ s.p.hatches.length + k
  v : (s.sorted = false → s.p.levels = []) → s'.sorted = false → s'.p.levels = []
theorem Grw.refl (s : Rd) (k : Nat) : Grw s s k := ⟨by omega, by omega, by omega, fun h => h⟩
theorem Grw.mono {s s' : Rd} {k m : Nat} (h : Grw s s' k) (hk : k ≤ m) : Grw s s' m := ⟨by have := h.o; omega, by have := h.i; omega, by have := h.h; omega, h.v⟩
theorem trips_len : ∀ t : List ByteArray, (trips t).length ≤ t.length
  | [] => by simp [trips]
  | [_] => by simp [trips]
  | [_, _] => by simp [trips]
  | [_, _, _] => by simp [trips]
  | _ :: _ :: _ :: _ :: l => by
    have := trips_len l
    simp only [trips, List.length_cons]
    omega
theorem pairsS_len (names : List ByteArray) : ∀ (l : List (ByteArray × ByteArray)) (q : List (Int × Int)), pairsS names l = some q → q.length = l.length
  | [], q, h => by
    unfold pairsS at h
    injection h with h
    subst h
    rfl
  | a :: l, q, h => by
    unfold pairsS at h
    split at h
    · cases h
    · rw [Option.map_eq_some_iff] at h
      obtain ⟨q2, h2, rfl⟩ := h
      simp [pairsS_len names l q2 h2]
theorem rdLevels_grw (s : Rd) (t : List ByteArray) : Grw s (rdLevels s t).2 (t.length + 1) := by
  unfold rdLevels
  split
  · exact Grw.refl _ _
  · split
    · exact Grw.refl _ _
    · exact ⟨by simp only; omega, by simp only; omega, by simp only; omega, fun _ h => by cases h⟩
theorem rdOrder_grw (s : Rd) (t : List ByteArray) : Grw s (rdOrder s t).2 (t.length + 1) := by
  unfold rdOrder
  rw [items3_ok]
  split
  · exact Grw.refl _ _
  · rename_i l hl
    split
    · exact Grw.refl _ _
    · rename_i q hq
      have h1 := pairsS_len _ _ _ hq
      have h2 := trips_len t
      have h3 : l = trips t := by
        split at hl
        · injection hl with hl; exact hl.symm
        · cases hl
      subst h3
      exact ⟨by simp only [List.length_append]; omega, by simp only; omega, by simp only; omega, fun h => h⟩
theorem rdInput_grw (s : Rd) (t : List ByteArray) : Grw s (rdInput s t).2 (t.length + 1) := by
  unfold rdInput
  split
  · split
    · split
      · exact Grw.refl _ _
      · exact ⟨by simp only; omega, by simp, by simp only; omega, fun h => h⟩
    · exact Grw.refl _ _
  · exact Grw.refl _ _
theorem rdHatch_grw (s : Rd) (t : List ByteArray) : Grw s (rdHatch s t).2 (t.length + 1) := by
  unfold rdHatch
  split
  · split
    · split
      · exact Grw.refl _ _
      · exact ⟨by simp only; omega, by simp only; omega, by simp, fun h => h⟩
    · exact Grw.refl _ _
  · exact Grw.refl _ _
theorem seeS_grw (s : Rd) (a : ByteArray) (b : Bool) (k : Nat) : Grw s (seeS s a b).2 k := by
  unfold seeS
  split
  · exact Grw.refl _ _
  · split
    · exact Grw.refl _ _
    · split
      · exact Grw.refl _ _
      · exact ⟨by simp only; omega, by simp only; omega, by simp only; omega, fun h => h⟩
theorem rdObserve_grw (s : Rd) (t : List ByteArray) : Grw s (rdObserve s t).2 (t.length + 1) := by
  unfold rdObserve
  split
  · exact seeS_grw _ _ _ _
  · split
    · exact seeS_grw _ _ _ _
    · exact Grw.refl _ _
  · exact Grw.refl _ _
theorem rdToks_grw (s : Rd) (t : List ByteArray) : Grw s (rdToks s t).2 (t.length + 1) := by
  unfold rdToks
  split
  · exact Grw.refl _ _
  · rename_i k l
    simp only [List.length_cons]
    split
    · exact (rdLevels_grw s l).mono (by omega)
    · split
      · exact (rdOrder_grw s l).mono (by omega)
      · split
        · exact (rdInput_grw s l).mono (by omega)
        · split
          · exact (rdHatch_grw s l).mono (by omega)
          · split
            · exact (rdObserve_grw s l).mono (by omega)
            · exact Grw.refl _ _
theorem rdLine_grw (s : Rd) (l : List UInt8) : Grw s (rdLine s l).2 (l.length + 1) := by
  unfold rdLine
  split
  · exact Grw.refl _ _
  · split
    · exact Grw.refl _ _
    · rename_i t ht
      have h := tokS_len _ _ _ ht
      rw [if_pos rfl] at h
      exact (rdToks_grw s t).mono (by omega)
theorem flushW_szs {cur : List UInt8} {r : List ByteArray} {n : Nat} (hr : ∀ x ∈ r, x.size ≤ n) (hc : cur.length ≤ n) : ∀ x ∈ flushW cur r, x.size ≤ n := by
  unfold flushW
  split
  · exact hr
  · intro x hx
    rcases List.mem_cons.1 hx with rfl | hx
    · show cur.toArray.size ≤ n
      simpa using hc
    · exact hr x hx
theorem tokS_szs (n : Nat) : ∀ (l cur : List UInt8) (r : List ByteArray), tokS cur l = some r → cur.length + l.length ≤ n → ∀ x ∈ r, x.size ≤ n
  | [], cur, r, h, hn => by
    unfold tokS at h
    injection h with h
    subst h
    exact flushW_szs (by simp) (by simp at hn; omega)
  | c :: l, cur, r, h, hn => by
    unfold tokS at h
    simp only [List.length_cons] at hn
    split at h
    · exact tokS_szs n l _ r h (by simp; omega)
    · split at h
      · rw [Option.map_eq_some_iff] at h
        obtain ⟨q, hq, rfl⟩ := h
        exact flushW_szs (tokS_szs n l [] q hq (by simp; omega)) (by omega)
      · split at h
        · rw [Option.map_eq_some_iff] at h
          obtain ⟨q, hq, rfl⟩ := h
          refine flushW_szs (fun x hx => ?_) (by omega)
          rcases List.mem_cons.1 hx with rfl | hx
          · show (#[c] : Array UInt8).size ≤ n
            simp; omega
          · exact tokS_szs n l [] q hq (by simp; omega) x hx
        · cases h
/-- The names that have been read have n bytes at the most. -/
structure Szs (n : Nat) (s : Rd) : Prop where
  l : ∀ x ∈ s.p.levels, x.size ≤ n
  i : ∀ x ∈ s.p.inputs, x.name.size ≤ n
  h : ∀ x ∈ s.p.hatches, x.name.size ≤ n
theorem evens_mem : ∀ (t : List ByteArray), ∀ x ∈ evens t, x ∈ t
  | [], x, h => h
  | [_], x, h => h
  | a :: b :: l, x, h => by
    unfold evens at h
    rcases List.mem_cons.1 h with rfl | h
    · simp
    · have := evens_mem l x h
      simp [this]
theorem rdLevels_szs {n : Nat} {s : Rd} {t : List ByteArray} (h : Szs n s) (ht : ∀ x ∈ t, x.size ≤ n) : Szs n (rdLevels s t).2 := by
  unfold rdLevels
  rw [items1_ok]
  split
  · exact h
  · rename_i l hl
    split
    · exact h
    · have h3 : l = evens t := by
        split at hl
        · injection hl with hl; exact hl.symm
        · cases hl
      subst h3
      exact ⟨fun x hx => ht x (evens_mem t x hx), h.i, h.h⟩
theorem rdOrder_szs {n : Nat} {s : Rd} {t : List ByteArray} (h : Szs n s) : Szs n (rdOrder s t).2 := by
  unfold rdOrder
  split
  · exact h
  · split
    · exact h
    · exact ⟨h.l, h.i, h.h⟩
theorem rdInput_szs {n : Nat} {s : Rd} {t : List ByteArray} (h : Szs n s) (ht : ∀ x ∈ t, x.size ≤ n) : Szs n (rdInput s t).2 := by
  unfold rdInput
  split
  · rename_i a b
    split
    · split
      · exact h
      · refine ⟨h.l, fun x hx => ?_, h.h⟩
        rcases List.mem_append.1 hx with hx | hx
        · exact h.i x hx
        · have : x = _ := List.mem_singleton.1 hx
          rw [this]
          exact ht a (by simp)
    · exact h
  · exact h
theorem rdHatch_szs {n : Nat} {s : Rd} {t : List ByteArray} (h : Szs n s) (ht : ∀ x ∈ t, x.size ≤ n) : Szs n (rdHatch s t).2 := by
  unfold rdHatch
  split
  · rename_i a b
    split
    · split
      · exact h
      · refine ⟨h.l, h.i, fun x hx => ?_⟩
        rcases List.mem_append.1 hx with hx | hx
        · exact h.h x hx
        · have : x = _ := List.mem_singleton.1 hx
          rw [this]
          exact ht a (by simp)
    · exact h
  · exact h
theorem seeS_szs {n : Nat} {s : Rd} (h : Szs n s) (a : ByteArray) (b : Bool) : Szs n (seeS s a b).2 := by
  unfold seeS
  split
  · exact h
  · split
    · exact h
    · split
      · exact h
      · exact ⟨h.l, h.i, h.h⟩
theorem rdObserve_szs {n : Nat} {s : Rd} {t : List ByteArray} (h : Szs n s) : Szs n (rdObserve s t).2 := by
  unfold rdObserve
  split
  · exact seeS_szs h _ _
  · split
    · exact seeS_szs h _ _
    · exact h
  · exact h
theorem rdLine_szs {n : Nat} {s : Rd} (l : List UInt8) (h : Szs n s) (hl : l.length ≤ n) : Szs n (rdLine s l).2 := by
  unfold rdLine
  split
  · exact h
  · split
    · exact h
    · rename_i t ht
      have hz := tokS_szs n l [] t ht (by simp; omega)
      unfold rdToks
      split
      · exact h
      · rename_i k u
        have hu : ∀ x ∈ u, x.size ≤ n := fun x hx => hz x (by simp [hx])
        split
        · exact rdLevels_szs h hu
        · split
          · exact rdOrder_szs h
          · split
            · exact rdInput_szs h hu
            · split
              · exact rdHatch_szs h hu
              · split
                · exact rdObserve_szs h
                · exact h
/-- How many bytes lines have, with their ends. -/
def linZ (l : List (List UInt8)) : Nat := (l.map fun x => x.length + 1).sum
theorem linZ_cons (x : List UInt8) (l : List (List UInt8)) : linZ (x :: l) = x.length + 1 + linZ l := by simp [linZ]
theorem linZ_lin : ∀ t : List UInt8, linZ (linS t) = t.length + 1
  | [] => rfl
  | b :: t => by
    have ih := linZ_lin t
    unfold linS
    split
    · rw [linZ_cons, ih]; simp; omega
    · split
      · rename_i h; exact absurd h (linS_ne t)
      · rename_i h r hr
        rw [hr, linZ_cons] at ih
        rw [linZ_cons]
        simp only [List.length_cons] at ih ⊢
        omega
theorem linZ_len : ∀ l : List (List UInt8), l.length ≤ linZ l
  | [] => Nat.le_refl _
  | x :: l => by
    have := linZ_len l
    rw [linZ_cons, List.length_cons]
    omega
theorem linZ_drop (l : List (List UInt8)) (i : Nat) (x : List UInt8) (h : l[i]? = some x) : linZ (l.drop i) = x.length + 1 + linZ (l.drop (i + 1)) := by
  have hi := (List.getElem?_eq_some_iff.1 h).1
  rw [List.drop_eq_getElem_cons hi, (List.getElem?_eq_some_iff.1 h).2, linZ_cons]
/-- One line more is read. -/
theorem rdLines_one (k : Int) (s : Rd) (l : List (List UInt8)) (i : Nat) (x : List UInt8) (h : l[i]? = some x) : rdLines k s (l.drop i) = if (rdLine s x).1 ≠ 0 then ((k + 1, (rdLine s x).1), s) else rdLines (k + 1) (rdLine s x).2 (l.drop (i + 1)) := by
  have hi := (List.getElem?_eq_some_iff.1 h).1
  rw [List.drop_eq_getElem_cons hi, (List.getElem?_eq_some_iff.1 h).2, rdLines]
theorem parC_od (t : List UInt8) : ∀ q ∈ (parC t).2.order, (0 ≤ q.1 ∧ q.1 ≤ 1000) ∧ 0 ≤ q.2 ∧ q.2 ≤ 1000 := by
  have hz : ∀ q ∈ Py.zero.order, (0 ≤ q.1 ∧ q.1 ≤ 1000) ∧ 0 ≤ q.2 ∧ q.2 ≤ 1000 := fun q hq => by cases hq
  unfold parC lineC endC
  split
  · exact hz
  · split
    · exact hz
    · split
      · exact hz
      · split
        · exact hz
        · rename_i h
          have hv := polC_ok (Decidable.not_not.1 h)
          intro q hq
          have h1 := hv.od q hq
          have h2 := hv.n12
          unfold inPb at h1
          simp only [Bool.and_eq_true, decide_eq_true_eq] at h1
          omega

theorem ba_eta (s : ByteArray) : (⟨s.data.toList.toArray⟩ : ByteArray) = s := by
  cases s; simp
/-- A text of bytes of words, not empty. -/
def WordT (u : List UInt8) : Prop := u ≠ [] ∧ ∀ b ∈ u, wordc b = true
theorem word_lname {s : ByteArray} (h : lnameB s = true) : WordT s.data.toList := by
  unfold lnameB at h
  simp only [Bool.and_eq_true, decide_eq_true_eq] at h
  obtain ⟨h1, _, h3⟩ := h
  refine ⟨fun e => by have : s.size = s.data.toList.length := by rw [Array.length_toList]; rfl
                      rw [e, List.length_nil] at this; omega, fun b hb => ?_⟩
  obtain ⟨k, hk, rfl⟩ := List.getElem_of_mem hb
  have hk' : k < s.size := by rw [Array.length_toList] at hk; exact hk
  have := h3 k hk'
  have e : s[k] = s.data.toList[k] := by rw [Array.getElem_toList]; rfl
  rw [e] at this
  unfold lnOk at this
  unfold wordc
  simp only [Bool.or_eq_true, Bool.and_eq_true, decide_eq_true_eq]
  rcases this with h | h
  · exact .inl (.inl (.inl h))
  · exact .inl (.inl (.inr h.2))
theorem word_name {s : ByteArray} (h : nameB s = true) : WordT s.data.toList := by
  unfold nameB at h
  simp only [Bool.and_eq_true, decide_eq_true_eq] at h
  obtain ⟨h1, _, h3⟩ := h
  refine ⟨fun e => by have : s.size = s.data.toList.length := by rw [Array.length_toList]; rfl
                      rw [e, List.length_nil] at this; omega, fun b hb => ?_⟩
  obtain ⟨k, hk, rfl⟩ := List.getElem_of_mem hb
  have hk' : k < s.size := by rw [Array.length_toList] at hk; exact hk
  have := h3 k hk'
  have e : s[k] = s.data.toList[k] := by rw [Array.getElem_toList]; rfl
  rw [e] at this
  unfold okc at this
  unfold wordc
  simp only [Bool.or_eq_true, Bool.and_eq_true, decide_eq_true_eq, beq_iff_eq]
  rcases this with h | ⟨_, h | h | h⟩
  · exact .inl (.inl (.inl h))
  · exact .inl (.inl (.inr h))
  · exact .inl (.inr h)
  · exact .inr h
/-- The byte behind a word is none of a word. -/
def NoW (r : List UInt8) : Prop := ∀ c, r.head? = some c → wordc c = false
theorem tok_w {s : ByteArray} (h : WordT s.data.toList) {r : List UInt8} (hr : NoW r) : tokS [] (s.data.toList ++ r) = (tokS [] r).map (s :: ·) := by
  rw [tokS_past _ _ h.1 h.2 hr, ba_eta]
theorem tok_end {s : ByteArray} (h : WordT s.data.toList) : tokS [] s.data.toList = some [s] := by
  have := tok_w h (r := []) (fun c hc => by cases hc)
  rw [List.append_nil] at this
  rw [this]; rfl
theorem tok_comma (l : List UInt8) : tokS [] (44 :: l) = (tokS [] l).map (⟨#[44]⟩ :: ·) := by
  rw [tokS, if_neg (by decide), if_neg (by decide), if_pos (.inl rfl)]
  congr 1
theorem tok_lt (l : List UInt8) : tokS [] (60 :: l) = (tokS [] l).map (⟨#[60]⟩ :: ·) := by
  rw [tokS, if_neg (by decide), if_neg (by decide), if_pos (.inr rfl)]
  congr 1
theorem isW_word {s : ByteArray} (h : WordT s.data.toList) : isW s = true := by
  obtain ⟨h1, h2⟩ := h
  unfold isW
  rw [ByteArray.toList_eq]
  have h4 : ¬ s.data.toList = [44] := fun e => by have := h2 44 (by rw [e]; simp); exact absurd this (by decide)
  have h6 : ¬ s.data.toList = [60] := fun e => by have := h2 60 (by rw [e]; simp); exact absurd this (by decide)
  simp [h4, h6]
theorem is44 : ((⟨#[44]⟩ : ByteArray).toList == [44]) = true := by rw [ByteArray.toList_eq]; rfl
theorem is60 : ((⟨#[60]⟩ : ByteArray).toList == [60]) = true := by rw [ByteArray.toList_eq]; rfl
/-- Words with commas between them. -/
def sepT : List ByteArray → List ByteArray
  | [] => []
  | [a] => [a]
  | a :: b :: l => a :: ⟨#[44]⟩ :: sepT (b :: l)
theorem tok_names : ∀ l : List ByteArray, (∀ s ∈ l, WordT s.data.toList) → tokS [] (Lib.join (l.map (·.data.toList)) tSep) = some (sepT l)
  | [], _ => rfl
  | [a], h => by
    rw [List.map_cons, List.map_nil, Lib.join_one]
    exact tok_end (h a (by simp))
  | a :: b :: l, h => by
    have ih := tok_names (b :: l) (fun s hs => h s (by simp [hs]))
    rw [List.map_cons, Lib.join_cons]
    have e : Lib.joinTail tSep ((b :: l).map (·.data.toList)) = 44 :: 32 :: Lib.join ((b :: l).map (·.data.toList)) tSep := by
      rw [List.map_cons, Lib.join_cons]
      simp [tSep, Lib.joinTail]
    rw [e, tok_w (h a (by simp)) (fun c hc => by injection hc with hc; subst hc; decide), tok_comma, tokS_space, ih]
    rfl
theorem items1_sep : ∀ l : List ByteArray, l ≠ [] → (∀ s ∈ l, WordT s.data.toList) → items1 (sepT l) = some l
  | [], h, _ => absurd rfl h
  | [a], _, h => by
    unfold sepT items1
    rw [if_pos (isW_word (h a (by simp)))]
  | a :: b :: l, _, h => by
    have ih := items1_sep (b :: l) (by simp) (fun s hs => h s (by simp [hs]))
    unfold sepT items1
    rw [if_pos (by rw [isW_word (h a (by simp)), is44]; rfl), ih]
    rfl
theorem word_levels : WordT wLevels := ⟨by decide, by decide⟩
theorem tok_key (k : List UInt8) (hk : WordT k) (r : List UInt8) : tokS [] (k ++ 32 :: r) = (tokS [] r).map (⟨k.toArray⟩ :: ·) := by
  rw [tokS_past k _ hk.1 hk.2 (fun c hc => by injection hc with hc; subst hc; decide), tokS_space]
theorem skip_key (c : UInt8) (r : List UInt8) (h1 : c ≠ 32) (h2 : c ≠ 35) : skipS (c :: r) = false := by
  unfold skipS
  rw [if_neg h1]
  simpa using h2
theorem rdLine_toks (s : Rd) (l : List UInt8) (t : List ByteArray) (h1 : skipS l = false) (h2 : tokS [] l = some t) : rdLine s l = rdToks s t := by
  unfold rdLine
  rw [if_neg (by rw [h1]; decide), h2]
theorem rdToks_k (s : Rd) (k : List UInt8) (t : List ByteArray) : rdToks s (⟨k.toArray⟩ :: t) = if k == wLevels then rdLevels s t else if k == wOrder then rdOrder s t else if k == wInput then rdInput s t
    else if k == wHatch then rdHatch s t else if k == wObserve then rdObserve s t else (6, s) := by
  unfold rdToks
  simp only [ByteArray.toList_eq]
/-- The line of the levels. -/
theorem line_levels (names : List ByteArray) (h : ∀ s ∈ names, WordT s.data.toList) (h0 : names ≠ []) : rdLine Rd.zero (tLevels ++ namU names names.length) = (0, ⟨{ Py.zero with levels := names }, true, false⟩) := by
  have e : tLevels ++ namU names names.length = wLevels ++ 32 :: Lib.join (names.map (·.data.toList)) tSep := by
    unfold namU tLevels wLevels
    rw [List.take_length]
    rfl
  have ht : tokS [] (tLevels ++ namU names names.length) = some (⟨wLevels.toArray⟩ :: sepT names) := by
    rw [e, tok_key _ ⟨by decide, by decide⟩, tok_names names h]
    rfl
  rw [rdLine_toks _ _ _ (show skipS (tLevels ++ namU names names.length) = false from skip_key 108 _ (by decide) (by decide)) ht]
  have e2 : rdToks Rd.zero (⟨wLevels.toArray⟩ :: sepT names) = rdLevels Rd.zero (sepT names) := by rw [rdToks_k]; rfl
  rw [e2]
  unfold rdLevels
  rw [items1_sep names h0 h]
  rfl
/-- The first place of each name. -/
theorem namesC_fresh : ∀ (xs seen : List ByteArray), namesC seen xs = 0 → ∀ (i : Nat) (s : ByteArray), xs[i]? = some s → amongB (seen ++ xs.take i) s = false
  | [], _, _, i, s, hs => by simp at hs
  | x :: xs, seen, h, i, s, hs => by
    unfold namesC at h
    split at h
    · cases h
    · split at h
      · cases h
      · rename_i h2
        match i, hs with
        | 0, hs =>
          rw [List.getElem?_cons_zero, Option.some.injEq] at hs
          subst hs
          simpa using h2
        | i + 1, hs =>
          rw [List.getElem?_cons_succ] at hs
          have := namesC_fresh xs _ h i s hs
          simpa using this
theorem findS_place {names : List ByteArray} (h : namesC [] names = 0) {i : Nat} {s : ByteArray} (hs : names[i]? = some s) : findS names s = i := by
  have hf := namesC_fresh names [] h i s hs
  rw [List.nil_append] at hf
  refine findS_hit hs (by simp) (fun j u hu hj => ?_)
  unfold amongB at hf
  rw [List.any_eq_false] at hf
  have := hf u (List.mem_of_getElem? (i := j) (by rw [List.getElem?_take, if_pos hj]; exact hu))
  simpa using this
/-- A level's name by its number. -/
def lvN (names : List ByteArray) (i : Int) : ByteArray := names.getD i.toNat ⟨#[]⟩
theorem lvT_eq (names : List ByteArray) (i : Int) : lvT names i = (lvN names i).data.toList := rfl
theorem lvN_some {names : List ByteArray} {i : Int} (h0 : 0 ≤ i) (h1 : i < names.length) : names[i.toNat]? = some (lvN names i) := by
  unfold lvN
  rw [List.getD_eq_getElem?_getD, List.getElem?_eq_getElem (by omega : i.toNat < names.length)]
  rfl
theorem lvN_find {names : List ByteArray} (h : namesC [] names = 0) {i : Int} (h0 : 0 ≤ i) (h1 : i < names.length) : findS names (lvN names i) = i := by
  rw [findS_place h (lvN_some h0 h1)]
  omega
theorem lvN_word {names : List ByteArray} (h : namesC [] names = 0) {i : Int} (h0 : 0 ≤ i) (h1 : i < names.length) : WordT (lvN names i).data.toList :=
  word_lname (namesC_ok _ _ h _ (List.mem_of_getElem? (lvN_some h0 h1)))
/-- Pairs with commas between them. -/
def sepP (names : List ByteArray) : List (Int × Int) → List ByteArray
  | [] => []
  | [q] => [lvN names q.1, ⟨#[60]⟩, lvN names q.2]
  | q :: r :: l => lvN names q.1 :: ⟨#[60]⟩ :: lvN names q.2 :: ⟨#[44]⟩ :: sepP names (r :: l)
theorem pair_bd {names : List ByteArray} {q : Int × Int} (h : inPb names.length q = true) : (0 ≤ q.1 ∧ q.1 < names.length) ∧ 0 ≤ q.2 ∧ q.2 < names.length := by
  unfold inPb at h
  simp only [Bool.and_eq_true, decide_eq_true_eq] at h
  exact h
theorem tok_pair {names : List ByteArray} (h : namesC [] names = 0) {q : Int × Int} (hq : inPb names.length q = true) (r : List UInt8) (hr : NoW r) :
    tokS [] (pairT names q ++ r) = (tokS [] r).map (fun t => lvN names q.1 :: ⟨#[60]⟩ :: lvN names q.2 :: t) := by
  obtain ⟨⟨a, b⟩, c, d⟩ := pair_bd hq
  have e : pairT names q ++ r = (lvN names q.1).data.toList ++ 32 :: 60 :: 32 :: ((lvN names q.2).data.toList ++ r) := by
    unfold pairT tLt
    rw [lvT_eq, lvT_eq]
    simp
  rw [e, tok_w (lvN_word h a b) (fun c hc => by injection hc with hc; subst hc; decide), tokS_space, tok_lt, tokS_space, tok_w (lvN_word h c d) hr]
  simp only [Option.map_map]
  rfl
theorem tok_pairs {names : List ByteArray} (h : namesC [] names = 0) : ∀ l : List (Int × Int), (∀ q ∈ l, inPb names.length q = true) → tokS [] (Lib.join (l.map (pairT names)) tSep) = some (sepP names l)
  | [], _ => rfl
  | [q], hq => by
    rw [List.map_cons, List.map_nil, Lib.join_one]
    have := tok_pair h (hq q (by simp)) [] (fun c hc => by cases hc)
    rw [List.append_nil] at this
    rw [this]
    rfl
  | q :: r :: l, hq => by
    have ih := tok_pairs h (r :: l) (fun s hs => hq s (by simp [hs]))
    rw [List.map_cons, Lib.join_cons]
    have e : Lib.joinTail tSep ((r :: l).map (pairT names)) = 44 :: 32 :: Lib.join ((r :: l).map (pairT names)) tSep := by
      rw [List.map_cons, Lib.join_cons]
      simp [tSep, Lib.joinTail]
    rw [e, tok_pair h (hq q (by simp)) _ (fun c hc => by injection hc with hc; subst hc; decide), tok_comma, tokS_space, ih]
    rfl
theorem items3_sep {names : List ByteArray} (h : namesC [] names = 0) : ∀ l : List (Int × Int), l ≠ [] → (∀ q ∈ l, inPb names.length q = true) → items3 (sepP names l) = some (l.map fun q => (lvN names q.1, lvN names q.2))
  | [], h0, _ => absurd rfl h0
  | [q], _, hq => by
    obtain ⟨⟨a, b⟩, c, d⟩ := pair_bd (hq q (by simp))
    unfold sepP items3
    rw [if_pos (by rw [isW_word (lvN_word h a b), isW_word (lvN_word h c d), is60]; rfl)]
    rfl
  | q :: r :: l, _, hq => by
    obtain ⟨⟨a, b⟩, c, d⟩ := pair_bd (hq q (by simp))
    have ih := items3_sep h (r :: l) (by simp) (fun s hs => hq s (by simp [hs]))
    unfold sepP
    have e : items3 (lvN names q.1 :: ⟨#[60]⟩ :: lvN names q.2 :: ⟨#[44]⟩ :: sepP names (r :: l)) = (items3 (sepP names (r :: l))).map ((lvN names q.1, lvN names q.2) :: ·) := by
      rw [items3]
      rw [if_pos (by rw [isW_word (lvN_word h a b), isW_word (lvN_word h c d), is60, is44]; rfl)]
    rw [e, ih]
    rfl
theorem pairsS_sep {names : List ByteArray} (h : namesC [] names = 0) : ∀ l : List (Int × Int), (∀ q ∈ l, inPb names.length q = true) → pairsS names (l.map fun q => (lvN names q.1, lvN names q.2)) = some l
  | [], _ => rfl
  | q :: l, hq => by
    obtain ⟨⟨a, b⟩, c, d⟩ := pair_bd (hq q (by simp))
    have ih := pairsS_sep h l (fun s hs => hq s (by simp [hs]))
    rw [List.map_cons, pairsS]
    simp only [lvN_find h a b, lvN_find h c d]
    rw [if_neg (by omega), ih]
    rfl
/-- The line of the pairs. -/
theorem line_order (s : Rd) (l : List (Int × Int)) (h : namesC [] s.p.levels = 0) (hl : ∀ q ∈ l, inPb s.p.levels.length q = true) (h0 : l ≠ []) :
    rdLine s (ordU s.p.levels l l.length) = (0, ⟨{ s.p with order := s.p.order ++ l }, s.sorted, s.seen⟩) := by
  have e : ordU s.p.levels l l.length = wOrder ++ 32 :: Lib.join (l.map (pairT s.p.levels)) tSep := by
    unfold ordU tOrder wOrder
    rw [if_neg (by intro e; exact h0 (List.eq_nil_of_length_eq_zero e)), List.take_length]
    rfl
  have ht : tokS [] (ordU s.p.levels l l.length) = some (⟨wOrder.toArray⟩ :: sepP s.p.levels l) := by
    rw [e, tok_key _ ⟨by decide, by decide⟩, tok_pairs h l hl]
    rfl
  rw [rdLine_toks _ _ _ (by rw [e]; exact skip_key _ _ (by decide) (by decide)) ht]
  have e2 : rdToks s (⟨wOrder.toArray⟩ :: sepP s.p.levels l) = rdOrder s (sepP s.p.levels l) := by rw [rdToks_k]; rfl
  rw [e2]
  unfold rdOrder
  rw [items3_sep h l h0 hl]
  simp only [pairsS_sep h l hl]
/-- The line of a label, without its end. -/
def labU (names : List ByteArray) (k : List UInt8) (x : Lb) : List UInt8 := k ++ x.name.data.toList ++ [32] ++ lvT names x.lev
theorem tok_label {names : List ByteArray} (h : namesC [] names = 0) (k : List UInt8) (hk : WordT k) {x : Lb} (hx : nameB x.name = true ∧ 0 ≤ x.lev ∧ x.lev < names.length) :
    tokS [] (labU names (k ++ [32]) x) = some [⟨k.toArray⟩, x.name, lvN names x.lev] := by
  obtain ⟨a, b, c⟩ := hx
  have e : labU names (k ++ [32]) x = k ++ 32 :: (x.name.data.toList ++ 32 :: (lvN names x.lev).data.toList) := by
    unfold labU
    rw [lvT_eq]
    simp
  rw [e, tok_key k hk, tok_w (word_name a) (fun c hc => by injection hc with hc; subst hc; decide), tokS_space, tok_end (lvN_word h b c)]
  rfl
theorem line_input (s : Rd) (x : Lb) (h : namesC [] s.p.levels = 0) (hx : nameB x.name = true ∧ 0 ≤ x.lev ∧ x.lev < s.p.levels.length) :
    rdLine s (labU s.p.levels tInput x) = (0, ⟨{ s.p with inputs := s.p.inputs ++ [x] }, s.sorted, s.seen⟩) := by
  have ht : tokS [] (labU s.p.levels tInput x) = _ := tok_label h wInput ⟨by decide, by decide⟩ hx
  rw [rdLine_toks _ _ _ (show skipS (labU s.p.levels tInput x) = false from skip_key 105 _ (by decide) (by decide)) ht]
  have e2 : rdToks s [⟨wInput.toArray⟩, x.name, lvN s.p.levels x.lev] = rdInput s [x.name, lvN s.p.levels x.lev] := by rw [rdToks_k]; rfl
  rw [e2]
  unfold rdInput
  simp only [isW_word (word_name hx.1), isW_word (lvN_word h hx.2.1 hx.2.2), lvN_find h hx.2.1 hx.2.2]
  rw [if_pos (by decide), if_neg (by omega)]
theorem line_hatch (s : Rd) (x : Lb) (h : namesC [] s.p.levels = 0) (hx : nameB x.name = true ∧ 0 ≤ x.lev ∧ x.lev < s.p.levels.length) :
    rdLine s (labU s.p.levels tHatch x) = (0, ⟨{ s.p with hatches := s.p.hatches ++ [x] }, s.sorted, s.seen⟩) := by
  have ht : tokS [] (labU s.p.levels tHatch x) = _ := tok_label h wHatch ⟨by decide, by decide⟩ hx
  rw [rdLine_toks _ _ _ (show skipS (labU s.p.levels tHatch x) = false from skip_key 104 _ (by decide) (by decide)) ht]
  have e2 : rdToks s [⟨wHatch.toArray⟩, x.name, lvN s.p.levels x.lev] = rdHatch s [x.name, lvN s.p.levels x.lev] := by rw [rdToks_k]; rfl
  rw [e2]
  unfold rdHatch
  simp only [isW_word (word_name hx.1), isW_word (lvN_word h hx.2.1 hx.2.2), lvN_find h hx.2.1 hx.2.2]
  rw [if_pos (by decide), if_neg (by omega)]
/-- The last line, without its end. -/
def obsU (names : List ByteArray) (o : Int) (tm : Bool) : List UInt8 := tObs ++ lvT names o ++ (if tm then tTimed else [])
theorem line_observe (s : Rd) (o : Int) (tm : Bool) (h : namesC [] s.p.levels = 0) (h0 : 0 ≤ o) (h1 : o < s.p.levels.length) (hs : s.seen = false) :
    rdLine s (obsU s.p.levels o tm) = (0, ⟨{ s.p with obs := o, timed := tm }, s.sorted, true⟩) := by
  have hw := lvN_word h h0 h1
  have hsee : seeS s (lvN s.p.levels o) tm = (0, ⟨{ s.p with obs := o, timed := tm }, s.sorted, true⟩) := by
    unfold seeS
    rw [if_neg (by rw [isW_word hw]; decide), if_neg (by rw [hs]; decide), lvN_find h h0 h1, if_neg (by omega)]
  cases tm with
  | false =>
    have e : obsU s.p.levels o false = wObserve ++ 32 :: (lvN s.p.levels o).data.toList := by
      unfold obsU tObs wObserve
      rw [lvT_eq]
      simp
    have ht : tokS [] (obsU s.p.levels o false) = some [⟨wObserve.toArray⟩, lvN s.p.levels o] := by
      rw [e, tok_key _ ⟨by decide, by decide⟩, tok_end hw]
      rfl
    rw [rdLine_toks _ _ _ (by rw [e]; exact skip_key _ _ (by decide) (by decide)) ht]
    have e2 : rdToks s [⟨wObserve.toArray⟩, lvN s.p.levels o] = seeS s (lvN s.p.levels o) false := by rw [rdToks_k]; rfl
    rw [e2, hsee]
  | true =>
    have e : obsU s.p.levels o true = wObserve ++ 32 :: ((lvN s.p.levels o).data.toList ++ 32 :: wTimed) := by
      unfold obsU tObs wObserve tTimed wTimed
      rw [lvT_eq]
      simp
    have ht : tokS [] (obsU s.p.levels o true) = some [⟨wObserve.toArray⟩, lvN s.p.levels o, ⟨wTimed.toArray⟩] := by
      rw [e, tok_key _ ⟨by decide, by decide⟩, tok_w hw (fun c hc => by injection hc with hc; subst hc; decide), tokS_space]
      rfl
    rw [rdLine_toks _ _ _ (by rw [e]; exact skip_key _ _ (by decide) (by decide)) ht]
    have e2 : rdToks s [⟨wObserve.toArray⟩, lvN s.p.levels o, ⟨wTimed.toArray⟩] = seeS s (lvN s.p.levels o) true := by
      rw [rdToks_k]
      show (if (⟨wTimed.toArray⟩ : ByteArray).toList == wTimed then seeS s (lvN s.p.levels o) true else (6, s)) = _
      rw [if_pos (by rw [ByteArray.toList_eq]; rfl)]
    rw [e2, hsee]
/-- A text without line feeds. -/
def Flt (u : List UInt8) : Prop := ∀ b ∈ u, b ≠ 10
theorem flt_word {u : List UInt8} (h : WordT u) : Flt u := fun b hb e => by have := h.2 b hb; rw [e] at this; exact absurd this (by decide)
theorem Flt.app {u v : List UInt8} (h : Flt u) (k : Flt v) : Flt (u ++ v) := fun b hb => by
  rcases List.mem_append.1 hb with hb | hb
  · exact h b hb
  · exact k b hb
theorem flt_join {sep : List UInt8} (hs : Flt sep) : ∀ l : List (List UInt8), (∀ u ∈ l, Flt u) → Flt (Lib.join l sep)
  | [], _ => fun b hb => by cases hb
  | [a], h => by rw [Lib.join_one]; exact h a (by simp)
  | a :: b :: l, h => by
    have ih := flt_join hs (b :: l) (fun s hs => h s (by simp [hs]))
    have e : Lib.join (a :: b :: l) sep = a ++ (sep ++ Lib.join (b :: l) sep) := by
      rw [Lib.join_cons, Lib.join_cons]
      simp [Lib.joinTail]
    rw [e]
    exact (h a (by simp)).app (hs.app ih)
theorem rdLines_ok (k : Int) (s s' : Rd) (l : List UInt8) (r : List UInt8) (hl : Flt l) (h : rdLine s l = (0, s')) : rdLines k s (linS (l ++ 10 :: r)) = rdLines (k + 1) s' (linS r) := by
  rw [linS_cut l r hl, rdLines, h]
  rw [if_neg (by simp)]
theorem flt_lab {names : List ByteArray} (h : namesC [] names = 0) {k : List UInt8} (hk : Flt k) {x : Lb} (hx : nameB x.name = true ∧ 0 ≤ x.lev ∧ x.lev < names.length) : Flt (labU names k x) :=
  ((hk.app (flt_word (word_name hx.1))).app (by unfold Flt; decide)).app (by rw [lvT_eq]; exact flt_word (lvN_word h hx.2.1 hx.2.2))
theorem lines_inputs (names : List ByteArray) (h : namesC [] names = 0) (r : List UInt8) : ∀ (l : List Lb) (k : Int) (s : Rd), s.p.levels = names → (∀ x ∈ l, nameB x.name = true ∧ 0 ≤ x.lev ∧ x.lev < names.length) →
    ∃ k', rdLines k s (linS (labsT names tInput l ++ r)) = rdLines k' ⟨{ s.p with inputs := s.p.inputs ++ l }, s.sorted, s.seen⟩ (linS r)
  | [], k, s, _, _ => ⟨k, by simp [labsT]⟩
  | x :: l, k, s, hs, hx => by
    have e : labsT names tInput (x :: l) ++ r = labU names tInput x ++ 10 :: (labsT names tInput l ++ r) := by
      unfold labsT labT labU
      simp
    have h1 := line_input s x (by rw [hs]; exact h) (by rw [hs]; exact hx x (by simp))
    rw [hs] at h1
    rw [e, rdLines_ok k s _ _ _ (flt_lab h (by unfold Flt; decide) (hx x (by simp))) h1]
    obtain ⟨k', hk⟩ := lines_inputs names h r l (k + 1) ⟨{ s.p with inputs := s.p.inputs ++ [x] }, s.sorted, s.seen⟩ hs (fun y hy => hx y (by simp [hy]))
    refine ⟨k', ?_⟩
    rw [hk]
    simp
theorem lines_hatches (names : List ByteArray) (h : namesC [] names = 0) (r : List UInt8) : ∀ (l : List Lb) (k : Int) (s : Rd), s.p.levels = names → (∀ x ∈ l, nameB x.name = true ∧ 0 ≤ x.lev ∧ x.lev < names.length) →
    ∃ k', rdLines k s (linS (labsT names tHatch l ++ r)) = rdLines k' ⟨{ s.p with hatches := s.p.hatches ++ l }, s.sorted, s.seen⟩ (linS r)
  | [], k, s, _, _ => ⟨k, by simp [labsT]⟩
  | x :: l, k, s, hs, hx => by
    have e : labsT names tHatch (x :: l) ++ r = labU names tHatch x ++ 10 :: (labsT names tHatch l ++ r) := by
      unfold labsT labT labU
      simp
    have h1 := line_hatch s x (by rw [hs]; exact h) (by rw [hs]; exact hx x (by simp))
    rw [hs] at h1
    rw [e, rdLines_ok k s _ _ _ (flt_lab h (by unfold Flt; decide) (hx x (by simp))) h1]
    obtain ⟨k', hk⟩ := lines_hatches names h r l (k + 1) ⟨{ s.p with hatches := s.p.hatches ++ [x] }, s.sorted, s.seen⟩ hs (fun y hy => hx y (by simp [hy]))
    refine ⟨k', ?_⟩
    rw [hk]
    simp
theorem rdLines_print (p : Py) (h : polC p = 0) : rdLines 0 Rd.zero (linS (printL p)) = ((0, 0), ⟨p, true, true⟩) := by
  have hv := polC_ok h
  have hn := (newC_ok hv.new).2.1
  have hw : ∀ s ∈ p.levels, WordT s.data.toList := fun s hs => word_lname (hv.nm s hs)
  have h0 : p.levels ≠ [] := fun e => by have := hv.n1; rw [e] at this; simp at this
  obtain ⟨levels, order, inputs, hatches, obs, timed⟩ := p
  simp only at hv hn hw h0
  have hf1 : Flt (tLevels ++ namU levels levels.length) := by
    refine Flt.app (by unfold Flt; decide) (flt_join (by unfold Flt; decide) _ (fun u hu => ?_))
    rw [List.take_length, List.mem_map] at hu
    obtain ⟨s, hs, rfl⟩ := hu
    exact flt_word (hw s hs)
  have e1 : printL ⟨levels, order, inputs, hatches, obs, timed⟩ = (tLevels ++ namU levels levels.length) ++ 10 :: (ordT levels order ++ (labsT levels tInput inputs ++ (labsT levels tHatch hatches ++ obsT levels obs timed))) := by
    unfold printL headT
    simp
  rw [e1, rdLines_ok 0 _ _ _ _ hf1 (line_levels levels hw h0)]
  obtain ⟨k2, e2⟩ : ∃ k2, rdLines (0 + 1) ⟨{ Py.zero with levels := levels }, true, false⟩ (linS (ordT levels order ++ (labsT levels tInput inputs ++ (labsT levels tHatch hatches ++ obsT levels obs timed)))) = rdLines k2 ⟨{ Py.zero with levels := levels, order := order }, true, false⟩ (linS (labsT levels tInput inputs ++ (labsT levels tHatch hatches ++ obsT levels obs timed))) := by
    by_cases ho : order = []
    · subst ho
      exact ⟨0 + 1, by simp [ordT, ordU, Py.zero]⟩
    · have hlo : 0 < order.length := List.length_pos_iff.2 ho
      have e3 : ordT levels order ++ (labsT levels tInput inputs ++ (labsT levels tHatch hatches ++ obsT levels obs timed)) = ordU levels order order.length ++ 10 :: (labsT levels tInput inputs ++ (labsT levels tHatch hatches ++ obsT levels obs timed)) := by
        unfold ordT
        rw [if_pos hlo]
        simp
      have hfo : Flt (ordU levels order order.length) := by
        unfold ordU
        rw [if_neg (by omega)]
        refine Flt.app (by unfold Flt; decide) (flt_join (by unfold Flt; decide) _ (fun u hu => ?_))
        rw [List.take_length, List.mem_map] at hu
        obtain ⟨q, hq, rfl⟩ := hu
        obtain ⟨⟨a, b⟩, c, d⟩ := pair_bd (hv.od q hq)
        unfold pairT
        rw [lvT_eq, lvT_eq]
        exact ((flt_word (lvN_word hn a b)).app (by unfold Flt; decide)).app (flt_word (lvN_word hn c d))
      have hl := line_order ⟨{ Py.zero with levels := levels }, true, false⟩ order hn hv.od ho
      refine ⟨0 + 1 + 1, ?_⟩
      rw [e3, rdLines_ok (0 + 1) _ _ _ _ hfo hl]
      rfl
  rw [e2]
  obtain ⟨k3, e3⟩ := lines_inputs levels hn (labsT levels tHatch hatches ++ obsT levels obs timed) inputs k2 ⟨{ Py.zero with levels := levels, order := order }, true, false⟩ rfl hv.li
  rw [e3]
  obtain ⟨k4, e4⟩ := lines_hatches levels hn (obsT levels obs timed) hatches k3 ⟨{ Py.zero with levels := levels, order := order, inputs := [] ++ inputs }, true, false⟩ rfl hv.lh
  have e4' : rdLines k3 ⟨{ Py.zero with levels := levels, order := order, inputs := Py.zero.inputs ++ inputs }, true, false⟩ (linS (labsT levels tHatch hatches ++ obsT levels obs timed)) = _ := e4
  refine e4'.trans ?_
  have e5 : obsT levels obs timed = obsU levels obs timed ++ 10 :: [] := by
    unfold obsT obsU
    simp
  have hfb : Flt (obsU levels obs timed) := by
    unfold obsU
    refine (Flt.app (by unfold Flt; decide) ?_).app ?_
    · rw [lvT_eq]; exact flt_word (lvN_word hn hv.ob.1 hv.ob.2)
    · cases timed
      · unfold Flt; decide
      · unfold Flt; decide
  have hl := line_observe ⟨{ Py.zero with levels := levels, order := order, inputs := [] ++ inputs, hatches := [] ++ hatches }, true, false⟩ obs timed hn hv.ob.1 hv.ob.2 rfl
  have hr := rdLines_ok k4 _ _ _ [] hfb hl
  rw [← e5] at hr
  refine hr.trans ?_
  have ez : linS [] = [[]] := rfl
  rw [ez, rdLines]
  rw [if_neg (by simp [rdLine, skipS]), rdLines]
  simp [rdLine, skipS]
/-- Parse reads what Print has printed. -/
theorem parC_print (p : Py) (h : polC p = 0) (hl : (printL p).length ≤ 8192) : parC (printL p) = ((0, 0), p) := by
  unfold parC
  rw [if_neg (by omega), rdLines_print p h]
  unfold lineC endC
  simp [h]

def xLow : ByteArray := ⟨#[108, 111, 119]⟩
def xHigh : ByteArray := ⟨#[104, 105, 103, 104]⟩
def xPin : ByteArray := ⟨#[112, 105, 110]⟩
def xLast : ByteArray := ⟨#[108, 97, 115, 116]⟩
/-- The example. -/
def exPy : Py := ⟨[xLow, xHigh], [(0, 1)], [⟨xPin, 1⟩], [⟨xLast, 0⟩], 0, true⟩
def exT : List UInt8 := [108, 101, 118, 101, 108, 115, 32, 108, 111, 119, 44, 32, 104, 105, 103, 104, 10, 111, 114, 100, 101, 114, 32, 108, 111, 119, 32, 60, 32, 104, 105, 103, 104, 10, 105, 110, 112, 117, 116, 32, 112, 105, 110, 32, 104, 105, 103, 104, 10, 104, 97, 116, 99, 104, 32, 108, 97, 115, 116, 32, 108, 111, 119, 10, 111, 98, 115, 101, 114, 118, 101, 32, 108, 111, 119, 32, 116, 105, 109, 101, 100, 10]
def exU : List UInt8 := [108, 101, 118, 101, 108, 115, 32, 108, 111, 119, 10, 111, 98, 115, 101, 114, 118, 101, 32, 104, 105, 103, 104]
theorem xLow_name : lnameB xLow = true := by decide
theorem xHigh_name : lnameB xHigh = true := by decide
theorem among_one (a b : ByteArray) (h : ¬ a.data = b.data) : amongB [a] b = false := by
  unfold amongB
  simp [ByteArray.toList_eq, h]
theorem ex_names : namesC [] [xLow, xHigh] = 0 := by
  have h1 : namesC [] [xLow, xHigh] = if lnameB xLow = false then 7 else if amongB [] xLow = true then 8 else if lnameB xHigh = false then 7 else if amongB [xLow] xHigh = true then 8 else 0 := rfl
  rw [h1, xLow_name, xHigh_name, among_one _ _ (by decide)]
  rfl
theorem ex_le : lePo [xLow, xHigh] [(0, 1)] = [[true, true], [false, true]] := by decide
theorem ex_new : newC [xLow, xHigh] [(0, 1)] = 0 := by
  unfold newC
  have hk : ¬ knotM ([xLow, xHigh] : List ByteArray).length (lePo [xLow, xHigh] [(0, 1)]) := by
    rw [ex_le]
    rintro ⟨a, b, h1, h2, h3, h4⟩
    have h2' : a < 2 := h2
    obtain rfl : a = 1 := by omega
    obtain rfl : b = 0 := by omega
    exact absurd h3 (by decide)
  have hb : boundsM ([xLow, xHigh] : List ByteArray).length (lePo [xLow, xHigh] [(0, 1)]) := by
    rw [ex_le]
    intro a b h1 h2
    have h1' : a < 2 := h1
    have h2' : b < 2 := h2
    obtain rfl | rfl : a = 0 ∨ a = 1 := by omega
    all_goals
      obtain rfl | rfl : b = 0 ∨ b = 1 := by omega
      all_goals exact ⟨by decide, by decide⟩
  rw [if_neg (by decide), if_neg (by rw [ex_names]; decide), if_neg (by decide), if_neg hk, if_pos hb]
theorem ex_in : labelsC 2 [] [⟨xPin, 1⟩] = 0 := by decide
theorem ex_ha : labelsC 2 [] [⟨xLast, 0⟩] = 0 := by decide
theorem ex_pol : polC exPy = 0 := by
  have e : newC exPy.levels exPy.order = 0 := ex_new
  have e1 : labelsC exPy.levels.length [] exPy.inputs = 0 := ex_in
  have e2 : labelsC exPy.levels.length [] exPy.hatches = 0 := ex_ha
  unfold polC
  rw [if_neg (by rw [e]; decide), if_neg (by decide), if_neg (by rw [e1]; decide), if_neg (by rw [e2]; decide), if_neg (by decide)]
theorem ex_text : printL exPy = exT := by decide
theorem ex_print : printC exPy = (exT, 0) := by
  unfold printC
  rw [if_neg (by rw [ex_pol]; decide), ex_text, if_neg (by decide)]
theorem ex_parse : parC exT = ((0, 0), exPy) := by
  have h := parC_print exPy ex_pol (by rw [ex_text]; decide)
  rw [ex_text] at h
  exact h
theorem ex_parse2 : parC exU = ((2, 7), Py.zero) := by
  have hw : ∀ s ∈ ([xLow] : List ByteArray), WordT s.data.toList := fun s hs => by
    rw [List.mem_singleton.1 hs]
    exact word_lname xLow_name
  have h1 := line_levels [xLow] hw (by decide)
  have e1 : tLevels ++ namU [xLow] ([xLow] : List ByteArray).length = [108, 101, 118, 101, 108, 115, 32, 108, 111, 119] := by decide
  rw [e1] at h1
  have hl : linS exU = [[108, 101, 118, 101, 108, 115, 32, 108, 111, 119], [111, 98, 115, 101, 114, 118, 101, 32, 104, 105, 103, 104]] := by decide
  have h2 : ∀ s : Rd, s.p.levels = [xLow] → s.seen = false → rdLine s [111, 98, 115, 101, 114, 118, 101, 32, 104, 105, 103, 104] = (7, s) := by
    intro s hs hn
    have ht : tokS [] [111, 98, 115, 101, 114, 118, 101, 32, 104, 105, 103, 104] = some [⟨wObserve.toArray⟩, xHigh] := by decide
    rw [rdLine_toks s _ _ (by decide) ht, rdToks_k]
    have hf : findS [xLow] xHigh = -1 := by
      unfold findS
      simp only [ByteArray.toList_eq]
      decide
    show seeS s xHigh false = (7, s)
    unfold seeS
    rw [if_neg (by rw [isW_word (word_lname xHigh_name)]; decide), if_neg (by rw [hn]; decide), hs, hf, if_pos (by decide)]
  have h3 : rdLines 0 Rd.zero (linS exU) = ((2, 7), ⟨{ Py.zero with levels := [xLow] }, true, false⟩) := by
    rw [hl, rdLines, h1, if_neg (by decide), rdLines, h2 _ rfl rfl, if_pos (by decide)]
    rfl
  unfold parC
  rw [if_neg (by decide), h3]
  rfl

/-- Before each line one of f's. -/
def inter (f : Nat → List UInt8) : Nat → List (List UInt8) → List (List UInt8)
  | _, [] => []
  | j, l :: ls => f j :: l :: inter f (j + 1) ls
theorem rdLine_skip (s : Rd) (l : List UInt8) (h : skipS l = true) : rdLine s l = (0, s) := by unfold rdLine; rw [if_pos h]
theorem rdLines_inter (f : Nat → List UInt8) (hf : ∀ j, skipS (f j) = true) : ∀ (ls : List (List UInt8)) (k : Int) (s : Rd) (j : Nat), rdLines (2 * k) s (inter f j ls) = ((if (rdLines k s ls).1.2 ≠ 0 then 2 * (rdLines k s ls).1.1 else 0, (rdLines k s ls).1.2), (rdLines k s ls).2) ∧ ((rdLines k s ls).1.2 = 0 → (rdLines k s ls).1.1 = 0)
  | [], k, s, j => ⟨rfl, fun _ => rfl⟩
  | l :: ls, k, s, j => by
    have e : 2 * k + 1 + 1 = 2 * (k + 1) := by omega
    have ih := rdLines_inter f hf ls (k + 1) (rdLine s l).2 (j + 1)
    unfold inter
    rw [rdLines, rdLine_skip s _ (hf j), if_neg (by simp), rdLines, rdLines, e]
    by_cases h : (rdLine s l).1 ≠ 0
    · rw [if_pos h, if_pos h]
      exact ⟨by rw [if_pos h], fun h2 => absurd h2 h⟩
    · rw [if_neg h, if_neg h]
      exact ih
/-- The text of lines with f's lines before them: behind k lines. -/
def preT (f : Nat → List UInt8) : Nat → List (List UInt8) → List UInt8
  | _, [] => []
  | j, l :: ls => f j ++ 10 :: (l ++ 10 :: preT f (j + 1) ls)
theorem preT_snoc (f : Nat → List UInt8) : ∀ (ls : List (List UInt8)) (j : Nat) (l : List UInt8), preT f j (ls ++ [l]) = preT f j ls ++ (f (j + ls.length) ++ 10 :: (l ++ [10]))
  | [], j, l => by simp [preT]
  | x :: ls, j, l => by
    rw [List.cons_append, preT, preT, preT_snoc f ls (j + 1) l]
    rw [show j + 1 + ls.length = j + (x :: ls).length by simp; omega]
    simp
def Flat (u : List UInt8) : Prop := ∀ b ∈ u, b ≠ 10
theorem linS_pre (f : Nat → List UInt8) (hf : ∀ j, Flat (f j)) (r : List UInt8) : ∀ (ls : List (List UInt8)) (j : Nat), (∀ l ∈ ls, Flat l) → linS (preT f j ls ++ r) = inter f j ls ++ linS r
  | [], j, _ => rfl
  | l :: ls, j, h => by
    have e : preT f j (l :: ls) ++ r = f j ++ 10 :: (l ++ 10 :: (preT f (j + 1) ls ++ r)) := by simp [preT]
    rw [e, linS_cut _ _ (hf j), linS_cut _ _ (h l (by simp)), linS_pre f hf r ls (j + 1) (fun x hx => h x (by simp [hx]))]
    rfl
theorem inter_app (f : Nat → List UInt8) : ∀ (a b : List (List UInt8)) (j : Nat), inter f j (a ++ b) = inter f j a ++ inter f (j + a.length) b
  | [], b, j => rfl
  | x :: a, b, j => by
    rw [List.cons_append, inter, inter, inter_app f a b (j + 1), show j + 1 + a.length = j + (x :: a).length by simp; omega]
    rfl
theorem linS_flat : ∀ (t : List UInt8), ∀ l ∈ linS t, Flat l
  | [], l, h => by
    have : l = [] := by simpa [linS] using h
    subst this
    intro b hb; cases hb
  | c :: t, l, h => by
    have ih := linS_flat t
    unfold linS at h
    split at h
    · rcases List.mem_cons.1 h with rfl | h
      · intro b hb; cases hb
      · exact ih l h
    · rename_i hc
      split at h
      · rename_i he
        exact absurd he (linS_ne t)
      · rename_i x r hr
        rcases List.mem_cons.1 h with rfl | h
        · intro b hb
          rcases List.mem_cons.1 hb with rfl | hb
          · exact hc
          · exact ih x (by rw [hr]; simp) b hb
        · exact ih l (by rw [hr]; simp [h])
/-- The whole text: the lines ls ++ [l] with f's before them. -/
theorem linS_whole (f : Nat → List UInt8) (hf : ∀ j, Flat (f j)) (t : List UInt8) (ls : List (List UInt8)) (l : List UInt8) (h : linS t = ls ++ [l]) : linS (preT f 0 ls ++ (f ls.length ++ 10 :: l)) = inter f 0 (linS t) := by
  have hfl := linS_flat t
  rw [h] at hfl
  rw [linS_pre f hf _ ls 0 (fun x hx => hfl x (by simp [hx])), linS_cut _ _ (hf _), linS_end l (hfl l (by simp)), h, inter_app]
  simp [inter]
/-- Lines that say nothing change the lines' numbers alone. -/
theorem parC_inter (f : Nat → List UInt8) (hs : ∀ j, skipS (f j) = true) (t u : List UInt8) (ht : t.length ≤ 8192) (hu : u.length ≤ 8192) (h : linS u = inter f 0 (linS t)) : parC u = ((2 * (parC t).1.1, (parC t).1.2), (parC t).2) := by
  have hr := rdLines_inter f hs (linS t) 0 Rd.zero 0
  unfold parC
  rw [if_neg (by omega), if_neg (by omega), h, show (0 : Int) = 2 * 0 from rfl, hr.1]
  obtain ⟨⟨⟨n, e⟩, s⟩, hx⟩ : ∃ x, rdLines 0 Rd.zero (linS t) = x := ⟨_, rfl⟩
  have hr2 := hr.2
  rw [show (2 * 0 : Int) = 0 from rfl, hx] at *
  unfold lineC
  by_cases he : e ≠ 0
  · simp only [if_pos he]
  · simp only [if_neg he]
    unfold endC
    split
    · simp
    · split <;> simp
end Go.Proofs.YtnipigninbeplaaDoor
