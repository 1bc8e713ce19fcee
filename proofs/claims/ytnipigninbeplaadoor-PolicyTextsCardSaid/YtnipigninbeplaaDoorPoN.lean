/-
  A map from texts to their places that a call has made: what it holds.
-/
import Derived.Test.YtnipigninbeplaaDoorPoM
namespace Go.Proofs.YtnipigninbeplaaDoor
open Go.RowKit Go.Maps

theorem tMapI : Tryd.prog.underlying 75 = some (.map 9 3) := by kernel_rfl
theorem tInt : Tryd.prog.underlying 3 = some (.int .i64) := by kernel_rfl
theorem zInt (w : World) : (zeroValue 3).run Tryd.prog w = .ok (.int .i64 0) w := by kernel_rfl
theorem amongB_find (l : List ByteArray) (s : ByteArray) : amongB l s = decide (0 ≤ findS l s) := by
  unfold amongB findS
  cases h : l.findIdx? (fun t => t.toList == s.toList) with
  | none =>
    rw [List.findIdx?_eq_none_iff] at h
    have : (l.any fun t => t.toList == s.toList) = false := by
      rw [List.any_eq_false]
      intro x hx
      simp [h x hx]
    rw [this]
    rfl
  | some i =>
    have h1 := List.findIdx?_eq_some_iff_getElem.1 h
    have : (l.any fun t => t.toList == s.toList) = true := by
      rw [List.any_eq_true]
      exact ⟨l[i]'h1.1, List.getElem_mem h1.1, h1.2.1⟩
    rw [this]
    simp
theorem findS_snoc (l : List ByteArray) (s t : ByteArray) : findS (l ++ [s]) t = if 0 ≤ findS l t then findS l t else if (s.toList == t.toList) = true then (l.length : Int) else -1 := by
  unfold findS
  rw [List.findIdx?_append]
  cases h : l.findIdx? (fun u => u.toList == t.toList) with
  | some i => simp
  | none =>
    by_cases e : (s.toList == t.toList) = true
    · simp [List.findIdx?_cons, e]
    · simp [List.findIdx?_cons, e]
/-- Block b is a map of at most n entries from the texts of a list to their first places. -/
def IxIn (w : World) (b n : Nat) (l : List ByteArray) (D : DataW Unit) : Prop :=
  w.ownsMap Tryd.prog 9 (plainElem Tryd.prog 3) b n D ∧ ∀ (s : ByteArray) (z : DataW Unit), D.atKey (.string s.data.toList) z = if 0 ≤ findS l s then .lit (.int .i64 (findS l s)) else z
theorem IxIn.made (w : World) : IxIn (w.alloc (.map #[] 0)) w.heap.size 0 [] (.map []) := ⟨World.ownsMap_made _ _ _ _, fun _ _ => rfl⟩
theorem IxIn.alloc {w : World} {b n : Nat} {l : List ByteArray} {D : DataW Unit} (h : IxIn w b n l D) (o : Obj) : IxIn (w.alloc o) b n l D := ⟨h.1.alloc o, h.2⟩
theorem IxIn.drew {w : World} {b n : Nat} {l : List ByteArray} {D : DataW Unit} (h : IxIn w b n l D) : IxIn w.drew b n l D := ⟨h.1.drew, h.2⟩
theorem IxIn.setCell {w : World} {b n : Nat} {l : List ByteArray} {D : DataW Unit} (h : IxIn w b n l D) {a : Addr} (ha : b ≠ a.block) (u : Value) : IxIn (w.setCell a u) b n l D := ⟨h.1.setCell ha u, h.2⟩
theorem IxIn.kept {w w' : World} {b n : Nat} {l : List ByteArray} {D : DataW Unit} {row : Option Nat} (h : IxIn w b n l D) (hg : w.grownBy w' row) (hne : some b ≠ row) : IxIn w' b n l D := ⟨h.1.kept hg hne, h.2⟩
theorem IxIn.next {w w' : World} {b n : Nat} {l : List ByteArray} {D : DataW Unit} (h : IxIn w b n l D) (hb : Below w.heap.size w w') : IxIn w' b n l D := by
  refine ⟨?_, h.2⟩
  obtain ⟨es, clock, hb0, F, hs, e⟩ := h.1
  exact ⟨es, clock, (hb.block b (Array.getElem?_eq_some_iff.1 hb0).1).trans hb0, F, hs, e⟩
theorem IxIn.has {w : World} {b n : Nat} {l : List ByteArray} {D : DataW Unit} (h : IxIn w b n l D) (s : ByteArray) : Maps.has D (.string s.data.toList) = amongB l s := by
  rw [amongB_find]
  by_cases e : 0 ≤ findS l s
  · rw [has_true_of_atKey (y := .lit (.int .i64 (findS l s))) (fun z => by rw [h.2 s z, if_pos e]), decide_eq_true e]
  · rw [has_false_of_atKey (fun z => by rw [h.2 s z, if_neg e]), decide_eq_false e]
/-- A text that is there already. -/
theorem IxIn.skip {w : World} {b n : Nat} {l : List ByteArray} {D : DataW Unit} (h : IxIn w b n l D) (s : ByteArray) (hs : amongB l s = true) : IxIn w b n (l ++ [s]) D := by
  refine ⟨h.1, fun t z => ?_⟩
  rw [findS_snoc, h.2 t z]
  rw [amongB_find, decide_eq_true_iff] at hs
  by_cases e : 0 ≤ findS l t
  · rw [if_pos e, if_pos e, if_pos e]
  · rw [if_neg e, if_neg e]
    by_cases e2 : (s.toList == t.toList) = true
    · exfalso
      apply e
      have e3 : s.toList = t.toList := by simpa using e2
      have : findS l t = findS l s := by unfold findS; rw [e3]
      rw [this]
      exact hs
    · rw [if_neg e2, if_neg (by omega)]
theorem IxIn.put {w w' : World} {b n : Nat} {l : List ByteArray} {D : DataW Unit} (h : IxIn w b n l D) (s : ByteArray) (hs : amongB l s = false) (h' : w'.ownsMap Tryd.prog 9 (plainElem Tryd.prog 3) b (n + 1) (D.put (.string s.data.toList) (.lit (.int .i64 l.length)))) :
    IxIn w' b (n + 1) (l ++ [s]) (D.put (.string s.data.toList) (.lit (.int .i64 l.length))) := by
  refine ⟨h', fun t z => ?_⟩
  rw [amongB_find, decide_eq_false_iff_not] at hs
  rw [findS_snoc]
  by_cases e : s.data.toList = t.data.toList
  · have e3 : s.toList = t.toList := by rw [ByteArray.toList_eq, ByteArray.toList_eq, e]
    have e4 : findS l t = findS l s := by unfold findS; rw [e3]
    rw [e, atKey_put_same h.1.isMap (by simp [WideAt.IsKeyLit]), if_neg (show ¬ 0 ≤ findS l t by rw [e4]; exact hs), if_pos (show (s.toList == t.toList) = true by rw [e3]; simp), if_pos (by omega)]
  · have e2 : ¬ (s.toList == t.toList) = true := by rw [ByteArray.toList_eq, ByteArray.toList_eq]; simpa using e
    rw [atKey_put_other (fun h => e (by injection h with h; exact h.symm)), h.2 t z]
    by_cases e5 : 0 ≤ findS l t
    · rw [if_pos e5, if_pos e5, if_pos e5]
    · rw [if_neg e5, if_neg e5, if_neg e2, if_neg (by omega)]
end Go.Proofs.YtnipigninbeplaaDoor
