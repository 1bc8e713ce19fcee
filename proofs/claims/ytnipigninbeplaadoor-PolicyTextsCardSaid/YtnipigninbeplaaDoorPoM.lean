/-
  A map from texts to flags that a call has made: what it holds, and the look-up at the operation.
-/
import Derived.Maps.Own
import Derived.Maps.OwnOps
import Derived.Maps.OwnSet
import Derived.WalkKit
import Derived.Lib.Hide
import Derived.KernelRfl
import Derived.Test.YtnipigninbeplaaDoorFlAh
import Derived.Test.YtnipigninbeplaaDoorPA
namespace Go.Proofs.YtnipigninbeplaaDoor
open Go.RowKit Go.Maps

/-- 'm[k]' of a map with flags. -/
theorem wpList_lookup_own_bool {H : Type} {P : Program} (w : World) {ops : Array Oper} {rest : List Oper} {o : Oper} {a : Act} {Q : Exit → Act → World → Prop}
    (hg : o.guard = none) (m x : Operand) (t : TypeId) (hop : o.op = Op.lookup t m x false)
    (k e : TypeId) (K : Keyed P k) (ht : P.underlying t = some (.map k e)) (he : P.underlying e = some .bool) (hz : (zeroValue e).run P w = .ok (.bool false) w) (b n : Nat) (D : DataW H)
    (hm : a.eval m = .map (some b)) (hown : w.ownsMap P k (plainElem P e) b n D) (key : Value) (kl : Lit) (hx : a.eval x = key) (hkey : keyOf P k key = some kl) (r : Bool) (hr : D.atKey kl (.lit (.bool false)) = .lit (.bool r))
    (hK : wpList P ops Q rest (a.put o.dst (.bool r)) w) :
    wpList P ops Q (o :: rest) a w := by
  refine wpList_plain hg fun K' hK' => ?_
  obtain ⟨v, ps, hrun, hv⟩ := hown.lookup K ht hz (plainElem_bool he false) hkey
  rw [hr] at hv
  have hvr : v = .bool r := by
    unfold plainElem at hv
    rw [he] at hv
    cases v <;> simp at hv
    obtain ⟨h1, _⟩ := hv
    rw [h1]
  subst hvr
  unfold Oper.wp
  simp [execOp, hop, hm, hx, hrun, Result.andThen]
  exact hK' _ _ hK

theorem tMapB : Tryd.prog.underlying 100 = some (.map 9 4) := by kernel_rfl
theorem tString : Tryd.prog.underlying 9 = some .string := by kernel_rfl
theorem tBool : Tryd.prog.underlying 4 = some .bool := by kernel_rfl
theorem zBool (w : World) : (zeroValue 4).run Tryd.prog w = .ok (.bool false) w := by kernel_rfl
theorem lawS : Keyed Tryd.prog 9 := string_keyed tString
/-- Block b is a map of at most n entries, in which just the texts of a list are true. -/
def FlIn (w : World) (b n : Nat) (l : List ByteArray) (D : DataW Unit) : Prop :=
  w.ownsMap Tryd.prog 9 (plainElem Tryd.prog 4) b n D ∧ ∀ s : ByteArray, D.atKey (.string s.data.toList) (.lit (.bool false)) = .lit (.bool (amongB l s))
theorem FlIn.made (w : World) : FlIn (w.alloc (.map #[] 0)) w.heap.size 0 [] (.map []) := ⟨World.ownsMap_made _ _ _ _, fun _ => rfl⟩
theorem FlIn.alloc {w : World} {b n : Nat} {l : List ByteArray} {D : DataW Unit} (h : FlIn w b n l D) (o : Obj) : FlIn (w.alloc o) b n l D := ⟨h.1.alloc o, h.2⟩
theorem among_snoc (l : List ByteArray) (s t : ByteArray) : amongB (l ++ [s]) t = (amongB l t || (s.toList == t.toList)) := by
  unfold amongB
  rw [List.any_append]
  simp
theorem FlIn.put {w w' : World} {b n : Nat} {l : List ByteArray} {D : DataW Unit} (h : FlIn w b n l D) (s : ByteArray) (h' : w'.ownsMap Tryd.prog 9 (plainElem Tryd.prog 4) b (n + 1) (D.put (.string s.data.toList) (.lit (.bool true)))) :
    FlIn w' b (n + 1) (l ++ [s]) (D.put (.string s.data.toList) (.lit (.bool true))) := by
  refine ⟨h', fun t => ?_⟩
  rw [among_snoc]
  by_cases e : s.data.toList = t.data.toList
  · rw [e, atKey_put_same h.1.isMap (by simp [WideAt.IsKeyLit])]
    have : (s.toList == t.toList) = true := by rw [ByteArray.toList_eq, ByteArray.toList_eq, e]; simp
    rw [this, Bool.or_true]
  · rw [atKey_put_other (fun h => e (by injection h with h; exact h.symm)), h.2 t]
    have : (s.toList == t.toList) = false := by rw [ByteArray.toList_eq, ByteArray.toList_eq]; simpa using e
    rw [this, Bool.or_false]
end Go.Proofs.YtnipigninbeplaaDoor
