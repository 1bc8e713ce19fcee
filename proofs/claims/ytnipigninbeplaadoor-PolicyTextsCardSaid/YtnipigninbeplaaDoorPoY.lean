/-
  A strings.Builder of the call's own: what has been written; no walk of the program stands here.
-/
import Derived.Test.YtnipigninbeplaaDoorShelfB
import Derived.Test.YtnipigninbeplaaDoorShelf
import Derived.Test.YtnipigninbeplaaDoorPq
namespace Go.Proofs.YtnipigninbeplaaDoor
open Go.RowKit

theorem byteCells_len (l : List UInt8) : (Lib.byteCells l).length = l.length := by simp [Lib.byteCells]
theorem byteCells_app (a b : List UInt8) : Lib.byteCells (a ++ b) = Lib.byteCells a ++ Lib.byteCells b := by simp [Lib.byteCells]
theorem isb_below {T e : TypeId} {B b : Nat} {bs : List Value} {w w' : World} (h : Lib.IsBuilderF T e B b bs w) (hb : Below w.heap.size w w') : Lib.IsBuilderF T e B b bs w' := by
  have key : ∀ p, Lib.BuilderAtF T e B b p bs w → Lib.BuilderAtF T e B b p bs w' := by
    rintro p ⟨h1, v, h2, h3, h4⟩
    have lt : ∀ (g : Nat) (o : Obj), w.heap[g]? = some o → g < w.heap.size := fun g o hg => (Array.getElem?_eq_some_iff.1 hg).1
    refine ⟨h1, v, by rw [hb.block b (lt _ _ h2)]; exact h2, ⟨h3.1, ?_⟩, h4⟩
    rcases h3.2 with hn | ⟨g, cap, cur, fz, hv, hg, hh, r⟩
    · exact .inl hn
    · exact .inr ⟨g, cap, cur, fz, hv, hg, by rw [hb.block g (lt _ _ hh)]; exact hh, r⟩
  rcases h with h | h
  · exact .inl (key _ h)
  · exact .inr (key _ h)
theorem heap_new (w : World) (o : Obj) : (w.alloc o).heap[w.heap.size]? = some o := by
  show (w.heap.push o)[w.heap.size]? = _
  rw [Array.getElem?_push_size]
theorem bsize_len (s : ByteArray) : s.size = s.data.toList.length := by rw [Array.length_toList]; rfl
/-- The builder in block b, which the call has made in w, holds t. -/
structure Bst (w : World) (b : Nat) (W : World) (t : List UInt8) : Prop where
  is : Lib.IsBuilderF 63 5 b b (Lib.byteCells t) W
  bel : Below w.heap.size w W
  lt : b < W.heap.size
  eq : b = w.heap.size
theorem Bst.zero (w : World) : Bst w w.heap.size (w.alloc (.cells #[.pointer none, .slice none 0 0] 63)) [] :=
  ⟨.inl ⟨Nat.le_refl _, .slice none 0 0, heap_new w _, ⟨rfl, .inl ⟨rfl, rfl⟩⟩, by simp [Value.ownBlock]⟩, (Below.refl _ _).alloc (Nat.le_refl _) _, by simp, rfl⟩
theorem Bst.next {w : World} {b : Nat} {W W' : World} {t : List UInt8} (h : Bst w b W t) (hb : Below W.heap.size W W') : Bst w b W' t :=
  ⟨isb_below h.is hb, h.bel.trans (hb.mono h.bel.size), Nat.lt_of_lt_of_le h.lt hb.size, h.eq⟩
theorem Bst.alloc {w : World} {b : Nat} {W : World} {t : List UInt8} (h : Bst w b W t) (o : Obj) : Bst w b (W.alloc o) t := h.next ((Below.refl _ _).alloc (Nat.le_refl _) _)
theorem Bst.drew {w : World} {b : Nat} {W : World} {t : List UInt8} (h : Bst w b W t) : Bst w b W.drew t := h.next (Below.refl _ _).drew
theorem ws_b (w : World) (b : Nat) (W : World) (t : List UInt8) (s : ByteArray) (t2 : List UInt8) (ht : Hid (t ++ s.data.toList = t2)) (h : Bst w b W t) (hl : t2.length ≤ 100000) :
    Calls Tryd.prog 27 #[.pointer (some ⟨b, 0, none⟩), .string s] W fun e W' => e = .returned (.tuple #[.int .i64 s.size, .nilIface]) ∧ Bst w b W' t2 ∧ Lib.OthersKept 5 (some b) W W' := by
  have hsz : t.length + s.size ≤ 100000 := by
    rw [bsize_len, ← List.length_append, ht.out]
    exact hl
  refine (Tryd.hb_WriteString b b (Lib.byteCells t) s W h.is (by rw [byteCells_len]; omega) (by have := h.lt; omega)).mono ?_
  rintro e W' ⟨he, hb, hbe, hok⟩
  refine ⟨he, ⟨.inr ?_, h.bel.trans (hbe.mono (by rw [h.eq]; exact Nat.le_refl _)), Nat.lt_of_lt_of_le h.lt hbe.size, h.eq⟩, hok⟩
  have e2 : Lib.byteCells t ++ Lib.strCells s = Lib.byteCells t2 := by
    rw [← ht.out, byteCells_app]
    rfl
  rw [← e2]
  exact hb
theorem wb_b (w : World) (b : Nat) (W : World) (t : List UInt8) (t2 : List UInt8) (ht : Hid (t ++ [10] = t2)) (h : Bst w b W t) (hl : t2.length ≤ 100000) :
    Calls Tryd.prog 29 #[.pointer (some ⟨b, 0, none⟩), .int .u8 10] W fun e W' => e = .returned .nilIface ∧ Bst w b W' t2 := by
  have hsz : t.length + 1 ≤ 100000 := by
    have := ht.out
    rw [← this, List.length_append] at hl
    exact hl
  refine (Tryd.hb_WriteByte b b (Lib.byteCells t) 10 W h.is (by rw [byteCells_len]; omega) (by have := h.lt; omega)).mono ?_
  rintro e W' ⟨he, hb, hbe, _⟩
  refine ⟨he, .inr ?_, h.bel.trans (hbe.mono (by rw [h.eq]; exact Nat.le_refl _)), Nat.lt_of_lt_of_le h.lt hbe.size, h.eq⟩
  have e2 : Lib.byteCells t ++ [.int .u8 10] = Lib.byteCells t2 := by
    rw [← ht.out, byteCells_app]
    rfl
  rw [← e2]
  exact hb
theorem bl_b (w : World) (b : Nat) (W : World) (t : List UInt8) (h : Bst w b W t) :
    Calls Tryd.prog 30 #[.pointer (some ⟨b, 0, none⟩)] W fun e W' => e = .returned (.int .i64 t.length) ∧ W' = W := by
  have := Tryd.Builder_Len_f b b (Lib.byteCells t) W h.is
  rw [byteCells_len] at this
  exact this
theorem bs_b (w : World) (b : Nat) (W : World) (t : List UInt8) (h : Bst w b W t) :
    Calls Tryd.prog 31 #[.pointer (some ⟨b, 0, none⟩)] W fun e W' => e = .returned (.string ⟨t.toArray⟩) ∧ Below w.heap.size w W' := by
  refine (Tryd.hb_String b b t W h.is (by have := h.lt; omega)).mono ?_
  rintro e W' ⟨he, _, hbe, _⟩
  exact ⟨he, h.bel.trans (hbe.mono (by rw [h.eq]; exact Nat.le_refl _))⟩
/-- A block that is known whole. -/
def Bk (W : World) (g : Nat) (cs : Array Value) (T : TypeId) : Prop := W.heap[g]? = some (.cells cs T (0, 0))
theorem Bk.new (W : World) (cs : Array Value) (T : TypeId) : Bk (W.alloc (.cells cs T)) W.heap.size cs T := heap_new W _
theorem Bk.next {W W' : World} {g : Nat} {cs : Array Value} {T : TypeId} (h : Bk W g cs T) (hb : Below W.heap.size W W') : Bk W' g cs T := by
  unfold Bk at h ⊢
  rw [hb.block g (Array.getElem?_eq_some_iff.1 h).1]
  exact h
theorem Bk.kept {W W' : World} {g b : Nat} {cs : Array Value} {T : TypeId} (h : Bk W g cs T) (hk : Lib.OthersKept 5 (some b) W W') (hT : T ≠ 5) (hg : g ≠ b) : Bk W' g cs T :=
  hk g _ h (fun e => hg (Option.some.inj e)) (fun c fz e => by injection e with _ e2 _; exact hT e2)
theorem Bk.at {W : World} {g : Nat} {cs : Array Value} {T : TypeId} (h : Bk W g cs T) (j : Nat) (u : Value) (hu : cs[j]? = some u) : W.cell? ⟨g, j, none⟩ = some u := by
  unfold Bk at h
  simp [World.cell?, h, hu]
theorem bytes_eq {x y : ByteArray} (h : x.data.toList = y.data.toList) : x = y := by
  have h2 : x.data = y.data := Array.ext' h
  cases x with | mk a => cases y with | mk b => exact congrArg ByteArray.mk h2
theorem mk_bytes (l : List UInt8) : ∃ s : ByteArray, s.data.toList = l := ⟨⟨l.toArray⟩, rfl⟩
/-- A sum of texts at the operation. -/
theorem add_fact (x y z : ByteArray) (hz : x.data.toList ++ y.data.toList = z.data.toList) (hl : z.data.toList.length ≤ 100000) (W : World) : (Op.stringOp .add x y).run Tryd.prog W = .ok (.string z) W := by
  have e : x ++ y = z := by
    have h : (x ++ y).data.toList = z.data.toList := by rw [ByteArray.data_append, Array.toList_append, hz]
    have h2 : (x ++ y).data = z.data := Array.ext' h
    cases hx : (x ++ y) with | mk d1 => cases z with | mk d2 => rw [hx] at h2; exact congrArg ByteArray.mk h2
  rw [← e]
  refine run_string_add_sum _ _ _ ?_
  rw [bsize_len x, bsize_len y, ← List.length_append, hz]
  omega
end Go.Proofs.YtnipigninbeplaaDoor
