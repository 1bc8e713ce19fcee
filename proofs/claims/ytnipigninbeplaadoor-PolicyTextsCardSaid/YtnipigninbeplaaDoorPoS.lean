/-
  The lattice while its names are read, and when it is made; no walk stands here.
-/
import Derived.Test.YtnipigninbeplaaDoorPoR
import Derived.Test.YtnipigninbeplaaDoorPoN
namespace Go.Proofs.YtnipigninbeplaaDoor
open Go.RowKit Go.Maps

def svals (xs : List ByteArray) : List Value := xs.map Value.string
/-- Some names have been read. -/
structure Nw (w : World) (W : World) (i : Nat) (NV : Value) (xs : List ByteArray) (D : DataW Unit) : Prop where
  bel : Below w.heap.size w W
  cs : Cs W (w.heap.size + 1) [NV, .map (some w.heap.size), .slice none 0 0, .slice none 0 0, .slice none 0 0]
  own : W.ownsRow (w.heap.size + 2) 9 1 NV i (svals xs)
  ix : IxIn W w.heap.size i xs D
  lt : w.heap.size + 2 ≤ W.heap.size
theorem Nw.zero (w : World) (T : TypeId) : Nw w ((w.alloc (.map #[] 0)).alloc (.cells #[.slice none 0 0, .map (some w.heap.size), .slice none 0 0, .slice none 0 0, .slice none 0 0] T)) 0 (.slice none 0 0) [] (.map []) := by
  have hc := Cs.new (w.alloc (.map #[] 0)) #[.slice none 0 0, .map (some w.heap.size), .slice none 0 0, .slice none 0 0, .slice none 0 0] T
  have e : (w.alloc (.map #[] 0)).heap.size = w.heap.size + 1 := by simp
  rw [e] at hc
  exact ⟨((Below.refl _ _).alloc (Nat.le_refl _) _).alloc (by simp) _, hc, World.ownsRow_nil _ _ _ _, (IxIn.made w).alloc _, by simp⟩
theorem cs_grown {W W' : World} {b : Nat} {vs : List Value} {r : Option Nat} (h : Cs W b vs) (hg : W.grownBy W' r) (hn : r ≠ some b) : Cs W' b vs := h.fr (Fr.grew hg) hn
/-- One name more: the map, the one-element slice, the grown row, the field. -/
theorem Nw.step {w W W1 W2 : World} {i : Nat} {NV NV' : Value} {xs : List ByteArray} {D D' : DataW Unit} {s : ByteArray} (T : TypeId) (h : Nw w W i NV xs D)
    (hg1 : W.grownBy W1 (some w.heap.size)) (hx : IxIn W1 w.heap.size (i + 1) (xs ++ [s]) D') (hg2 : (W1.alloc (.cells #[.string s] T)).grownBy W2 NV.ownBlock) (ho : W2.ownsRow (w.heap.size + 2) 9 1 NV' (i + 1) (svals xs ++ [.string s])) :
    Nw w (W2.setCell ⟨w.heap.size + 1, 0, none⟩ NV') (i + 1) NV' (xs ++ [s]) D' := by
  have hs1 := hg1.size
  have hs2 := hg2.size
  have hlt := h.lt
  have hsa : (W1.alloc (.cells #[.string s] T)).heap.size = W1.heap.size + 1 := by simp
  have hown : ∀ k, NV.ownBlock = some k → w.heap.size + 2 ≤ k := fun k hk => (h.own.lt k hk).1
  have hb2 : Below w.heap.size w W2 := ((h.bel.grown hg1 h.bel.size (fun j hj => by cases hj; exact Nat.le_refl _)).alloc (by omega) (.cells #[.string s] T)).grown hg2 (by omega) (fun q hq => by have := hown q hq; omega)
  refine ⟨hb2.trans ((Below.refl _ _).setCell (by simp only; omega) _), ?_, ?_, ?_, by simp; omega⟩
  · have h1 : Cs W2 (w.heap.size + 1) _ := cs_grown ((cs_grown h.cs hg1 (by intro e; injection e with e; omega)).alloc (.cells #[.string s] T)) hg2 (fun e => by have := hown _ e; omega)
    exact h1.set 0 NV' (by simp)
  · have e : svals (xs ++ [s]) = svals xs ++ [.string s] := by simp [svals]
    rw [e]
    exact own_fr ho (Fr.setCell (S := (· = w.heap.size + 1)) (Fr.refl _ _) (p := ⟨w.heap.size + 1, 0, none⟩) rfl NV') (fun k hk hs => by have := (ho.lt k hk).1; omega)
  · exact ((hx.alloc (.cells #[.string s] T)).kept hg2 (fun e => by have := hown _ e.symm; omega)).setCell (by simp) NV'
/-- A lattice that has been made. -/
def Lat (W : World) (b0 n : Nat) (M : Mx) : Prop := ∃ (An : Option Addr) (cn : Nat) (v1 JV KV : Value) (q B : Nat) (rb jb kb : Nat → Nat), Cs W b0 [.slice An n cn, v1, .slice (some ⟨q, 0, none⟩) n n, JV, KV] ∧ Mem W q n n rb M ∧ Tab W B 41 JV n n jb (jfM n M) ∧ Tab W B 41 KV n n kb (kfM n M)
theorem Lat.next {W W' : World} {b0 n : Nat} {M : Mx} (h : Lat W b0 n M) (hb : Below W.heap.size W W') : Lat W' b0 n M := by
  obtain ⟨An, cn, v1, JV, KV, q, B, rb, jb, kb, h1, h2, h3, h4⟩ := h
  exact ⟨An, cn, v1, JV, KV, q, B, rb, jb, kb, h1.next hb, h2.next hb, h3.fr (S := fun _ => False) (Fr.of hb) (fun _ _ h => h) (fun _ _ h => h), h4.fr (S := fun _ => False) (Fr.of hb) (fun _ _ h => h) (fun _ _ h => h)⟩
theorem namesC_at {xs : List ByteArray} {k : Nat} {s : ByteArray} (h : xs[k]? = some s) :
    namesC (xs.take k) (xs.drop k) = if lnameB s = false then 7 else if amongB (xs.take k) s = true then 8 else namesC (xs.take (k + 1)) (xs.drop (k + 1)) := by
  have hk : k < xs.length := (List.getElem?_eq_some_iff.1 h).1
  have e : xs.drop k = s :: xs.drop (k + 1) := by
    rw [List.drop_eq_getElem_cons hk]
    congr 1
    rw [List.getElem?_eq_getElem hk] at h
    exact Option.some.inj h
  rw [e, namesC, List.take_add_one, h]
  rfl
theorem namesC_end (xs : List ByteArray) {k : Nat} (h : xs.length ≤ k) (seen : List ByteArray) : namesC seen (xs.drop k) = 0 := by
  rw [List.drop_eq_nil_of_le h]
  rfl
theorem newC_4 {xs : List ByteArray} {o : List (Int × Int)} (h : xs.length = 0 ∨ 12 < xs.length) : newC xs o = 4 := by
  unfold newC
  rw [if_pos h]
theorem newC_n {xs : List ByteArray} {o : List (Int × Int)} (h : ¬ (xs.length = 0 ∨ 12 < xs.length)) (h1 : namesC [] xs ≠ 0) : newC xs o = namesC [] xs := by
  unfold newC
  rw [if_neg h, if_pos h1]
theorem newC_3 {xs : List ByteArray} {o : List (Int × Int)} (h : ¬ (xs.length = 0 ∨ 12 < xs.length)) (h1 : namesC [] xs = 0) (h2 : (o.all (inPb xs.length)) = false) : newC xs o = 3 := by
  unfold newC
  rw [if_neg h, if_neg (by rw [h1]; decide), if_pos h2]
theorem newC_10 {xs : List ByteArray} {o : List (Int × Int)} (h : ¬ (xs.length = 0 ∨ 12 < xs.length)) (h1 : namesC [] xs = 0) (h2 : (o.all (inPb xs.length)) = true) (h3 : knotM xs.length (lePo xs o)) : newC xs o = 10 := by
  unfold newC
  rw [if_neg h, if_neg (by rw [h1]; decide), if_neg (by rw [h2]; decide), if_pos h3]
theorem newC_0 {xs : List ByteArray} {o : List (Int × Int)} (h : ¬ (xs.length = 0 ∨ 12 < xs.length)) (h1 : namesC [] xs = 0) (h2 : (o.all (inPb xs.length)) = true) (h3 : ¬ knotM xs.length (lePo xs o)) (h4 : boundsM xs.length (lePo xs o)) : newC xs o = 0 := by
  unfold newC
  rw [if_neg h, if_neg (by rw [h1]; decide), if_neg (by rw [h2]; decide), if_neg h3, if_pos h4]
theorem newC_11 {xs : List ByteArray} {o : List (Int × Int)} (h : ¬ (xs.length = 0 ∨ 12 < xs.length)) (h1 : namesC [] xs = 0) (h2 : (o.all (inPb xs.length)) = true) (h3 : ¬ knotM xs.length (lePo xs o)) (h4 : ¬ boundsM xs.length (lePo xs o)) : newC xs o = 11 := by
  unfold newC
  rw [if_neg h, if_neg (by rw [h1]; decide), if_neg (by rw [h2]; decide), if_neg h3, if_neg h4]
/-- No knot among the first a levels. -/
def NoKn (M : Mx) (a : Nat) : Prop := ∀ x y, x < a → y < x → ¬ (mget M x y = true ∧ mget M y x = true)
end Go.Proofs.YtnipigninbeplaaDoor
