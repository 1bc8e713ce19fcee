/-
  A machine in memory: its block, its values, its hatches and its outputs; no walk stands here.
-/
import Derived.Test.YtjpjmoejdkmglaaGreatFlZ
import Derived.Test.YtjpjmoejdkmglaaGreatFlR
import Derived.Laws.OwnMore
import Derived.Lib.SmallJoins
namespace Go.Proofs.YtjpjmoejdkmglaaGreat
open Go.RowKit

/-- Integers as values. -/
def iv (l : List Int) : List Value := l.map (Value.int .i64)
theorem iv_len (l : List Int) : (iv l).length = l.length := by simp [iv]
theorem iv_get (l : List Int) (j : Nat) (h : j < l.length) : (iv l)[j]? = some (.int .i64 (l.getD j 0)) := by
  simp [iv, List.getD_eq_getElem?_getD, List.getElem?_eq_getElem h]
theorem iv_app (l : List Int) (n : Int) : iv (l ++ [n]) = iv l ++ [.int .i64 n] := by simp [iv]
theorem iv_set (l : List Int) (j : Nat) (n : Int) : iv (l.set j n) = (iv l).set j (.int .i64 n) := by simp [iv, List.map_set]
/-- A row of the call's own reads as a list of integers. -/
theorem Zs.of_row {w : World} {B : Nat} {E : TypeId} {A : Option Addr} {l c : Nat} {zs : List Int} (h : w.ownsRow B E 1 (.slice A l c) zs.length (iv zs)) : Zs w A l c zs := by
  rcases h.2 with ⟨hv, hn⟩ | ⟨g, cap, cur, hv, hb, hg, hnc, hcm, hcs, htake⟩
  · simp only [Value.slice.injEq] at hv
    obtain ⟨rfl, rfl, rfl⟩ := hv
    exact ⟨hn, Nat.le_refl _, Nat.zero_le _, fun h => absurd h (by omega)⟩
  · simp only [Value.slice.injEq] at hv
    obtain ⟨rfl, rfl, rfl⟩ := hv
    refine ⟨rfl, hnc, hcm, fun _ => ⟨g, 0, rfl, (Array.getElem?_eq_some_iff.1 hg).1, fun j hj => ?_⟩⟩
    rw [h.cellAt (0 + j) (by omega), Nat.zero_add, iv_get zs j hj]
theorem row_bound {w : World} {B : Nat} {E : TypeId} {v : Value} {n : Nat} {xs : List Value} (h : w.ownsRow B E 1 v n xs) : n ≤ maxLen := by
  rcases h.2 with ⟨_, hn⟩ | ⟨g, cap, cur, hv, hb, hg, hnc, hcm, hcs, htake⟩
  · omega
  · omega
/-- A row lies in no block that differs from its own. -/
def apart (v : Value) (b : Nat) : Prop := v.ownBlock ≠ some b
theorem row_apart {w : World} {B : Nat} {E : TypeId} {v : Value} {n : Nat} {xs : List Value} (h : w.ownsRow B E 1 v n xs) {b : Nat} (hb : b < B ∨ w.heap.size ≤ b) : apart v b := fun e => by
  have := h.lt b e
  omega
theorem ownsRow_below {w w' : World} {B : Nat} {E : TypeId} {v : Value} {n : Nat} {xs : List Value} (h : w.ownsRow B E 1 v n xs) (hb : Below w.heap.size w w') : w'.ownsRow B E 1 v n xs := by
  refine ⟨h.1, ?_⟩
  rcases h.2 with hn | ⟨g, cap, cur, rfl, hB, hgg, rest⟩
  · exact .inl hn
  · refine .inr ⟨g, cap, cur, rfl, hB, ?_, rest⟩
    rw [hb.block g (Array.getElem?_eq_some_iff.1 hgg).1]
    exact hgg
theorem Fr.of_grown {w w1 : World} {v : Value} (hg : w.grownBy w1 v.ownBlock) : Fr (fun k => v.ownBlock = some k) w w1 :=
  ⟨hg.os, hg.tape, hg.output, hg.size, fun k hk hn => hg.block k hk (fun e => hn e.symm)⟩
/-- The machine in block p, its rows V (values), H (hatches), O (outputs) in blocks from B on. -/
structure Mk (E : TypeId) (B p : Nat) (a b c V H : Value) (hats : List Int) (w : World) (O : Value) (s : Ms) : Prop where
  lo : B ≤ p
  cs : Cs w p [a, b, c, V, H, O, .int .i64 s.t]
  v : w.ownsRow B E 1 V s.v.length (iv s.v)
  h : w.ownsRow B E 1 H hats.length (iv hats)
  o : w.ownsRow B E 1 O s.o.length (iv s.o)
  vp : apart V p
  hp : apart H p
  op : apart O p
  vh : V.ownBlock = none ∨ V.ownBlock ≠ H.ownBlock
  vo : V.ownBlock = none ∨ V.ownBlock ≠ O.ownBlock
  ho : H.ownBlock = none ∨ H.ownBlock ≠ O.ownBlock
theorem Mk.below {E : TypeId} {B p : Nat} {a b c V H : Value} {hats : List Int} {w w' : World} {O : Value} {s : Ms} (h : Mk E B p a b c V H hats w O s) (hb : Below w.heap.size w w') : Mk E B p a b c V H hats w' O s :=
  ⟨h.lo, h.cs.next hb, ownsRow_below h.v hb, ownsRow_below h.h hb, ownsRow_below h.o hb, h.vp, h.hp, h.op, h.vh, h.vo, h.ho⟩
/-- The blocks that a machine writes. -/
def Own (p : Nat) (V O : Value) (k : Nat) : Prop := k = p ∨ V.ownBlock = some k ∨ O.ownBlock = some k
/-- From a machine to a machine. -/
structure Went (E : TypeId) (B p : Nat) (a b c V H : Value) (hats : List Int) (w : World) (O : Value) (w' : World) (O' : Value) (s' : Ms) : Prop where
  st : Mk E B p a b c V H hats w' O' s'
  fr : Fr (Own p V O) w w'
  ob : O'.ownBlock = O.ownBlock ∨ ∀ k, O'.ownBlock = some k → w.heap.size ≤ k
theorem Went.refl {E : TypeId} {B p : Nat} {a b c V H : Value} {hats : List Int} {w : World} {O : Value} {s : Ms} (h : Mk E B p a b c V H hats w O s) : Went E B p a b c V H hats w O w O s := ⟨h, Fr.refl _ _, .inl rfl⟩
theorem Fr.weak {S T : Nat → Prop} {a b : World} (h : Fr S a b) (hs : ∀ k, k < a.heap.size → S k → T k) : Fr T a b := ⟨h.os, h.tape, h.output, h.size, fun k hk hn => h.block k hk (fun e => hn (hs k hk e))⟩
theorem Fr.step {S T : Nat → Prop} {a b c : World} (h : Fr S a b) (k : Fr T b c) (hs : ∀ i, i < a.heap.size → T i → S i) : Fr S a c :=
  ⟨k.os.trans h.os, k.tape.trans h.tape, k.output.trans h.output, Nat.le_trans h.size k.size, fun i hi hn => (k.block i (Nat.lt_of_lt_of_le hi h.size) (fun e => hn (hs i hi e))).trans (h.block i hi hn)⟩
theorem own_next {p : Nat} {V O O' : Value} {n : Nat} (ob : O'.ownBlock = O.ownBlock ∨ ∀ k, O'.ownBlock = some k → n ≤ k) : ∀ i, i < n → Own p V O' i → Own p V O i := by
  intro i hi h
  rcases h with h | h | h
  · exact .inl h
  · exact .inr (.inl h)
  · rcases ob with e | e
    · exact .inr (.inr (e ▸ h))
    · have := e i h; omega
theorem Went.trans {E : TypeId} {B p : Nat} {a b c V H : Value} {hats : List Int} {w w1 w2 : World} {O O1 O2 : Value} {s1 s2 : Ms} (h : Went E B p a b c V H hats w O w1 O1 s1) (k : Went E B p a b c V H hats w1 O1 w2 O2 s2) : Went E B p a b c V H hats w O w2 O2 s2 := by
  refine ⟨k.st, h.fr.step k.fr (own_next h.ob), ?_⟩
  rcases k.ob with e | e
  · rcases h.ob with e' | e'
    · exact .inl (e.trans e')
    · exact .inr fun i hi => e' i (e ▸ hi)
  · exact .inr fun i hi => Nat.le_trans h.fr.size (e i hi)
theorem Went.below {E : TypeId} {B p : Nat} {a b c V H : Value} {hats : List Int} {w w1 w2 : World} {O O1 : Value} {s1 : Ms} (h : Went E B p a b c V H hats w O w1 O1 s1) (hb : Below w1.heap.size w1 w2) : Went E B p a b c V H hats w O w2 O1 s1 :=
  ⟨h.st.below hb, h.fr.trans (Fr.of hb), h.ob⟩
/-- What lies in a block of another keeps. -/
theorem Went.keep {E : TypeId} {B p : Nat} {a b c V H : Value} {hats : List Int} {w w1 : World} {O O1 : Value} {s1 : Ms} (h : Went E B p a b c V H hats w O w1 O1 s1) {q : Nat} {us : List Value} (hc : Cs w q us) (hn : ¬ Own p V O q) : Cs w1 q us := hc.fr h.fr hn
theorem Went.not {E : TypeId} {B p : Nat} {a b c V H : Value} {hats : List Int} {w w1 : World} {O O1 : Value} {s1 : Ms} (h : Went E B p a b c V H hats w O w1 O1 s1) {q : Nat} (hq : q < w.heap.size) (hn : ¬ Own p V O q) : ¬ Own p V O1 q := fun e => hn (own_next h.ob q hq e)
/-- What lies below B keeps. -/
theorem Went.low {E : TypeId} {B p : Nat} {a b c V H : Value} {hats : List Int} {w0 w w1 : World} {O O1 : Value} {s s1 : Ms} (h : Went E B p a b c V H hats w O w1 O1 s1) (hm : Mk E B p a b c V H hats w O s) (hb : Below B w0 w) (hB : B ≤ w.heap.size) : Below B w0 w1 :=
  h.fr.below hb (fun k hk => by
    rcases hk with rfl | hk | hk
    · exact hm.lo
    · exact (hm.v.lt k hk).1
    · exact (hm.o.lt k hk).1) hB
theorem Mk.fresh {E : TypeId} {B p : Nat} {a b c V H : Value} {hats : List Int} {w : World} {O : Value} {s : Ms} (h : Mk E B p a b c V H hats w O s) {q : Nat} (hq : w.heap.size ≤ q) : ¬ Own p V O q := by
  intro e
  rcases e with rfl | e | e
  · have := h.cs.lt; omega
  · have := (h.v.lt q e).2; omega
  · have := (h.o.lt q e).2; omega
theorem Mk.B_le {E : TypeId} {B p : Nat} {a b c V H : Value} {hats : List Int} {w : World} {O : Value} {s : Ms} (h : Mk E B p a b c V H hats w O s) : B ≤ w.heap.size := by have := h.lo; have := h.cs.lt; omega
/-- The time is set. -/
theorem Mk.time {E : TypeId} {B p : Nat} {a b c V H : Value} {hats : List Int} {w : World} {O : Value} {s : Ms} (h : Mk E B p a b c V H hats w O s) (t : Int) : Went E B p a b c V H hats w O (w.setCell ⟨p, 6, none⟩ (.int .i64 t)) O ⟨s.v, s.o, t⟩ :=
  ⟨⟨h.lo, by have := h.cs.set 6 (.int .i64 t) (by simp); simpa using this, ownsRow_setCell_other (a := ⟨p, 6, none⟩) h.v h.vp _, ownsRow_setCell_other (a := ⟨p, 6, none⟩) h.h h.hp _, ownsRow_setCell_other (a := ⟨p, 6, none⟩) h.o h.op _, h.vp, h.hp, h.op, h.vh, h.vo, h.ho⟩,
    (Fr.refl _ _).setCell (.inl rfl) _, .inl rfl⟩
/-- A value is stored. -/
theorem Mk.val {E : TypeId} {B p : Nat} {a b c H : Value} {q l cp : Nat} {hats : List Int} {w : World} {O : Value} {s : Ms} (h : Mk E B p a b c (.slice (some ⟨q, 0, none⟩) l cp) H hats w O s) (j : Nat) (n : Int) : Went E B p a b c (.slice (some ⟨q, 0, none⟩) l cp) H hats w O (w.setCell ⟨q, j, none⟩ (.int .i64 n)) O ⟨s.v.set j n, s.o, s.t⟩ := by
  have hl : l = s.v.length := by
    rcases h.v.2 with ⟨hv, _⟩ | ⟨g, cap, cur, hv, _⟩
    · simp at hv
    · simp only [Value.slice.injEq] at hv; exact hv.2.1
  subst hl
  have hst := (h.v.stored j (.int .i64 n)).1
  refine ⟨⟨h.lo, h.cs.other (p := ⟨q, j, none⟩) (fun e => h.vp (by simp [Value.ownBlock]; exact e)) _, ?_, ownsRow_setCell_other h.h ?_ _, ownsRow_setCell_other h.o ?_ _, h.vp, h.hp, h.op, h.vh, h.vo, h.ho⟩, (Fr.refl _ _).setCell (.inr (.inl rfl)) _, .inl rfl⟩
  · show World.ownsRow _ B E 1 _ (s.v.set j n).length (iv (s.v.set j n))
    rw [List.length_set, iv_set]
    exact hst
  · rcases h.vh with e | e
    · simp [Value.ownBlock] at e
    · exact fun e' => e (by rw [e']; rfl)
  · rcases h.vo with e | e
    · simp [Value.ownBlock] at e
    · exact fun e' => e (by rw [e']; rfl)
/-- An output is added: first the row has grown, then its slice is stored. -/
theorem Mk.out {E : TypeId} {B p : Nat} {a b c V H : Value} {hats : List Int} {w w1 : World} {O O' : Value} {s : Ms} {n : Int} (h : Mk E B p a b c V H hats w O s) (hr : w1.ownsRow B E 1 O' (s.o.length + 1) (iv s.o ++ [.int .i64 n])) (hg : w.grownBy w1 O.ownBlock) (hob : O'.ownBlock = O.ownBlock ∨ O'.ownBlock = some w.heap.size) : Went E B p a b c V H hats w O (w1.setCell ⟨p, 5, none⟩ O') O' ⟨s.v, s.o ++ [n], s.t⟩ := by
  have hpl := h.cs.lt
  have hO' : apart O' p := by
    intro e
    rcases hob with k | k
    · exact h.op (k ▸ e)
    · rw [k] at e; injection e with e; omega
  have far : ∀ (X : Value) (xs : List Value) (m : Nat), w.ownsRow B E 1 X m xs → (X.ownBlock = none ∨ X.ownBlock ≠ O.ownBlock) → (X.ownBlock = none ∨ X.ownBlock ≠ O'.ownBlock) := by
    intro X xs m hX hx
    rcases hob with k | k
    · rw [k]; exact hx
    · rw [k]
      refine .inr fun e => ?_
      have := (hX.lt _ e).2
      omega
  have hcs : Cs w1 p [a, b, c, V, H, O, .int .i64 s.t] :=
    h.cs.fr (S := fun k => O.ownBlock = some k) ⟨hg.os, hg.tape, hg.output, hg.size, fun k hk hn => hg.block k hk (fun e => hn e.symm)⟩ h.op
  refine ⟨⟨h.lo, by have := hcs.set 5 O' (by simp); simpa using this, ownsRow_setCell_other (a := ⟨p, 5, none⟩) (h.v.kept hg h.vo) h.vp _, ownsRow_setCell_other (a := ⟨p, 5, none⟩) (h.h.kept hg h.ho) h.hp _, ownsRow_setCell_other (a := ⟨p, 5, none⟩) ?_ hO' _, h.vp, h.hp, hO', h.vh, far V _ _ h.v h.vo, far H _ _ h.h h.ho⟩, ?_, ?_⟩
  · show World.ownsRow _ B E 1 _ (s.o ++ [n]).length (iv (s.o ++ [n]))
    rw [List.length_append, List.length_singleton, iv_app]
    exact hr
  · exact (Fr.setCell ⟨hg.os, hg.tape, hg.output, hg.size, fun k hk hn => hg.block k hk (fun e => hn (.inr (.inr e.symm)))⟩ (.inl rfl) _)
  · rcases hob with k | k
    · exact .inl k
    · exact .inr fun i hi => by rw [k] at hi; injection hi with hi; omega
end Go.Proofs.YtjpjmoejdkmglaaGreat
