/-
  The tables of joins and meets while they are made; no walk stands here.
-/
import Derived.Test.YtnipigninbeplaaDoorPoO
import Derived.Laws.OwnMore
namespace Go.Proofs.YtnipigninbeplaaDoor
open Go.RowKit

def rowsV (jb : Nat → Nat) (a n : Nat) : List Value := (List.range a).map fun i => Value.slice (some ⟨jb i, 0, none⟩) n n
def partV (g : Nat → Nat) (b n : Nat) : List Value := (List.range n).map fun k => if k < b then Value.int .i64 (g k : Nat) else Value.int .i64 0
theorem rowsV_succ (jb : Nat → Nat) (a n g : Nat) : rowsV (fun i => if i = a then g else jb i) (a + 1) n = rowsV jb a n ++ [Value.slice (some ⟨g, 0, none⟩) n n] := by
  unfold rowsV
  rw [List.range_succ, List.map_append, List.map_cons, List.map_nil]
  simp only [if_pos]
  congr 1
  refine List.map_congr_left fun i hi => ?_
  rw [List.mem_range] at hi
  rw [if_neg (by omega)]
theorem partV_len (g : Nat → Nat) (b n : Nat) : (partV g b n).length = n := by simp [partV]
theorem partV_zero (g : Nat → Nat) (n : Nat) : partV g 0 n = List.replicate n (Value.int .i64 0) := by
  unfold partV
  refine List.ext_getElem (by simp) fun j h1 h2 => ?_
  simp
theorem partV_set (g : Nat → Nat) (b n : Nat) : (partV g b n).set b (.int .i64 (g b : Nat)) = partV g (b + 1) n := by
  unfold partV
  refine List.ext_getElem (by simp) fun j h1 h2 => ?_
  rw [List.getElem_set]
  by_cases hj : b = j
  · subst hj
    simp
  · simp only [if_neg hj, List.getElem_map, List.getElem_range]
    by_cases hl : j < b
    · rw [if_pos hl, if_pos (by omega)]
    · rw [if_neg hl, if_neg (by omega)]
theorem partV_at (g : Nat → Nat) (n b : Nat) (h : b < n) : (partV g n n)[b]? = some (.int .i64 (g b : Nat)) := by
  unfold partV
  simp [h]
theorem own_fr {S : Nat → Prop} {W W' : World} {B : Nat} {E : TypeId} {V : Value} {n : Nat} {xs : List Value} (h : W.ownsRow B E 1 V n xs) (hf : Fr S W W') (hs : ∀ k, V.ownBlock = some k → ¬ S k) : W'.ownsRow B E 1 V n xs := by
  refine ⟨h.1, ?_⟩
  rcases h.2 with hn | ⟨g, cap, cur, rfl, hB, hgg, rest⟩
  · exact .inl hn
  · refine .inr ⟨g, cap, cur, rfl, hB, ?_, rest⟩
    rw [hf.block g (Array.getElem?_eq_some_iff.1 hgg).1 (hs g rfl)]
    exact hgg
theorem Fr.grew {W W' : World} {r : Option Nat} (hg : W.grownBy W' r) : Fr (fun k => r = some k) W W' :=
  ⟨hg.os, hg.tape, hg.output, hg.size, fun k hk hn => hg.block k hk (fun e => hn e.symm)⟩
theorem Fr.wide {S T : Nat → Prop} {a b : World} (h : Fr S a b) (hs : ∀ k, k < a.heap.size → S k → T k) : Fr T a b := ⟨h.os, h.tape, h.output, h.size, fun k hk hn => h.block k hk (fun e => hn (hs k hk e))⟩
theorem Fr.comp {S T : Nat → Prop} {a b c : World} (h : Fr S a b) (k : Fr T b c) (hs : ∀ i, i < a.heap.size → T i → S i) : Fr S a c :=
  ⟨k.os.trans h.os, k.tape.trans h.tape, k.output.trans h.output, Nat.le_trans h.size k.size, fun i hi hn => (k.block i (Nat.lt_of_lt_of_le hi h.size) (fun e => hn (hs i hi e))).trans (h.block i hi hn)⟩
/-- The first a rows of a table of levels. -/
structure Tab (W : World) (B : Nat) (E : TypeId) (V : Value) (a n : Nat) (jb : Nat → Nat) (f : Nat → Nat → Nat) : Prop where
  own : W.ownsRow B E 1 V a (rowsV jb a n)
  row : ∀ i, i < a → Cs W (jb i) (partV (f i) n n)
  lo : ∀ i, i < a → B ≤ jb i
  ap : ∀ i, i < a → V.ownBlock ≠ some (jb i)
theorem Tab.fr {S : Nat → Prop} {W W' : World} {B : Nat} {E : TypeId} {V : Value} {a n : Nat} {jb : Nat → Nat} {f : Nat → Nat → Nat} (h : Tab W B E V a n jb f) (hf : Fr S W W') (hv : ∀ k, V.ownBlock = some k → ¬ S k) (hr : ∀ i, i < a → ¬ S (jb i)) : Tab W' B E V a n jb f :=
  ⟨own_fr h.own hf hv, fun i hi => (h.row i hi).fr hf (hr i hi), h.lo, h.ap⟩
/-- Behind a rows. -/
structure Bo (w : World) (b0 q n : Nat) (rb : Nat → Nat) (M : Mx) (A0 A1 : Value) (E : TypeId) (jf kf : Nat → Nat → Nat) (W : World) (a : Nat) (JV KV : Value) (jb kb : Nat → Nat) : Prop where
  fr : Fr (· = b0) w W
  t : W.cell? ⟨w.heap.size, 0, none⟩ = some (.pointer (some ⟨b0, 0, none⟩))
  tl : w.heap.size < W.heap.size
  cs : Cs W b0 [A0, A1, .slice (some ⟨q, 0, none⟩) n n, JV, KV]
  m : Mem W q n n rb M
  j : Tab W (w.heap.size + 1) E JV a n jb jf
  k : Tab W (w.heap.size + 1) E KV a n kb kf
  jk : JV.ownBlock = none ∨ JV.ownBlock ≠ KV.ownBlock
  jr : ∀ i, i < a → KV.ownBlock ≠ some (jb i)
  kr : ∀ i, i < a → JV.ownBlock ≠ some (kb i)
  lt : b0 < w.heap.size
  ql : q < w.heap.size
  rl : ∀ i, i < n → rb i < w.heap.size
  qb : b0 ≠ q
  rbb : ∀ i, i < n → b0 ≠ rb i
section
variable {w : World} {b0 q n : Nat} {rb : Nat → Nat} {M : Mx} {A0 A1 : Value} {E : TypeId} {jf kf : Nat → Nat → Nat} {W : World} {a : Nat} {JV KV : Value} {jb kb : Nat → Nat}
theorem Bo.up (h : Bo w b0 q n rb M A0 A1 E jf kf W a JV KV jb kb) : Up W w.heap.size b0 q n rb M := ⟨h.t, h.tl, h.cs.at 2 _ rfl, h.cs.lt, h.m⟩
theorem Bo.frS {S : Nat → Prop} {W' : World} (h : Bo w b0 q n rb M A0 A1 E jf kf W a JV KV jb kb) (hf : Fr S W W') (hS : ∀ x, S x → w.heap.size < x) : Fr (· = b0) w W' :=
  h.fr.comp hf fun i hi hs => by have := hS i hs; omega
theorem Bo.keep {S : Nat → Prop} {W' : World} (h : Bo w b0 q n rb M A0 A1 E jf kf W a JV KV jb kb) (hf : Fr S W W') (hS : ∀ x, S x → w.heap.size < x) (hj : ∀ x, JV.ownBlock = some x → ¬ S x) (hk : ∀ x, KV.ownBlock = some x → ¬ S x)
    (hjb : ∀ i, i < a → ¬ S (jb i)) (hkb : ∀ i, i < a → ¬ S (kb i)) : Bo w b0 q n rb M A0 A1 E jf kf W' a JV KV jb kb := by
  have hlt : ∀ x, x < w.heap.size → ¬ S x := fun x hx hs => by have := hS x hs; omega
  exact ⟨h.frS hf hS, (hf.cell (p := ⟨w.heap.size, 0, none⟩) h.tl (fun hs => by have := hS _ hs; simp at this)).trans h.t, Nat.lt_of_lt_of_le h.tl hf.size, h.cs.fr hf (hlt _ h.lt), h.m.fr hf (hlt _ h.ql) (fun i hi => hlt _ (h.rl i hi)),
    h.j.fr hf hj hjb, h.k.fr hf hk hkb, h.jk, h.jr, h.kr, h.lt, h.ql, h.rl, h.qb, h.rbb⟩
theorem Bo.next {W' : World} (h : Bo w b0 q n rb M A0 A1 E jf kf W a JV KV jb kb) (hb : Below W.heap.size W W') : Bo w b0 q n rb M A0 A1 E jf kf W' a JV KV jb kb :=
  h.keep (S := fun _ => False) (Fr.of hb) (fun _ hs => hs.elim) (fun _ _ hs => hs) (fun _ _ hs => hs) (fun _ _ hs => hs) (fun _ _ hs => hs)
/-- Block g is apart from all that the tables have. -/
def Free (a : Nat) (JV KV : Value) (jb kb : Nat → Nat) (g : Nat) : Prop := JV.ownBlock ≠ some g ∧ KV.ownBlock ≠ some g ∧ ∀ i, i < a → jb i ≠ g ∧ kb i ≠ g
theorem Bo.free (h : Bo w b0 q n rb M A0 A1 E jf kf W a JV KV jb kb) {g : Nat} (hg : W.heap.size ≤ g) : Free a JV KV jb kb g :=
  ⟨fun e => by have := (h.j.own.lt g e).2; omega, fun e => by have := (h.k.own.lt g e).2; omega, fun i hi => ⟨fun e => by have := (h.j.row i hi).lt; omega, fun e => by have := (h.k.row i hi).lt; omega⟩⟩
/-- A row of either table is being filled. -/
structure Jo (w : World) (b0 q n : Nat) (rb : Nat → Nat) (M : Mx) (A0 A1 : Value) (E : TypeId) (jf kf : Nat → Nat → Nat) (W : World) (a : Nat) (JV KV : Value) (jb kb : Nat → Nat) (b gj gm : Nat) : Prop where
  bo : Bo w b0 q n rb M A0 A1 E jf kf W a JV KV jb kb
  cj : Cs W gj (partV (jf a) b n)
  cm : Cs W gm (partV (kf a) b n)
  ne : gj ≠ gm
  lj : w.heap.size < gj
  lm : w.heap.size < gm
  fj : Free a JV KV jb kb gj
  fm : Free a JV KV jb kb gm
variable {b gj gm : Nat}
theorem Jo.next {W' : World} (h : Jo w b0 q n rb M A0 A1 E jf kf W a JV KV jb kb b gj gm) (hb : Below W.heap.size W W') : Jo w b0 q n rb M A0 A1 E jf kf W' a JV KV jb kb b gj gm :=
  ⟨h.bo.next hb, h.cj.next hb, h.cm.next hb, h.ne, h.lj, h.lm, h.fj, h.fm⟩
theorem Jo.start (T : TypeId) (h : Bo w b0 q n rb M A0 A1 E jf kf W a JV KV jb kb) (hg : (gj = W.heap.size ∧ gm = W.heap.size + 1) ∨ (gm = W.heap.size ∧ gj = W.heap.size + 1)) :
    Jo w b0 q n rb M A0 A1 E jf kf (((W.alloc (.cells (Array.replicate n (Value.int .i64 0)) T)).alloc (.cells (Array.replicate n (Value.int .i64 0)) T)).drew) a JV KV jb kb 0 gj gm := by
  have c1 := (Cs.new W (Array.replicate n (Value.int .i64 0)) T).alloc (.cells (Array.replicate n (Value.int .i64 0)) T)
  have c2 := Cs.new (W.alloc (.cells (Array.replicate n (Value.int .i64 0)) T)) (Array.replicate n (Value.int .i64 0)) T
  have e : (W.alloc (.cells (Array.replicate n (Value.int .i64 0)) T)).heap.size = W.heap.size + 1 := by simp
  rw [e] at c2
  have hb : Below W.heap.size W (((W.alloc (.cells (Array.replicate n (Value.int .i64 0)) T)).alloc (.cells (Array.replicate n (Value.int .i64 0)) T)).drew) := (((Below.refl _ _).alloc (Nat.le_refl _) _).alloc (by simp) _).drew
  have hl : (Array.replicate n (Value.int .i64 0)).toList = partV (jf a) 0 n := by rw [partV_zero]; simp
  have hl2 : (Array.replicate n (Value.int .i64 0)).toList = partV (kf a) 0 n := by rw [partV_zero]; simp
  have ht := h.tl
  rcases hg with ⟨rfl, rfl⟩ | ⟨rfl, rfl⟩
  · exact ⟨h.next hb, by rw [← hl]; exact c1.drew, by rw [← hl2]; exact c2.drew, by omega, by omega, by omega, h.free (Nat.le_refl _), h.free (by omega)⟩
  · exact ⟨h.next hb, by rw [← hl]; exact c2.drew, by rw [← hl2]; exact c1.drew, by omega, by omega, by omega, h.free (by omega), h.free (Nat.le_refl _)⟩
theorem Bo.poke (h : Bo w b0 q n rb M A0 A1 E jf kf W a JV KV jb kb) {g i : Nat} (hl : w.heap.size < g) (hf : Free a JV KV jb kb g) (v : Value) : Bo w b0 q n rb M A0 A1 E jf kf (W.setCell ⟨g, i, none⟩ v) a JV KV jb kb :=
  h.keep (S := (· = g)) (Fr.setCell (S := (· = g)) (Fr.refl _ _) (p := ⟨g, i, none⟩) rfl v) (fun x hx => by rw [hx]; exact hl) (fun x hx hs => hf.1 (by rw [hx, hs])) (fun x hx hs => hf.2.1 (by rw [hx, hs])) (fun i hi hs => (hf.2.2 i hi).1 hs) (fun i hi hs => (hf.2.2 i hi).2 hs)
theorem Jo.put (h : Jo w b0 q n rb M A0 A1 E jf kf W a JV KV jb kb b gj gm) (hb : b < n) :
    Jo w b0 q n rb M A0 A1 E jf kf ((W.setCell ⟨gj, b, none⟩ (.int .i64 (jf a b : Nat))).setCell ⟨gm, b, none⟩ (.int .i64 (kf a b : Nat))) a JV KV jb kb (b + 1) gj gm := by
  refine ⟨(h.bo.poke h.lj h.fj _).poke h.lm h.fm _, ?_, ?_, h.ne, h.lj, h.lm, h.fj, h.fm⟩
  · have := h.cj.set b (.int .i64 (jf a b : Nat)) (by rw [partV_len]; exact hb)
    rw [partV_set] at this
    exact this.other (fun e => h.ne e.symm) _
  · have := (h.cm.other (p := ⟨gj, b, none⟩) h.ne (.int .i64 (jf a b : Nat))).set b (.int .i64 (kf a b : Nat)) (by rw [partV_len]; exact hb)
    rw [partV_set] at this
    exact this
/-- Both rows are appended. -/
theorem Jo.push {W4 : World} {g1 g2 c1 c2 : Nat} (h : Jo w b0 q n rb M A0 A1 E jf kf W a JV KV jb kb n gj gm) (hf : Fr (fun x => JV.ownBlock = some x ∨ KV.ownBlock = some x) W W4)
    (h1 : W4.ownsRow (w.heap.size + 1) E 1 (.slice (some ⟨g1, 0, none⟩) (a + 1) c1) (a + 1) (rowsV jb a n ++ [.slice (some ⟨gj, 0, none⟩) n n])) (h2 : W4.ownsRow (w.heap.size + 1) E 1 (.slice (some ⟨g2, 0, none⟩) (a + 1) c2) (a + 1) (rowsV kb a n ++ [.slice (some ⟨gm, 0, none⟩) n n]))
    (o1 : JV.ownBlock = some g1 ∨ W.heap.size ≤ g1) (o2 : KV.ownBlock = some g2 ∨ W.heap.size ≤ g2) (hne : g1 ≠ g2) :
    Bo w b0 q n rb M A0 A1 E jf kf ((W4.setCell ⟨b0, 3, none⟩ (.slice (some ⟨g1, 0, none⟩) (a + 1) c1)).setCell ⟨b0, 4, none⟩ (.slice (some ⟨g2, 0, none⟩) (a + 1) c2)) (a + 1) (.slice (some ⟨g1, 0, none⟩) (a + 1) c1) (.slice (some ⟨g2, 0, none⟩) (a + 1) c2)
      (fun i => if i = a then gj else jb i) (fun i => if i = a then gm else kb i) := by
  have hb := h.bo
  have hS : ∀ x, (JV.ownBlock = some x ∨ KV.ownBlock = some x) → w.heap.size < x := fun x hx => by
    rcases hx with hx | hx
    · have := (hb.j.own.lt x hx).1; omega
    · have := (hb.k.own.lt x hx).1; omega
  have hlt : ∀ x, x < w.heap.size → ¬ (JV.ownBlock = some x ∨ KV.ownBlock = some x) := fun x hx hs => by have := hS x hs; omega
  have hW5 : Fr (· = b0) W4 ((W4.setCell ⟨b0, 3, none⟩ (.slice (some ⟨g1, 0, none⟩) (a + 1) c1)).setCell ⟨b0, 4, none⟩ (.slice (some ⟨g2, 0, none⟩) (a + 1) c2)) := ((Fr.refl (· = b0) W4).setCell (p := ⟨b0, 3, none⟩) rfl _).setCell (p := ⟨b0, 4, none⟩) rfl _
  have hb0 := hb.lt
  have hg1 := (h1.lt g1 rfl).1
  have hg2 := (h2.lt g2 rfl).1
  have rowJ : ∀ i, i < a + 1 → Cs ((W4.setCell ⟨b0, 3, none⟩ (.slice (some ⟨g1, 0, none⟩) (a + 1) c1)).setCell ⟨b0, 4, none⟩ (.slice (some ⟨g2, 0, none⟩) (a + 1) c2)) (if i = a then gj else jb i) (partV (jf i) n n) ∧ w.heap.size + 1 ≤ (if i = a then gj else jb i) ∧ g1 ≠ (if i = a then gj else jb i) ∧ g2 ≠ (if i = a then gj else jb i) := by
    intro i hi
    by_cases e : i = a
    · subst e
      rw [if_pos rfl]
      have hl := h.cj.lt
      have := h.lj
      refine ⟨(h.cj.fr hf (fun hs => by rcases hs with hs | hs; exact h.fj.1 hs; exact h.fj.2.1 hs)).fr hW5 (by omega), by omega, fun e => ?_, fun e => ?_⟩
      · rcases o1 with o1 | o1
        · exact h.fj.1 (by rw [o1, e])
        · omega
      · rcases o2 with o2 | o2
        · exact h.fj.2.1 (by rw [o2, e])
        · omega
    · rw [if_neg e]
      have hi' : i < a := by omega
      have hl := (hb.j.row i hi').lt
      have hlo := hb.j.lo i hi'
      refine ⟨((hb.j.row i hi').fr hf (fun hs => by rcases hs with hs | hs; exact hb.j.ap i hi' hs; exact hb.jr i hi' hs)).fr hW5 (by omega), hlo, fun e => ?_, fun e => ?_⟩
      · rcases o1 with o1 | o1
        · exact hb.j.ap i hi' (by rw [o1, e])
        · omega
      · rcases o2 with o2 | o2
        · exact hb.jr i hi' (by rw [o2, e])
        · omega
  have rowK : ∀ i, i < a + 1 → Cs ((W4.setCell ⟨b0, 3, none⟩ (.slice (some ⟨g1, 0, none⟩) (a + 1) c1)).setCell ⟨b0, 4, none⟩ (.slice (some ⟨g2, 0, none⟩) (a + 1) c2)) (if i = a then gm else kb i) (partV (kf i) n n) ∧ w.heap.size + 1 ≤ (if i = a then gm else kb i) ∧ g1 ≠ (if i = a then gm else kb i) ∧ g2 ≠ (if i = a then gm else kb i) := by
    intro i hi
    by_cases e : i = a
    · subst e
      rw [if_pos rfl]
      have hl := h.cm.lt
      have := h.lm
      refine ⟨(h.cm.fr hf (fun hs => by rcases hs with hs | hs; exact h.fm.1 hs; exact h.fm.2.1 hs)).fr hW5 (by omega), by omega, fun e => ?_, fun e => ?_⟩
      · rcases o1 with o1 | o1
        · exact h.fm.1 (by rw [o1, e])
        · omega
      · rcases o2 with o2 | o2
        · exact h.fm.2.1 (by rw [o2, e])
        · omega
    · rw [if_neg e]
      have hi' : i < a := by omega
      have hl := (hb.k.row i hi').lt
      have hlo := hb.k.lo i hi'
      refine ⟨((hb.k.row i hi').fr hf (fun hs => by rcases hs with hs | hs; exact hb.kr i hi' hs; exact hb.k.ap i hi' hs)).fr hW5 (by omega), hlo, fun e => ?_, fun e => ?_⟩
      · rcases o1 with o1 | o1
        · exact hb.kr i hi' (by rw [o1, e])
        · omega
      · rcases o2 with o2 | o2
        · exact hb.k.ap i hi' (by rw [o2, e])
        · omega
  refine ⟨(hb.frS hf hS).trans hW5, ?_, ?_, ?_, ?_, ⟨?_, fun i hi => (rowJ i hi).1, fun i hi => (rowJ i hi).2.1, fun i hi e => (rowJ i hi).2.2.1 (by simpa [Value.ownBlock] using e)⟩, ⟨?_, fun i hi => (rowK i hi).1, fun i hi => (rowK i hi).2.1, fun i hi e => (rowK i hi).2.2.2 (by simpa [Value.ownBlock] using e)⟩, .inr (fun e => hne (by simpa [Value.ownBlock] using e)), fun i hi e => (rowJ i hi).2.2.2 (by simpa [Value.ownBlock] using e), fun i hi e => (rowK i hi).2.2.1 (by simpa [Value.ownBlock] using e), hb.lt, hb.ql, hb.rl, hb.qb, hb.rbb⟩
  · exact (hW5.cell (p := ⟨w.heap.size, 0, none⟩) (Nat.lt_of_lt_of_le hb.tl hf.size) (by simp only; omega)).trans ((hf.cell (p := ⟨w.heap.size, 0, none⟩) hb.tl (fun hs => by have := hS _ hs; simp at this)).trans hb.t)
  · exact Nat.lt_of_lt_of_le hb.tl (Nat.le_trans hf.size hW5.size)
  · exact ((hb.cs.fr hf (hlt _ hb.lt)).set 3 _ (by simp)).set 4 _ (by simp)
  · exact ((hb.m.fr hf (hlt _ hb.ql) (fun i hi => hlt _ (hb.rl i hi))).other (p := ⟨b0, 3, none⟩) hb.qb hb.rbb _).other (p := ⟨b0, 4, none⟩) hb.qb hb.rbb _
  · rw [rowsV_succ]
    exact own_fr h1 hW5 (fun k hk hs => by simp only [Value.ownBlock, Option.some.injEq] at hk; omega)
  · rw [rowsV_succ]
    exact own_fr h2 hW5 (fun k hk hs => by simp only [Value.ownBlock, Option.some.injEq] at hk; omega)
end
end Go.Proofs.YtnipigninbeplaaDoor
