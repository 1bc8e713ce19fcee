/-
  The reader in memory, and the walk over level.
-/
import Derived.Test.YtnipigninbeplaaDoorQoA
namespace Go.Proofs.YtnipigninbeplaaDoor
open Go.RowKit Go.Maps

theorem own_frS {S : Nat → Prop} {W W' : World} {B z : Nat} {E : TypeId} {V : Value} {n : Nat} {xs : List Value} (h : W.ownsRow B E z V n xs) (hf : Fr S W W') (hs : ∀ k, V.ownBlock = some k → ¬ S k) : W'.ownsRow B E z V n xs := by
  refine ⟨h.1, ?_⟩
  rcases h.2 with hn | ⟨g, cap, cur, rfl, hB, hgg, rest⟩
  · exact .inl hn
  · refine .inr ⟨g, cap, cur, rfl, hB, ?_, rest⟩
    rw [hf.block g (Array.getElem?_eq_some_iff.1 hgg).1 (hs g rfl)]
    exact hgg
def ovals (l : List (Int × Int)) : List Value := (l.map fun q => [Value.int .i64 q.1, Value.int .i64 q.2]).flatten
def lbvals (l : List Lb) : List Value := (l.map fun x => [Value.string x.name, Value.int .i64 x.lev]).flatten
theorem ovals_snoc (l : List (Int × Int)) (q : Int × Int) : ovals (l ++ [q]) = ovals l ++ [Value.int .i64 q.1, Value.int .i64 q.2] := by simp [ovals]
theorem lbvals_snoc (l : List Lb) (x : Lb) : lbvals (l ++ [x]) = lbvals l ++ [Value.string x.name, Value.int .i64 x.lev] := by simp [lbvals]
/-- The reader's four rows: the element's type, its cells, how many, what they hold. -/
def rE : Nat → TypeId | 0 => 9 | 1 => 42 | _ => 71
def rS : Nat → Nat | 0 => 1 | _ => 2
def rN (p : Py) : Nat → Nat | 0 => p.levels.length | 1 => p.order.length | 2 => p.inputs.length | _ => p.hatches.length
def rX (p : Py) : Nat → List Value | 0 => svals p.levels | 1 => ovals p.order | 2 => lbvals p.inputs | _ => lbvals p.hatches
/-- The reader: its map in block w.heap.size, its cells in the next one; a block K that is not the reader's. -/
structure Rm (K : Nat × Obj) (w W : World) (V : Nat → Value) (s : Rd) (ls : List ByteArray) (n : Nat) (D : DataW Unit) : Prop where
  bel : Below w.heap.size w W
  cs : Cs W (w.heap.size + 1) [V 0, V 1, V 2, V 3, .int .i64 s.p.obs, .bool s.p.timed, .map (some w.heap.size), .bool s.sorted, .bool s.seen]
  ix : IxIn W w.heap.size n ls D
  row : ∀ k, k < 4 → W.ownsRow (w.heap.size + 2) (rE k) (rS k) (V k) (rN s.p k) (rX s.p k)
  ap : ∀ j k, j < 4 → k < 4 → j ≠ k → (V j).ownBlock = none ∨ (V j).ownBlock ≠ (V k).ownBlock
  lt : w.heap.size + 2 ≤ W.heap.size
  kp : W.heap[K.1]? = some K.2 ∧ w.heap.size + 2 ≤ K.1 ∧ ∀ k, k < 4 → (V k).ownBlock ≠ some K.1
theorem kp_fr {S : Nat → Prop} {K : Nat × Obj} {W W' : World} (h : W.heap[K.1]? = some K.2) (hf : Fr S W W') (hs : ¬ S K.1) : W'.heap[K.1]? = some K.2 := (hf.block K.1 (Array.getElem?_eq_some_iff.1 h).1 hs).trans h
section
variable {K : Nat × Obj} {w W W' : World} {V : Nat → Value} {s : Rd} {ls : List ByteArray} {n : Nat} {D : DataW Unit}
theorem Rm.next (h : Rm K w W V s ls n D) (hb : Below W.heap.size W W') : Rm K w W' V s ls n D :=
  ⟨h.bel.trans (hb.mono h.bel.size), h.cs.next hb, h.ix.next hb, fun k hk => own_frS (h.row k hk) (Fr.of (S := fun _ => False) hb) (fun _ _ h => h), h.ap, Nat.le_trans h.lt hb.size, kp_fr h.kp.1 (Fr.of (S := fun _ => False) hb) (fun h => h), h.kp.2⟩
theorem Rm.own (h : Rm K w W V s ls n D) {k x : Nat} (hk : k < 4) (hx : (V k).ownBlock = some x) : w.heap.size + 2 ≤ x ∧ x < W.heap.size := (h.row k hk).lt x hx
/-- A cell of the reader that is no row's is written. -/
theorem Rm.field (h : Rm K w W V s ls n D) (i : Nat) (v : Value) (s' : Rd) (hp : ∀ k, k < 4 → rN s'.p k = rN s.p k ∧ rX s'.p k = rX s.p k)
    (hc : [V 0, V 1, V 2, V 3, Value.int .i64 s.p.obs, .bool s.p.timed, .map (some w.heap.size), .bool s.sorted, .bool s.seen].set i v = [V 0, V 1, V 2, V 3, Value.int .i64 s'.p.obs, .bool s'.p.timed, .map (some w.heap.size), .bool s'.sorted, .bool s'.seen]) (hi : i < 9) :
    Rm K w (W.setCell ⟨w.heap.size + 1, i, none⟩ v) V s' ls n D := by
  refine ⟨h.bel.setCell (by simp) _, ?_, h.ix.setCell (by simp) _, fun k hk => ?_, h.ap, by have := h.lt; simp; omega, kp_fr h.kp.1 (Fr.setCell (S := (· = w.heap.size + 1)) (Fr.refl _ _) (p := ⟨w.heap.size + 1, i, none⟩) rfl v) (fun e => by have := h.kp.2.1; omega), h.kp.2⟩
  · rw [← hc]
    exact h.cs.set i v (by simpa using hi)
  · rw [(hp k hk).1, (hp k hk).2]
    exact own_frS (h.row k hk) (Fr.setCell (S := (· = w.heap.size + 1)) (Fr.refl _ _) (p := ⟨w.heap.size + 1, i, none⟩) rfl v) (fun x hx hs => by have := (h.own hk hx).1; omega)
/-- A row has grown. -/
theorem Rm.push {W2 : World} {a g cap : Nat} {news : List Value} {o : Obj} (h : Rm K w W V s ls n D) (ha : a < 4) (hg : (W.alloc o).grownBy W2 (V a).ownBlock)
    (ho : W2.ownsRow (w.heap.size + 2) (rE a) (rS a) (.slice (some ⟨g, 0, none⟩) (rN s.p a + 1) cap) (rN s.p a + 1) (rX s.p a ++ news)) (hat : (V a).ownBlock = some g ∨ g = W.heap.size + 1) (s' : Rd)
    (h1 : rN s'.p a = rN s.p a + 1) (h2 : rX s'.p a = rX s.p a ++ news) (hp : ∀ k, k < 4 → k ≠ a → rN s'.p k = rN s.p k ∧ rX s'.p k = rX s.p k) (hf : s'.p.obs = s.p.obs ∧ s'.p.timed = s.p.timed ∧ s'.sorted = s.sorted ∧ s'.seen = s.seen) :
    Rm K w (W2.setCell ⟨w.heap.size + 1, a, none⟩ (.slice (some ⟨g, 0, none⟩) (rN s.p a + 1) cap)) (fun k => if k = a then .slice (some ⟨g, 0, none⟩) (rN s.p a + 1) cap else V k) s' ls n D := by
  have hs2 := hg.size
  have hlt := h.lt
  have hsa : (W.alloc o).heap.size = W.heap.size + 1 := by simp
  have hown : ∀ x, (V a).ownBlock = some x → w.heap.size + 2 ≤ x := fun x hx => (h.own ha hx).1
  have hba : Below W.heap.size W (W.alloc o) := (Below.refl _ _).alloc (Nat.le_refl _) _
  have h1' := h.next hba
  have hfw : Fr (· = w.heap.size + 1) W2 (W2.setCell ⟨w.heap.size + 1, a, none⟩ (.slice (some ⟨g, 0, none⟩) (rN s.p a + 1) cap)) := Fr.setCell (S := (· = w.heap.size + 1)) (Fr.refl _ _) (p := ⟨w.heap.size + 1, a, none⟩) rfl _
  have hne : ∀ k, k < 4 → k ≠ a → (V k).ownBlock = none ∨ (V k).ownBlock ≠ some g := fun k hk hka => by
    rcases hat with hat | hat
    · rw [← hat]; exact h.ap k a hk ha hka
    · refine .inr fun e => ?_
      have := (h.own hk e).2
      omega
  refine ⟨(h1'.bel.grown hg (by omega) (fun q hq => by have := hown q hq; omega)).setCell (by simp) _, ?_, ?_, fun k hk => ?_, fun j k hj hk hjk => ?_, by simp; omega, kp_fr (kp_fr h1'.kp.1 (Fr.grew hg) (h.kp.2.2 a ha)) hfw (fun e => by have := h.kp.2.1; omega), h.kp.2.1, fun k hk => ?_⟩
  · have hc := (cs_grown h1'.cs hg (fun e => by have := hown _ e; omega)).set a (.slice (some ⟨g, 0, none⟩) (rN s.p a + 1) cap) (by simp; omega)
    rw [hf.1, hf.2.1, hf.2.2.1, hf.2.2.2]
    match a, ha with
    | 0, _ => exact hc
    | 1, _ => exact hc
    | 2, _ => exact hc
    | 3, _ => exact hc
  · exact (h1'.ix.kept hg (fun e => by have := hown _ e.symm; omega)).setCell (by simp) _
  · by_cases e : k = a
    · subst e
      simp only [if_pos]
      rw [h1, h2]
      exact own_frS ho hfw (fun x hx hs => by have := (ho.lt x hx).1; omega)
    · simp only [if_neg e]
      rw [(hp k hk e).1, (hp k hk e).2]
      refine own_frS (own_frS (h1'.row k hk) (Fr.grew hg) (fun x hx hs => ?_)) hfw (fun x hx hs => by have := (h.own hk hx).1; omega)
      rcases h.ap k a hk ha e with h3 | h3
      · rw [h3] at hx; cases hx
      · exact h3 (by rw [hx, hs])
  · by_cases e1 : j = a
    · by_cases e2 : k = a
      · omega
      · simp only [if_pos e1, if_neg e2]
        refine .inr fun e => ?_
        rcases hne k hk e2 with h3 | h3
        · rw [h3] at e; simp [Value.ownBlock] at e
        · exact h3 e.symm
    · by_cases e2 : k = a
      · simp only [if_neg e1, if_pos e2]
        exact hne j hj e1
      · simp only [if_neg e1, if_neg e2]
        exact h.ap j k hj hk hjk
  · have hkl := (Array.getElem?_eq_some_iff.1 h.kp.1).1
    by_cases e : k = a
    · simp only [if_pos e]
      intro e2
      injection e2 with e2
      have e3 : g = K.1 := e2
      rcases hat with hat | hat
      · exact h.kp.2.2 a ha (by rw [hat, e3])
      · omega
    · simp only [if_neg e]
      exact h.kp.2.2 k hk
end

set_option maxRecDepth 100000 in
set_option maxHeartbeats 2000000 in
theorem level_b {K : Nat × Obj} (w W : World) (V : Nat → Value) (s : Rd) (ls : List ByteArray) (n : Nat) (D : DataW Unit) (x : ByteArray) (hx : x.size ≤ maxLen) (i c : Int) (H : Hid ((if findS ls x < 0 then ((0 : Int), (7 : Int)) else (findS ls x, 0)) = (i, c))) (h : Rm K w W V s ls n D) :
    Calls Tryd.prog 86 #[.pointer (some ⟨w.heap.size + 1, 0, none⟩), .string x] W fun e W' => e = .returned (.tuple #[.int .i64 i, .int .i64 c]) ∧ W = W' := by
  have HR := Lib.hid h
  have c6 := h.cs.at 6 _ rfl
  have hkey : keyOf Tryd.prog 9 (.string x) = some (.string x.data.toList) := Go.WideMaps.keyOf_string_mk tString hx
  have HKEY := Lib.hid hkey
  have HHAS := Lib.hid (h.ix.has x)
  clear hkey h
  by_cases hf : findS ls x < 0
  · have hb : amongB ls x = false := by rw [amongB_find, decide_eq_false_iff_not]; omega
    have HB := Lib.hid hb
    have hk := H.out
    rw [if_pos hf] at hk
    injection hk with e1 e2
    subst e1
    subst e2
    clear H hf hb
    go_enter Tryd.func86, Tryd.ntmps86
    go_wp2_with (first | (at_lookup; refine wpList_lookup_own_ok_int _ rfl _ _ 75 rfl 9 3 .i64 lawS tMapI tInt (zInt _) w.heap.size n D rfl HR.out.ix.1 _ _ rfl HKEY.out ?_; intro c _ _; rw [HHAS.out, HB.out]) | fail)
    go_returns
    exact ⟨rfl, rfl⟩
  · have hb : amongB ls x = true := by rw [amongB_find, decide_eq_true_iff]; omega
    have HB := Lib.hid hb
    have hk := H.out
    rw [if_neg hf] at hk
    injection hk with e1 e2
    have HAT := Lib.hid (HR.out.ix.2 x (.lit (.int .i64 0)))
    have HF : Hid (0 ≤ findS ls x) := Lib.hid (by omega)
    have HE := Lib.hid e1
    subst e2
    clear H hf hb e1
    go_enter Tryd.func86, Tryd.ntmps86
    go_wp2_with (first | (at_lookup; refine wpList_lookup_own_ok_int _ rfl _ _ 75 rfl 9 3 .i64 lawS tMapI tInt (zInt _) w.heap.size n D rfl HR.out.ix.1 _ _ rfl HKEY.out ?_; intro c hc _; rw [HHAS.out, HB.out]; have HCC : Hid (c = i) := Lib.hid (by rw [HAT.out, if_pos HF.out] at hc; injection hc with hc; injection hc with _ hc; rw [← hc]; exact HE.out); clear hc) | fail)
    go_returns
    rw [HCC.out]
    exact ⟨rfl, rfl⟩
end Go.Proofs.YtnipigninbeplaaDoor
