/-
  Texts of cost models: slices.Insert of one number.
-/
import Derived.Test.YthlhicegchkjjaaGreatDoorCtF
import Derived.Test.YthlhicegchkjjaaGreatDoorShelfI
import Derived.Test.YthlhicegchkjjaaGreatDoorFlFr
import Derived.Lib.LazyBuf
import Derived.Shelf.Spec.SlicesInsert
import Derived.Shelf.Spec.SlicesInsertGrow
namespace Go.Proofs.YthlhicegchkjjaaGreatDoor
open Go.RowKit

def kV (ks : List Nat) (j : Nat) : Value := .int .i64 ((ks.getD j 0 : Nat) : Int)
def kL (ks : List Nat) : List Value := ks.map fun k => Value.int .i64 ((k : Nat) : Int)
theorem kL_at {ks : List Nat} {j : Nat} (h : j < ks.length) : (kL ks)[j]? = some (kV ks j) := by
  unfold kL kV
  rw [List.getElem?_map, List.getD_eq_getElem?_getD, List.getElem?_eq_getElem h]
  rfl
theorem kL_one {ks : List Nat} : ∀ v ∈ kL ks, v.oneCell' = true := by
  intro v hv
  obtain ⟨k, _, rfl⟩ := List.mem_map.1 hv
  rfl
/-- Numbers at the head of a row of one's own. -/
structure Os (W : World) (b n c : Nat) (ks : List Nat) : Prop where
  row : ∃ f, W.rowIs b 3 c f ∧ ∀ j, j < n → f j = kV ks j
  len : ks.length = n
  nc : n ≤ c
  cm : c ≤ maxLen
theorem ins_get (ks : List Nat) (p i j : Nat) (hp : p ≤ ks.length) : (insAt ks p i).getD j 0 = if j < p then ks.getD j 0 else if j = p then i else ks.getD (j - 1) 0 := by
  unfold insAt
  simp only [List.getD_eq_getElem?_getD]
  by_cases h1 : j < p
  · rw [if_pos h1, List.getElem?_append_left (by rw [List.length_take]; omega), List.getElem?_take, if_pos h1]
  · rw [if_neg h1, List.getElem?_append_right (by rw [List.length_take]; omega), List.length_take, Nat.min_eq_left hp]
    by_cases h2 : j = p
    · subst h2
      rw [if_pos rfl, Nat.sub_self]
      rfl
    · rw [if_neg h2, show j - p = (j - 1 - p) + 1 by omega, List.getElem?_cons_succ, List.getElem?_drop, show p + (j - 1 - p) = j - 1 by omega]
theorem ins_len (ks : List Nat) (p i : Nat) : (insAt ks p i).length = ks.length + 1 := (insAt_perm ks p i).length_eq
theorem fr_cells {S : Nat → Prop} {b : Nat} (hb : S b) : ∀ (vs : List Value) (o : Nat) {a w : World}, Fr S a w → Fr S a (w.setCells b o vs)
  | [], _, _, _, h => h
  | v :: r, o, _, _, h => fr_cells hb r (o + 1) (h.setCell (p := ⟨b, o, none⟩) hb v)
theorem fr_new {S : Nat → Prop} {b : Nat} : ∀ (vs : List Value) (o : Nat) {a w : World}, a.heap.size ≤ b → Fr S a w → Fr S a (w.setCells b o vs)
  | [], _, _, _, _, h => h
  | v :: r, o, a, w, hb, h => fr_new r (o + 1) hb ⟨h.os, h.tape, h.output, by simpa [World.setCell] using h.size, fun k hk hs => (Below.heap_setCell _ _ _ _ (fun e => by have : k = b := e; omega)).trans (h.block k hk hs)⟩
theorem row_any (w : World) (A : Array Value) (t : TypeId) : (w.alloc (.cells A t)).rowIs w.heap.size t A.size (fun j => A[j]?.getD default) :=
  World.rowIs_alloc w A t _ fun i hi => by rw [Array.getElem?_eq_getElem hi]; rfl
theorem row_shape {w : World} {b n : Nat} {t : TypeId} {f : Nat → Value} (h : w.rowIs b t n f) : w.shape? b = some (t, n) := by
  obtain ⟨c, hb, hn, _⟩ := h
  simp [World.shape?, hb, hn]
set_option maxHeartbeats 2000000 in
theorem insert_b (W : World) (b n c vb p i : Nat) (ks : List Nat) (h : Os W b n c ks) (hp : p ≤ n) (hn : n ≤ 100) (hv : W.rowIs vb 3 1 (fun _ => .int .i64 (i : Int))) (hne : vb ≠ b) :
    Calls Tryz.prog 11 #[.slice (some ⟨b, 0, none⟩) n c, .int .i64 (p : Int), .slice (some ⟨vb, 0, none⟩) 1 1] W fun e W' => ∃ b' c', e = .returned (.slice (some ⟨b', 0, none⟩) (n + 1) c') ∧ Os W' b' (n + 1) c' (insAt ks p i) ∧ (b' = b ∨ W.heap.size ≤ b') ∧ Fr (· = b) W W' := by
  obtain ⟨f, hr, hf⟩ := h.row
  have hl := h.len
  have hnc := h.nc
  have hcm := h.cm
  have hm63 : c ≤ 9223372036854775807 := by unfold maxLen at hcm; omega
  have hcs : ∀ j v, (kL ks)[j]? = some v → W.cell? ⟨b, 0 + j, none⟩ = some v := fun j v hj => by
    have hjn : j < n := by have := (List.getElem?_eq_some_iff.1 hj).1; unfold kL at this; rw [List.length_map] at this; omega
    rw [kL_at (by omega)] at hj
    rw [Nat.zero_add, hr.cell (by omega), hf j hjn, ← Option.some.inj hj]
  have hvs : ∀ j v, ([.int .i64 (i : Int)] : List Value)[j]? = some v → W.cell? ⟨vb, 0 + j, none⟩ = some v := fun j v hj => by
    have hj1 := (List.getElem?_eq_some_iff.1 hj).1
    have : j = 0 := by simpa using hj1
    subst this
    rw [hv.cell (by omega)]
    exact hj
  have h1v : ∀ v ∈ ([.int .i64 (i : Int)] : List Value), v.oneCell' = true := fun v hm => by
    rw [List.mem_singleton] at hm
    subst hm
    rfl
  have hkl : (kL ks).length = n := by unfold kL; rw [List.length_map, hl]
  have fin : ∀ (W' : World) (b' c' : Nat) (g : Nat → Value), W'.rowIs b' 3 c' g → n + 1 ≤ c' → c' ≤ maxLen → (∀ j, j < n + 1 → g j = if j < p then kV ks j else if j = p then .int .i64 (i : Int) else kV ks (j - 1)) → Os W' b' (n + 1) c' (insAt ks p i) := fun W' b' c' g hg h1 h2 h3 => by
    refine ⟨⟨g, hg, fun j hj => ?_⟩, by rw [ins_len, hl], h1, h2⟩
    rw [h3 j hj]
    unfold kV
    rw [ins_get ks p i j (by omega)]
    split
    · rfl
    · split
      · rfl
      · rfl
  by_cases hpn : p = n
  · subst hpn
    by_cases hroom : p + 1 ≤ c
    · refine (Any2.slices_Insert_int_end_room Tryz.lays2_21 b 0 p c vb 0 1 1 [.int .i64 (i : Int)] W (by omega) hroom hm63 rfl (fun j hj => ?_) (fun j _ => hr.frozen _) hvs h1v).mono fun e W' ⟨he, hw⟩ => ?_
      · rw [hr.cell (by omega)]
        rfl
      · refine ⟨b, c, he, fin W' b c _ (hw ▸ rowIs_setCells _ _ _ _ hr) hroom hcm (fun j hj => ?_), .inl rfl, hw ▸ fr_cells (S := (· = b)) (b := b) rfl _ _ (Fr.refl _ _)⟩
        by_cases h1 : j < p
        · rw [if_neg (by simp; omega), if_pos h1, hf j h1]
        · have : j = p := by omega
          subst this
          rw [if_pos (by simp), if_neg (by omega), if_pos rfl, Nat.zero_add, Nat.sub_self]
          rfl
    · refine (Any2.slices_Insert_int_end_grow Tryz.lays2_21 (some ⟨b, 0, none⟩) p c vb 0 1 1 (kL ks) [.int .i64 (i : Int)] W (by omega) hnc (by omega) (by omega) hkl rfl (fun e => by cases e) (fun a ha j v hj => ?_) hvs h1v).mono fun e W' ⟨he, hw⟩ => ?_
      · cases ha
        have := hcs j v hj
        unfold Addr.add
        split
        · next h0 => rw [h0] at this; exact this
        · exact this
      · have hge := grownCap_ge W (p + 1) c 3
        have hle := grownCap_le_maxLen W (p + 1) c 3 (by unfold maxLen; omega)
        obtain ⟨gc, hgc⟩ : ∃ gc, grownCap W (p + 1) c 3 = gc := ⟨_, rfl⟩
        have hgc' : grownCap W (p + 1) c (Tryz.lays2_21_ren.t 3) = gc := hgc
        rw [hgc] at hge hle
        rw [hgc'] at he hw
        have hz1 : (Value.int IntKind.i64 0).cells.size = 1 := rfl
        have hsz : ((kL ks ++ [Value.int .i64 (i : Int)]).toArray ++ Builtin.zeroCells (Value.int .i64 0).cells (gc - (p + 1))).size = gc := by
          simp only [Array.size_append, List.size_toArray, size_zeroCells, hz1, List.length_append, hkl, List.length_singleton]
          omega
        have hrow := row_any W.drew ((kL ks ++ [Value.int .i64 (i : Int)]).toArray ++ Builtin.zeroCells (Value.int .i64 0).cells (gc - (p + 1))) 3
        rw [hsz] at hrow
        refine ⟨W.heap.size, gc, he, fin W' W.heap.size gc _ (hw ▸ hrow) hge hle (fun j hj => ?_), .inr (Nat.le_refl _), ?_⟩
        · rw [Array.getElem?_append_left (by simp only [List.size_toArray, List.length_append, hkl, List.length_singleton]; omega), List.getElem?_toArray]
          by_cases h1 : j < p
          · rw [if_pos h1, List.getElem?_append_left (by omega), kL_at (by omega)]
            rfl
          · have : j = p := by omega
            subst this
            rw [if_neg (by omega), if_pos rfl, List.getElem?_append_right (by omega), hkl, Nat.sub_self]
            rfl
        · rw [hw]
          exact (Fr.refl _ _).drew.alloc _
  · have hpl : p < n := by omega
    by_cases hroom : n + 1 ≤ c
    · refine (Any2.slices_Insert_int_shift Tryz.lays2_21 b 0 n c p vb 0 1 1 (kL ks) [.int .i64 (i : Int)] W hpl (by omega) hroom hm63 hne hkl rfl hcs (fun j hj => ?_) (fun j _ => hr.frozen _) hvs kL_one h1v 3 3 1 c (row_shape hv) (row_shape hr) (by omega) (hv.frozen _) (hv.frozen _)).mono fun e W' ⟨he, hw⟩ => ?_
      · rw [hr.cell (by omega)]
        rfl
      · have hrow := rowIs_setCells [.int .i64 (i : Int)] (0 + p) _ _ (rowIs_setCells ((kL ks).drop p) (0 + (p + 1)) _ _ hr.drew)
        rw [← hw] at hrow
        refine ⟨b, c, he, fin W' b c _ hrow hroom hcm (fun j hj => ?_), .inl rfl, hw ▸ fr_cells (S := (· = b)) (b := b) rfl _ _ (fr_cells (S := (· = b)) (b := b) rfl _ _ (Fr.refl _ _).drew)⟩
        by_cases h1 : j < p
        · rw [if_neg (by simp; omega), if_neg (by simp; omega), if_pos h1, hf j (by omega)]
        · rw [if_neg h1]
          by_cases h2 : j = p
          · subst h2
            rw [if_pos (by simp), if_pos rfl, Nat.zero_add, Nat.sub_self]
            rfl
          · rw [if_neg (by simp; omega), if_pos (by rw [List.length_drop, hkl]; omega), if_neg h2, List.getElem?_drop, Nat.zero_add, show p + (j - (p + 1)) = j - 1 by omega, kL_at (by omega)]
            rfl
    · refine (Any2.slices_Insert_int_grow Tryz.lays2_21 b 0 n c p vb 0 1 1 (kL ks) [.int .i64 (i : Int)] W hpl (by omega) hnc (by omega) (by omega) hkl rfl hcs hvs kL_one h1v).mono fun e W' ⟨he, hw⟩ => ?_
      have hge := grownCap_ge W (n + 1) c 3
      have hle := grownCap_le_maxLen W (n + 1) c 3 (by unfold maxLen; omega)
      obtain ⟨gc, hgc⟩ : ∃ gc, grownCap W (n + 1) c 3 = gc := ⟨_, rfl⟩
      have hgc' : grownCap W (n + 1) c (Tryz.lays2_21_ren.t 3) = gc := hgc
      rw [hgc] at hge hle
      rw [hgc'] at he hw
      have hz1 : (Value.int IntKind.i64 0).cells.size = 1 := rfl
      have htl : ((kL ks).take p).length = p := by rw [List.length_take, hkl]; omega
      have hsz : (((kL ks).take p).toArray ++ Builtin.zeroCells (Value.int .i64 0).cells (n + 1 - p) ++ Builtin.zeroCells (Value.int .i64 0).cells (gc - (n + 1))).size = gc := by
        simp only [Array.size_append, List.size_toArray, size_zeroCells, hz1, htl]
        omega
      have hrow := row_any W (((kL ks).take p).toArray ++ Builtin.zeroCells (Value.int .i64 0).cells (n + 1 - p) ++ Builtin.zeroCells (Value.int .i64 0).cells (gc - (n + 1))) 3
      rw [hsz] at hrow
      have hrow2 := rowIs_setCells ((kL ks).drop p) (p + 1) _ _ (rowIs_setCells [.int .i64 (i : Int)] p _ _ hrow.drew).drew
      have hw2 : W' = ((((W.alloc (.cells (((kL ks).take p).toArray ++ Builtin.zeroCells (Value.int .i64 0).cells (n + 1 - p) ++ Builtin.zeroCells (Value.int .i64 0).cells (gc - (n + 1))) 3))).drew.setCells W.heap.size p [.int .i64 (i : Int)]).drew).setCells W.heap.size (p + 1) ((kL ks).drop p) := hw
      rw [← hw2] at hrow2
      refine ⟨W.heap.size, gc, he, fin W' W.heap.size gc _ hrow2 hge hle (fun j hj => ?_), .inr (Nat.le_refl _), ?_⟩
      · by_cases h1 : j < p
        · rw [if_neg (by omega), if_neg (by omega), if_pos h1, Array.getElem?_append_left (by simp only [Array.size_append, List.size_toArray, htl]; omega), Array.getElem?_append_left (by simp only [List.size_toArray, htl]; exact h1), List.getElem?_toArray, List.getElem?_take, if_pos h1, kL_at (by omega)]
          rfl
        · rw [if_neg h1]
          by_cases h2 : j = p
          · subst h2
            rw [if_neg (by omega), if_pos (by simp), if_pos rfl, Nat.sub_self]
            rfl
          · rw [if_pos (by rw [List.length_drop, hkl]; omega), if_neg h2, List.getElem?_drop, show p + (j - (p + 1)) = j - 1 by omega, kL_at (by omega)]
            rfl
      · rw [hw2]
        exact fr_new _ _ (Nat.le_refl _) (fr_new _ _ (Nat.le_refl _) ((Fr.refl _ _).alloc _).drew).drew
end Go.Proofs.YthlhicegchkjjaaGreatDoor
