/-
  The rows of the reader as a policy in memory; what stands between two lines; strings.Split at a line feed.
  The walk over the program's Parse.
-/
import Derived.Test.YtnipigninbeplaaDoorPH
import Derived.Test.YtnipigninbeplaaDoorPoX
namespace Go.Proofs.YtnipigninbeplaaDoor
open Go.RowKit Go.Maps

theorem ovals_at : ∀ (xs : List (Int × Int)) (j : Nat) (h : j < xs.length), (ovals xs)[j * 2]? = some (.int .i64 xs[j].1) ∧ (ovals xs)[j * 2 + 1]? = some (.int .i64 xs[j].2)
  | x :: xs, 0, _ => ⟨rfl, rfl⟩
  | x :: xs, j + 1, h => by
    have ih := ovals_at xs j (by simpa using h)
    have e : ovals (x :: xs) = .int .i64 x.1 :: .int .i64 x.2 :: ovals xs := rfl
    rw [e, show (j + 1) * 2 = j * 2 + 2 by omega, show j * 2 + 2 + 1 = j * 2 + 1 + 2 by omega]
    simpa using ih
theorem lbvals_at : ∀ (xs : List Lb) (j : Nat) (h : j < xs.length), (lbvals xs)[j * 2]? = some (.string xs[j].name) ∧ (lbvals xs)[j * 2 + 1]? = some (.int .i64 xs[j].lev)
  | x :: xs, 0, _ => ⟨rfl, rfl⟩
  | x :: xs, j + 1, h => by
    have ih := lbvals_at xs j (by simpa using h)
    have e : lbvals (x :: xs) = .string x.name :: .int .i64 x.lev :: lbvals xs := rfl
    rw [e, show (j + 1) * 2 = j * 2 + 2 by omega, show j * 2 + 2 + 1 = j * 2 + 1 + 2 by omega]
    simpa using ih
theorem ovals_len (xs : List (Int × Int)) : (ovals xs).length = xs.length * 2 := by
  induction xs with
  | nil => rfl
  | cons x xs ih =>
    have e : ovals (x :: xs) = .int .i64 x.1 :: .int .i64 x.2 :: ovals xs := rfl
    rw [e, List.length_cons, List.length_cons, ih, List.length_cons]
    omega
theorem lbvals_len (xs : List Lb) : (lbvals xs).length = xs.length * 2 := by
  induction xs with
  | nil => rfl
  | cons x xs ih =>
    have e : lbvals (x :: xs) = .string x.name :: .int .i64 x.lev :: lbvals xs := rfl
    rw [e, List.length_cons, List.length_cons, ih, List.length_cons]
    omega
theorem own_ook {W : World} {B l c : Nat} {A : Option Addr} {xs : List (Int × Int)} (h : W.ownsRow B 42 2 (.slice A l c) l (ovals xs)) : OOk W A l c xs := by
  have hl : xs.length = l := by have := h.1; rw [ovals_len] at this; omega
  rcases h.2 with ⟨hv, hn⟩ | ⟨g, cap, cur, hv, _, hg, hnc, hcm, _, _⟩
  · simp only [Value.slice.injEq] at hv
    obtain ⟨rfl, rfl, rfl⟩ := hv
    exact ⟨hl, Nat.le_refl _, Nat.zero_le _, fun h0 => absurd h0 (by omega)⟩
  · simp only [Value.slice.injEq] at hv
    obtain ⟨rfl, _, rfl⟩ := hv
    refine ⟨hl, hnc, hcm, fun _ => ⟨g, 0, rfl, (Array.getElem?_eq_some_iff.1 hg).1, fun j hj => ?_⟩⟩
    obtain ⟨h1, h2⟩ := ovals_at xs j hj
    rw [show 0 + j * 2 + 1 = 0 + (j * 2 + 1) by omega, h.cellAt (0 + j * 2) (by omega), h.cellAt (0 + (j * 2 + 1)) (by omega), Nat.zero_add, Nat.zero_add]
    exact ⟨h1, h2⟩
theorem own_lbok {W : World} {B l c : Nat} {A : Option Addr} {xs : List Lb} (h : W.ownsRow B 71 2 (.slice A l c) l (lbvals xs)) (hx : ∀ x ∈ xs, x.name.size ≤ maxLen) : LbOk W A l c xs := by
  have hl : xs.length = l := by have := h.1; rw [lbvals_len] at this; omega
  rcases h.2 with ⟨hv, hn⟩ | ⟨g, cap, cur, hv, _, hg, hnc, hcm, _, _⟩
  · simp only [Value.slice.injEq] at hv
    obtain ⟨rfl, rfl, rfl⟩ := hv
    exact ⟨hl, Nat.le_refl _, Nat.zero_le _, hx, fun h0 => absurd h0 (by omega)⟩
  · simp only [Value.slice.injEq] at hv
    obtain ⟨rfl, _, rfl⟩ := hv
    refine ⟨hl, hnc, hcm, hx, fun _ => ⟨g, 0, rfl, (Array.getElem?_eq_some_iff.1 hg).1, fun j hj => ?_⟩⟩
    obtain ⟨h1, h2⟩ := lbvals_at xs j hj
    rw [show 0 + j * 2 + 1 = 0 + (j * 2 + 1) by omega, h.cellAt (0 + j * 2) (by omega), h.cellAt (0 + (j * 2 + 1)) (by omega), Nat.zero_add, Nat.zero_add]
    exact ⟨h1, h2⟩
theorem own_shape {W : World} {B z n : Nat} {E : TypeId} {V : Value} {xs : List Value} (h : W.ownsRow B E z V n xs) : ∃ A c, V = .slice A n c := by
  rcases h.2 with ⟨hv, hn⟩ | ⟨g, cap, cur, hv, _⟩
  · exact ⟨none, 0, by rw [hv, hn]⟩
  · exact ⟨_, _, hv⟩
/-- What has been read, as a policy in memory. -/
theorem Rm.py {K : Nat × Obj} {w W : World} {V : Nat → Value} {s : Rd} {ls : List ByteArray} {n : Nat} {D : DataW Unit} (h : Rm K w W V s ls n D) (hz : Szs 8192 s) :
    ∃ (An : Option Addr) (cn : Nat) (Ao : Option Addr) (co : Nat) (Ai : Option Addr) (ci : Nat) (Ah : Option Addr) (ch : Nat), (V 0 = .slice An s.p.levels.length cn ∧ V 1 = .slice Ao s.p.order.length co ∧ V 2 = .slice Ai s.p.inputs.length ci ∧ V 3 = .slice Ah s.p.hatches.length ch) ∧
      PyOk W An s.p.levels.length cn Ao s.p.order.length co Ai s.p.inputs.length ci Ah s.p.hatches.length ch s.p := by
  have h0 := h.row 0 (by omega)
  have h1 := h.row 1 (by omega)
  have h2 := h.row 2 (by omega)
  have h3 := h.row 3 (by omega)
  obtain ⟨A0, c0, e0⟩ := own_shape h0
  obtain ⟨A1, c1, e1⟩ := own_shape h1
  obtain ⟨A2, c2, e2⟩ := own_shape h2
  obtain ⟨A3, c3, e3⟩ := own_shape h3
  rw [e0] at h0
  rw [e1] at h1
  rw [e2] at h2
  rw [e3] at h3
  have hm : (8192 : Nat) ≤ maxLen := by unfold maxLen; omega
  exact ⟨A0, c0, A1, c1, A2, c2, A3, c3, ⟨e0, e1, e2, e3⟩, own_nok h0 (fun x hx => Nat.le_trans (hz.l x hx) hm), own_ook h1, own_lbok h2 (fun x hx => Nat.le_trans (hz.i x hx) hm), own_lbok h3 (fun x hx => Nat.le_trans (hz.h x hx) hm)⟩
theorem nil_row (W : World) (B z : Nat) (E : TypeId) : W.ownsRow B E z (.slice none 0 0) 0 [] := ⟨by simp, .inl ⟨rfl, rfl⟩⟩
def readerZ (b : Nat) : Obj := .cells #[.slice none 0 0, .slice none 0 0, .slice none 0 0, .slice none 0 0, .int .i64 0, .bool false, .map (some b), .bool false, .bool false] 77
def piecesZ (ps : List ByteArray) : Obj := .cells (ps.map Value.string).toArray 9
/-- The reader as it is made, and the lines behind it. -/
theorem rm_zero (W : World) (ps : List ByteArray) : Rm (W.heap.size + 2, piecesZ ps) W (((W.alloc (.map #[] 0)).alloc (readerZ W.heap.size)).alloc (piecesZ ps)) (fun _ => .slice none 0 0) Rd.zero [] 0 (.map []) := by
  have e1 : (W.alloc (.map #[] 0)).heap.size = W.heap.size + 1 := by simp
  have e2 : ((W.alloc (.map #[] 0)).alloc (readerZ W.heap.size)).heap.size = W.heap.size + 2 := by simp
  refine ⟨(((Below.refl _ _).alloc (Nat.le_refl _) _).alloc (by omega) _).alloc (by omega) _, ?_, ((IxIn.made W).alloc _).alloc _, fun k hk => ?_, fun j k _ _ _ => .inl rfl, by simp, ?_, Nat.le_refl _, fun k _ h => by cases h⟩
  · have h := (Cs.new (W.alloc (.map #[] 0)) #[.slice none 0 0, .slice none 0 0, .slice none 0 0, .slice none 0 0, .int .i64 0, .bool false, .map (some W.heap.size), .bool false, .bool false] 77).alloc (piecesZ ps)
    rw [e1] at h
    exact h
  · match k, hk with
    | 0, _ => exact nil_row _ _ _ _
    | 1, _ => exact nil_row _ _ _ _
    | 2, _ => exact nil_row _ _ _ _
    | 3, _ => exact nil_row _ _ _ _
  · have h := heap_new ((W.alloc (.map #[] 0)).alloc (readerZ W.heap.size)) (piecesZ ps)
    rw [e2] at h
    exact h
/-- The pieces between line feeds. -/
theorem pieces_lin (x : ByteArray) : (Lib.splitB ⟨#[10]⟩ 0 (Lib.countB x ⟨#[10]⟩) x).map (·.data.toList) = linS x.data.toList := by
  rw [Lib.splitB_data]
  exact splitK_lin _
theorem split_b (x : ByteArray) (hx : x.size ≤ 8192) (m : Int) (W : World) (hm : W.cell? ⟨0, 0, none⟩ = some (.int .i64 m)) (ps : List ByteArray) (HP : Hid (Lib.splitB ⟨#[10]⟩ 0 (Lib.countB x ⟨#[10]⟩) x = ps)) (g : Nat) (hg : W.heap.size = g) :
    Calls Tryd.prog 32 #[.string x, .string ⟨#[10]⟩] W fun e W' => e = .returned (.slice (some ⟨g, 0, none⟩) ps.length ps.length) ∧ W' = W.alloc (piecesZ ps) := by
  refine (Tryd.strings_Split x ⟨#[10]⟩ m W (by omega) hm (by decide)).mono fun e W' ⟨he, hw⟩ => ?_
  have hl := Lib.splitB_all ⟨#[10]⟩ (by decide) 0 _ x rfl
  rw [HP.out] at hl hw
  subst hg
  rw [he, hl]
  exact ⟨rfl, hw⟩
/-- What holds between two lines. -/
structure Li (ls : List (List UInt8)) (R : (Int × Int) × Rd) (i : Nat) (s : Rd) (n : Nat) : Prop where
  rd : rdLines i s (ls.drop i) = R
  n : n + linZ (ls.drop i) ≤ 8193
  o : s.p.order.length + linZ (ls.drop i) ≤ 8193
  ni : s.p.inputs.length + linZ (ls.drop i) ≤ 8193
  nh : s.p.hatches.length + linZ (ls.drop i) ≤ 8193
  v : s.sorted = false → s.p.levels = []
  z : Szs 8192 s
theorem Li.zero {t : List UInt8} (h : t.length ≤ 8192) : Li (linS t) (rdLines 0 Rd.zero (linS t)) 0 Rd.zero 0 := by
  have hz := linZ_lin t
  have e : (linS t).drop 0 = linS t := rfl
  refine ⟨rfl, ?_, ?_, ?_, ?_, fun _ => rfl, ⟨fun _ h => (by cases h), fun _ h => (by cases h), fun _ h => (by cases h)⟩⟩
  all_goals
    rw [e, hz]
    simp [Rd.zero]
    omega
section
variable {ls : List (List UInt8)} {R : (Int × Int) × Rd} {i : Nat} {s : Rd} {n : Nat} {l : List UInt8}
theorem Li.len (h : Li ls R i s n) (hl : ls[i]? = some l) : l.length ≤ 8192 := by
  have h1 := linZ_drop ls i l hl
  have := h.n
  omega
theorem Li.next (h : Li ls R i s n) (hl : ls[i]? = some l) {s' : Rd} (h0 : rdLine s l = (0, s')) {n' : Nat} (hn : n' ≤ n + l.length) : Li ls R (i + 1) s' n' := by
  have h1 := linZ_drop ls i l hl
  have hg := rdLine_grw s l
  have hz := rdLine_szs l h.z (h.len hl)
  have hr := h.rd
  rw [rdLines_one _ _ _ _ _ hl, h0, if_neg (by simp)] at hr
  rw [h0] at hg hz
  have a1 := h.n
  have a2 := h.o
  have a3 := h.ni
  have a4 := h.nh
  have b2 := hg.o
  have b3 := hg.i
  have b4 := hg.h
  simp only at b2 b3 b4
  exact ⟨hr, by omega, by omega, by omega, by omega, hg.v h.v, hz⟩
theorem Li.bad (h : Li ls R i s n) (hl : ls[i]? = some l) {c : Int} {s' : Rd} (h0 : rdLine s l = (c, s')) (hc : c ≠ 0) : R = (((i : Int) + 1, c), s) := by
  have hr := h.rd
  rw [rdLines_one _ _ _ _ _ hl, h0, if_pos hc] at hr
  exact hr.symm
theorem Li.done (h : Li ls R i s n) (hi : ls.length ≤ i) : R = ((0, 0), s) := by
  have hr := h.rd
  rw [List.drop_eq_nil_iff.2 hi] at hr
  exact hr.symm
end
/-- The six cells of a policy, written one after another. -/
theorem six_cells {W : World} {b : Nat} {a0 a1 a2 a3 a4 a5 : Value} (h : Cs W b [a0, a1, a2, a3, a4, a5]) (v0 v1 v2 v3 v4 v5 : Value) :
    (W.setCell ⟨b, 0, none⟩ v0).cell? ⟨b, 0, none⟩ = some v0 ∧ ((W.setCell ⟨b, 0, none⟩ v0).setCell ⟨b, 1, none⟩ v1).cell? ⟨b, 1, none⟩ = some v1 ∧ (((W.setCell ⟨b, 0, none⟩ v0).setCell ⟨b, 1, none⟩ v1).setCell ⟨b, 2, none⟩ v2).cell? ⟨b, 2, none⟩ = some v2 ∧
    ((((W.setCell ⟨b, 0, none⟩ v0).setCell ⟨b, 1, none⟩ v1).setCell ⟨b, 2, none⟩ v2).setCell ⟨b, 3, none⟩ v3).cell? ⟨b, 3, none⟩ = some v3 ∧
    (((((W.setCell ⟨b, 0, none⟩ v0).setCell ⟨b, 1, none⟩ v1).setCell ⟨b, 2, none⟩ v2).setCell ⟨b, 3, none⟩ v3).setCell ⟨b, 4, none⟩ v4).cell? ⟨b, 4, none⟩ = some v4 ∧
    ((((((W.setCell ⟨b, 0, none⟩ v0).setCell ⟨b, 1, none⟩ v1).setCell ⟨b, 2, none⟩ v2).setCell ⟨b, 3, none⟩ v3).setCell ⟨b, 4, none⟩ v4).setCell ⟨b, 5, none⟩ v5).cell? ⟨b, 5, none⟩ = some v5 := by
  have h1 := h.set 0 v0 (by simp)
  have h2 := h1.set 1 v1 (by simp)
  have h3 := h2.set 2 v2 (by simp)
  have h4 := h3.set 3 v3 (by simp)
  have h5 := h4.set 4 v4 (by simp)
  have h6 := h5.set 5 v5 (by simp)
  exact ⟨h1.at 0 _ rfl, h2.at 1 _ rfl, h3.at 2 _ rfl, h4.at 3 _ rfl, h5.at 4 _ rfl, h6.at 5 _ rfl⟩
/-- The world behind them. -/
def sixW (W : World) (b : Nat) (v0 v1 v2 v3 v4 v5 : Value) : World := (((((W.setCell ⟨b, 0, none⟩ v0).setCell ⟨b, 1, none⟩ v1).setCell ⟨b, 2, none⟩ v2).setCell ⟨b, 3, none⟩ v3).setCell ⟨b, 4, none⟩ v4).setCell ⟨b, 5, none⟩ v5
theorem six_fr {W W' : World} {b : Nat} (h : Fr (· = b) W W') (v0 v1 v2 v3 v4 v5 : Value) : Fr (· = b) W (sixW W' b v0 v1 v2 v3 v4 v5) := by
  unfold sixW
  exact (((((h.setCell (p := ⟨b, 0, none⟩) rfl _).setCell (p := ⟨b, 1, none⟩) rfl _).setCell (p := ⟨b, 2, none⟩) rfl _).setCell (p := ⟨b, 3, none⟩) rfl _).setCell (p := ⟨b, 4, none⟩) rfl _).setCell (p := ⟨b, 5, none⟩) rfl _

/-- What Parse hands back. -/
def ParRes (w : World) (r : (Int × Int) × Py) (e : Ending) (w' : World) : Prop :=
  Below w.heap.size w w' ∧ ∃ (An : Option Addr) (ln cn : Nat) (Ao : Option Addr) (lo co : Nat) (Ai : Option Addr) (li ci : Nat) (Ah : Option Addr) (lh ch : Nat),
    e = .returned (.tuple #[.agg (pyV An ln cn Ao lo co Ai li ci Ah lh ch r.2.obs r.2.timed), .int .i64 r.1.1, .int .i64 r.1.2]) ∧ PyOk w' An ln cn Ao lo co Ai li ci Ah lh ch r.2
theorem PyOk.zero (w : World) : PyOk w none 0 0 none 0 0 none 0 0 none 0 0 Py.zero :=
  ⟨⟨rfl, Nat.le_refl _, Nat.zero_le _, fun _ h => (by cases h), fun h => absurd h (by omega)⟩, ⟨rfl, Nat.le_refl _, Nat.zero_le _, fun h => absurd h (by omega)⟩, ⟨rfl, Nat.le_refl _, Nat.zero_le _, fun _ h => (by cases h), fun h => absurd h (by omega)⟩, ⟨rfl, Nat.le_refl _, Nat.zero_le _, fun _ h => (by cases h), fun h => absurd h (by omega)⟩⟩
theorem ParRes.bad {w W : World} (hb : Below w.heap.size w W) (n c : Int) : ParRes w ((n, c), Py.zero) (.returned (.tuple #[.agg #[.slice none 0 0, .slice none 0 0, .slice none 0 0, .slice none 0 0, .int .i64 0, .bool false], .int .i64 n, .int .i64 c])) W :=
  ⟨hb, none, 0, 0, none, 0, 0, none, 0, 0, none, 0, 0, rfl, PyOk.zero W⟩
theorem below_six {w W : World} {b : Nat} (hb : Below w.heap.size w W) (hw : w.heap.size ≤ b) (v0 v1 v2 v3 v4 v5 : Value) : Below w.heap.size w ((((((W.setCell ⟨b, 0, none⟩ v0).setCell ⟨b, 1, none⟩ v1).setCell ⟨b, 2, none⟩ v2).setCell ⟨b, 3, none⟩ v3).setCell ⟨b, 4, none⟩ v4).setCell ⟨b, 5, none⟩ v5) :=
  (((((hb.setCell hw _).setCell hw _).setCell hw _).setCell hw _).setCell hw _).setCell hw _
theorem PyOk.fr {S : Nat → Prop} {w w' : World} {An : Option Addr} {ln cn : Nat} {Ao : Option Addr} {lo co : Nat} {Ai : Option Addr} {li ci : Nat} {Ah : Option Addr} {lh ch : Nat} {p : Py} (h : PyOk w An ln cn Ao lo co Ai li ci Ah lh ch p) (hf : Fr S w w')
    (hs : ∀ a : Addr, (An = some a ∨ Ao = some a ∨ Ai = some a ∨ Ah = some a) → ¬ S a.block) : PyOk w' An ln cn Ao lo co Ai li ci Ah lh ch p := by
  refine ⟨⟨h.n.len, h.n.cap, h.n.big, h.n.nm, fun h0 => ?_⟩, ⟨h.o.len, h.o.cap, h.o.big, fun h0 => ?_⟩, ⟨h.i.len, h.i.cap, h.i.big, h.i.nm, fun h0 => ?_⟩, ⟨h.h.len, h.h.cap, h.h.big, h.h.nm, fun h0 => ?_⟩⟩
  · obtain ⟨g, f, e, h2, h3⟩ := h.n.mem h0
    exact ⟨g, f, e, Nat.lt_of_lt_of_le h2 hf.size, fun j hj => (hf.cell (p := ⟨g, f + j, none⟩) h2 (hs ⟨g, f, none⟩ (.inl e))).trans (h3 j hj)⟩
  · obtain ⟨g, f, e, h2, h3⟩ := h.o.mem h0
    exact ⟨g, f, e, Nat.lt_of_lt_of_le h2 hf.size, fun j hj => ⟨(hf.cell (p := ⟨g, f + j * 2, none⟩) h2 (hs ⟨g, f, none⟩ (.inr (.inl e)))).trans (h3 j hj).1, (hf.cell (p := ⟨g, f + j * 2 + 1, none⟩) h2 (hs ⟨g, f, none⟩ (.inr (.inl e)))).trans (h3 j hj).2⟩⟩
  · obtain ⟨g, f, e, h2, h3⟩ := h.i.mem h0
    exact ⟨g, f, e, Nat.lt_of_lt_of_le h2 hf.size, fun j hj => ⟨(hf.cell (p := ⟨g, f + j * 2, none⟩) h2 (hs ⟨g, f, none⟩ (.inr (.inr (.inl e))))).trans (h3 j hj).1, (hf.cell (p := ⟨g, f + j * 2 + 1, none⟩) h2 (hs ⟨g, f, none⟩ (.inr (.inr (.inl e))))).trans (h3 j hj).2⟩⟩
  · obtain ⟨g, f, e, h2, h3⟩ := h.h.mem h0
    exact ⟨g, f, e, Nat.lt_of_lt_of_le h2 hf.size, fun j hj => ⟨(hf.cell (p := ⟨g, f + j * 2, none⟩) h2 (hs ⟨g, f, none⟩ (.inr (.inr (.inr e))))).trans (h3 j hj).1, (hf.cell (p := ⟨g, f + j * 2 + 1, none⟩) h2 (hs ⟨g, f, none⟩ (.inr (.inr (.inr e))))).trans (h3 j hj).2⟩⟩

set_option maxRecDepth 100000 in
set_option maxHeartbeats 8000000 in
theorem parse_b (x : ByteArray) (hx : x.size ≤ maxLen) (r : (Int × Int) × Py) (H : Hid (parC x.data.toList = r)) (m : Int) (w : World) (hm : w.cell? ⟨0, 0, none⟩ = some (.int .i64 m)) :
    Calls Tryd.prog 14 #[.string x] w fun e w' => ParRes w r e w' := by
  have hx9 : x.size ≤ 9223372036854775807 := by unfold maxLen at hx; omega
  have HM : Hid (∀ W, Below w.heap.size w W → W.cell? ⟨0, 0, none⟩ = some (.int .i64 m)) := Lib.hid (fun W hb => (hb.cell (p := ⟨0, 0, none⟩) (World.block_lt_of_cell? _ _ hm)).trans hm)
  have HC0 := Lib.hid (Cs.new w #[.slice none 0 0, .slice none 0 0, .slice none 0 0, .slice none 0 0, .int .i64 0, .bool false] 26)
  have HB0 := Lib.hid ((Below.refl w.heap.size w).alloc (Nat.le_refl _) (.cells #[.slice none 0 0, .slice none 0 0, .slice none 0 0, .slice none 0 0, .int .i64 0, .bool false] 26))
  have HP0 : Hid (w.heap.size + 1 = (w.alloc (.cells #[.slice none 0 0, .slice none 0 0, .slice none 0 0, .slice none 0 0, .int .i64 0, .bool false] 26)).heap.size) := Lib.hid (by simp)
  clear hm hx
  go_enter Tryd.func14, Tryd.ntmps14
  go_upto_region 1 with fail
  obtain ⟨W0, hW0⟩ : ∃ z, w.alloc (.cells #[.slice none 0 0, .slice none 0 0, .slice none 0 0, .slice none 0 0, .int .i64 0, .bool false] 26) = z := ⟨_, rfl⟩
  obtain ⟨p0, hp0⟩ : ∃ z, w.heap.size = z := ⟨_, rfl⟩
  have HB1 : Hid (Below w.heap.size w W0) := hW0 ▸ HB0
  have HC1 : Hid (Cs W0 p0 [.slice none 0 0, .slice none 0 0, .slice none 0 0, .slice none 0 0, .int .i64 0, .bool false]) := hW0 ▸ hp0 ▸ HC0
  have HP1 : Hid (w.heap.size + 1 = W0.heap.size) := hW0 ▸ HP0
  rw [hW0, hp0]
  have HPP := Lib.hid hp0
  clear hW0 HB0 HC0 HP0 hp0
  have hp0l : p0 < W0.heap.size := HC1.out.lt
  by_cases hbig : 8192 < x.size
  · have hbi : (8192 : Int) < (x.size : Int) := by omega
    have hr : r = ((0, 5), Py.zero) := by
      rw [← H.out]
      unfold parC
      rw [if_pos (by rw [← bsize_len]; exact hbig)]
    have HRR := Lib.hid hr
    have c0 := HC1.out.at 0 _ rfl
    have c1 := HC1.out.at 1 _ rfl
    have c2 := HC1.out.at 2 _ rfl
    have c3 := HC1.out.at 3 _ rfl
    have c4 := HC1.out.at 4 _ rfl
    have c5 := HC1.out.at 5 _ rfl
    have f0 := HC1.out.free 0
    have f1 := HC1.out.free 1
    have f2 := HC1.out.free 2
    have f3 := HC1.out.free 3
    have f4 := HC1.out.free 4
    have f5 := HC1.out.free 5
    clear hr H hbig
    go_wp2_with fail
    obtain ⟨k0, k1, k2, k3, k4, k5⟩ := six_cells HC1.out (.slice none 0 0) (.slice none 0 0) (.slice none 0 0) (.slice none 0 0) (.int .i64 0) (.bool false)
    refine bodyPost_ret (v := .tuple #[.agg #[.slice none 0 0, .slice none 0 0, .slice none 0 0, .slice none 0 0, .int .i64 0, .bool false], .int .i64 0, .int .i64 5]) (by simp [results, Tryd.results14, go_sem, k0, k1, k2, k3, k4, k5]) rfl ?_
    rw [HRR.out]
    exact ParRes.bad (below_six HB1.out (by rw [HPP.out]; exact Nat.le_refl _) _ _ _ _ _ _) _ _
  have hbi : ¬ (8192 : Int) < (x.size : Int) := by omega
  have hx8 : x.size ≤ 8192 := by omega
  obtain ⟨ps, hps⟩ : ∃ ps, Lib.splitB ⟨#[10]⟩ 0 (Lib.countB x ⟨#[10]⟩) x = ps := ⟨_, rfl⟩
  have HPS := Lib.hid hps
  obtain ⟨R, hR⟩ : ∃ R, rdLines 0 Rd.zero (linS x.data.toList) = R := ⟨_, rfl⟩
  have HLS : Hid (ps.map (·.data.toList) = linS x.data.toList) := Lib.hid (by rw [← hps]; exact pieces_lin x)
  have HR0 : Hid (lineC R = r) := Lib.hid (by
    rw [← H.out]
    unfold parC
    rw [if_neg (by rw [← bsize_len]; omega), hR])
  have HLI : Hid (Li (ps.map (·.data.toList)) R 0 Rd.zero 0) := Lib.hid (by
    rw [HLS.out, ← hR]
    exact Li.zero (by rw [← bsize_len]; omega))
  have hkl : ps.length ≤ 8193 := by
    have h1 := linZ_len (linS x.data.toList)
    rw [linZ_lin, ← bsize_len, ← HLS.out, List.length_map] at h1
    omega
  have HZ := Lib.hid (rm_zero W0 ps)
  have HBW : Hid (∀ o1 o2, Below w.heap.size w ((W0.alloc o1).alloc o2)) := Lib.hid (fun o1 o2 => (HB1.out.alloc HB1.out.size _).alloc (by have := HB1.out.size; simp; omega) _)
  have HBF : Hid (∀ W, Below W0.heap.size W0 W → Below w.heap.size w W) := Lib.hid (fun W hb => HB1.out.trans (hb.mono HB1.out.size))
  obtain ⟨k, hk⟩ : ∃ k, ps.length = k := ⟨_, rfl⟩
  have HKK := Lib.hid hk
  rw [hk] at hkl
  have hmm := @run_makeMap Tryd.prog
  clear H hps hR hk hbig HLS
  go_wp2_with (first | (go_at_call 32; refine (split_b x hx8 m _ (HM.out _ (HBW.out _ _)) ps HPS (W0.heap.size + 2) (by simp)).mono ?_; rintro e w3 ⟨rfl, hw3⟩; have HR3 : Hid (Rm (W0.heap.size + 2, piecesZ ps) W0 w3 (fun _ => .slice none 0 0) Rd.zero Rd.zero.p.levels 0 (.map [])) := Lib.hid (hw3 ▸ HZ.out); clear hw3 HZ; rw [HKK.out]) | fail)
  go_loopw [20] (fun v wr => ∃ (i : Nat) (V : Nat → Value) (s : Rd) (n : Nat) (D : DataW Unit), i ≤ k ∧ v = .int .i64 i ∧ Hid (Rm (W0.heap.size + 2, piecesZ ps) W0 wr V s s.p.levels n D) ∧ Hid (Li (ps.map (·.data.toList)) R i s n)) (fun v _ => k - (intOf v).toNat)
  case atStart => exact ⟨0, _, _, _, _, Nat.zero_le _, rfl, HR3, HLI⟩
  case round =>
    clear HR3 HLI hmm
    obtain ⟨i, V, s, n, D, hi, rfl, HS, HL⟩ := hrel
    have HBR := Lib.hid (HBF.out _ HS.out.bel)
    have HCR := Lib.hid (HC1.out.fr (S := fun _ => False) (Fr.refl _ _) (fun h => h))
    have HCW : Hid (Cs wr p0 [.slice none 0 0, .slice none 0 0, .slice none 0 0, .slice none 0 0, .int .i64 0, .bool false]) := Lib.hid (HC1.out.next HS.out.bel)
    clear HCR
    by_cases hit : i < k
    · have hit' : (i : Int) < (k : Int) := by omega
      have hi0 : (0 : Int) ≤ (i : Int) := by omega
      obtain ⟨li, hli⟩ : ∃ li, ps[i]? = some li := ⟨_, List.getElem?_eq_getElem (by rw [HKK.out]; exact hit)⟩
      have HLL : Hid ((ps.map (·.data.toList))[i]? = some li.data.toList) := Lib.hid (by rw [List.getElem?_map, hli]; rfl)
      have k0 : wr.cell? ⟨W0.heap.size + 2, i, none⟩ = some (.string li) := by
        have h : Bk wr (W0.heap.size + 2) (ps.map Value.string).toArray 9 := HS.out.kp.1
        exact h.at i _ (by simp [hli])
      have hll : li.size ≤ 8192 := by have := HL.out.len HLL.out; rw [← bsize_len] at this; exact this
      obtain ⟨⟨c, s'⟩, hcs⟩ : ∃ y, rdLine s li.data.toList = y := ⟨_, rfl⟩
      have HCS := Lib.hid hcs
      have HNN : Hid (n ≤ 10000) := Lib.hid (by have := HL.out.n; omega)
      have HCN : Hid (s.p.order.length ≤ 20000 ∧ s.p.inputs.length ≤ 20000 ∧ s.p.hatches.length ≤ 20000) := Lib.hid (by have := HL.out.o; have := HL.out.ni; have := HL.out.nh; omega)
      clear hli hcs
      by_cases hc : c = 0
      · subst hc
        go_wp2_with (first | (go_at_call 33; refine (line_b W0 wr V s n D li hll (0, s') HCS HS.out HNN.out HCN.out HL.out.v).mono ?_; rintro e w7 ⟨he, _, hok⟩; subst he; have HOK := Lib.hid (hok rfl); clear hok) | fail)
        obtain ⟨V', n', D', hn', hRm⟩ := HOK.out
        have HS' := Lib.hid hRm
        have HL' : Hid (Li (ps.map (·.data.toList)) R (i + 1) s' n') := Lib.hid (HL.out.next HLL.out HCS.out (by rw [← bsize_len]; exact hn'))
        clear hn' hRm HOK
        go_roundw
        case rel => exact ⟨i + 1, V', s', n', D', by omega, by go_num, HS', HL'⟩
        case measure => simp [intOf]; omega
      · have hr : r = (((i : Int) + 1, c), Py.zero) := by
          rw [← HR0.out, HL.out.bad HLL.out HCS.out hc]
          unfold lineC
          rw [if_pos hc]
        have HRR := Lib.hid hr
        clear hr HR0
        go_upto_region 9 with (first | (go_at_call 33; refine (line_b W0 wr V s n D li hll (c, s') HCS HS.out HNN.out HCN.out HL.out.v).mono ?_; rintro e w7 ⟨he, hb7, _⟩; subst he; have HB7 := Lib.hid (HBF.out _ hb7); have HC7 := Lib.hid (HC1.out.next hb7); clear hb7) | fail)
        have c0 := HC7.out.at 0 _ rfl
        have c1 := HC7.out.at 1 _ rfl
        have c2 := HC7.out.at 2 _ rfl
        have c3 := HC7.out.at 3 _ rfl
        have c4 := HC7.out.at 4 _ rfl
        have c5 := HC7.out.at 5 _ rfl
        have f0 := HC7.out.free 0
        have f1 := HC7.out.free 1
        have f2 := HC7.out.free 2
        have f3 := HC7.out.free 3
        have f4 := HC7.out.free 4
        have f5 := HC7.out.free 5
        have hp7 : p0 < w7.heap.size := HC7.out.lt
        go_wp2_with fail
        obtain ⟨k0, k1, k2, k3, k4, k5⟩ := six_cells HC7.out (.slice none 0 0) (.slice none 0 0) (.slice none 0 0) (.slice none 0 0) (.int .i64 0) (.bool false)
        refine bodyPost_ret (v := .tuple #[.agg #[.slice none 0 0, .slice none 0 0, .slice none 0 0, .slice none 0 0, .int .i64 0, .bool false], .int .i64 ((i : Int) + 1), .int .i64 c]) (by simp [results, Tryd.results14, go_sem, k0, k1, k2, k3, k4, k5]) rfl ?_
        rw [HRR.out]
        exact ParRes.bad (below_six HB7.out (by rw [HPP.out]; exact Nat.le_refl _) _ _ _ _ _ _) _ _
    · have hge : ¬ ((i : Int) < (k : Int)) := by omega
      obtain rfl : k = i := by omega
      have HE : Hid (endC s = r) := Lib.hid (by rw [← HR0.out, HL.out.done (by rw [List.length_map, HKK.out]; exact Nat.le_refl _)]; rfl)
      have c7 := HS.out.cs.at 7 _ rfl
      have c8 := HS.out.cs.at 8 _ rfl
      obtain ⟨so, hso⟩ : ∃ z, s.sorted = z := ⟨_, rfl⟩
      obtain ⟨sn, hsn⟩ : ∃ z, s.seen = z := ⟨_, rfl⟩
      rw [hso] at c7
      rw [hsn] at c8
      have HSO := Lib.hid hso
      have HSN := Lib.hid hsn
      clear hso hsn hit HR0
      cases so with
      | false =>
        have hr : r = ((0, 11), Py.zero) := by rw [← HE.out]; unfold endC; rw [if_pos (.inl HSO.out)]
        have HRR := Lib.hid hr
        clear hr HE c8
        have c0 := HCW.out.at 0 _ rfl
        have c1 := HCW.out.at 1 _ rfl
        have c2 := HCW.out.at 2 _ rfl
        have c3 := HCW.out.at 3 _ rfl
        have c4 := HCW.out.at 4 _ rfl
        have c5 := HCW.out.at 5 _ rfl
        have f0 := HCW.out.free 0
        have f1 := HCW.out.free 1
        have f2 := HCW.out.free 2
        have f3 := HCW.out.free 3
        have f4 := HCW.out.free 4
        have f5 := HCW.out.free 5
        have hpl := HCW.out.lt
        go_wp2_with fail
        obtain ⟨k0, k1, k2, k3, k4, k5⟩ := six_cells HCW.out (.slice none 0 0) (.slice none 0 0) (.slice none 0 0) (.slice none 0 0) (.int .i64 0) (.bool false)
        refine bodyPost_ret (v := .tuple #[.agg #[.slice none 0 0, .slice none 0 0, .slice none 0 0, .slice none 0 0, .int .i64 0, .bool false], .int .i64 0, .int .i64 11]) (by simp [results, Tryd.results14, go_sem, k0, k1, k2, k3, k4, k5]) rfl ?_
        rw [HRR.out]
        exact ParRes.bad (below_six HBR.out (by rw [HPP.out]; exact Nat.le_refl _) _ _ _ _ _ _) _ _
      | true =>
        cases sn with
        | false =>
          have hr : r = ((0, 11), Py.zero) := by rw [← HE.out]; unfold endC; rw [if_pos (.inr HSN.out)]
          have HRR := Lib.hid hr
          clear hr HE
          have c0 := HCW.out.at 0 _ rfl
          have c1 := HCW.out.at 1 _ rfl
          have c2 := HCW.out.at 2 _ rfl
          have c3 := HCW.out.at 3 _ rfl
          have c4 := HCW.out.at 4 _ rfl
          have c5 := HCW.out.at 5 _ rfl
          have f0 := HCW.out.free 0
          have f1 := HCW.out.free 1
          have f2 := HCW.out.free 2
          have f3 := HCW.out.free 3
          have f4 := HCW.out.free 4
          have f5 := HCW.out.free 5
          have hpl := HCW.out.lt
          go_wp2_with fail
          obtain ⟨k0, k1, k2, k3, k4, k5⟩ := six_cells HCW.out (.slice none 0 0) (.slice none 0 0) (.slice none 0 0) (.slice none 0 0) (.int .i64 0) (.bool false)
          refine bodyPost_ret (v := .tuple #[.agg #[.slice none 0 0, .slice none 0 0, .slice none 0 0, .slice none 0 0, .int .i64 0, .bool false], .int .i64 0, .int .i64 11]) (by simp [results, Tryd.results14, go_sem, k0, k1, k2, k3, k4, k5]) rfl ?_
          rw [HRR.out]
          exact ParRes.bad (below_six HBR.out (by rw [HPP.out]; exact Nat.le_refl _) _ _ _ _ _ _) _ _
        | true =>
          obtain ⟨q, hq⟩ : ∃ z, polC s.p = z := ⟨_, rfl⟩
          have HQ := Lib.hid hq
          have HE2 : Hid ((if q ≠ 0 then (((0 : Int), q), Py.zero) else ((0, 0), s.p)) = r) := Lib.hid (by
            rw [← HE.out, ← hq]
            unfold endC
            rw [if_neg (show ¬ (s.sorted = false ∨ s.seen = false) by rw [HSO.out, HSN.out]; decide)])
          obtain ⟨An, cn, Ao, co, Ai, ci, Ah, ch, ⟨e0, e1, e2, e3⟩, hpy⟩ := HS.out.py HL.out.z
          have HPY := Lib.hid hpy
          have d0 := HS.out.cs.at 0 _ rfl
          have d1 := HS.out.cs.at 1 _ rfl
          have d2 := HS.out.cs.at 2 _ rfl
          have d3 := HS.out.cs.at 3 _ rfl
          have d4 := HS.out.cs.at 4 _ rfl
          have d5 := HS.out.cs.at 5 _ rfl
          rw [e0] at d0
          rw [e1] at d1
          rw [e2] at d2
          rw [e3] at d3
          have HVV := Lib.hid (And.intro e0 (And.intro e1 (And.intro e2 e3)))
          clear hq HE e0 e1 e2 e3 hpy
          by_cases hq0 : q = 0
          · subst hq0
            have hr : r = ((0, 0), s.p) := HE2.out.symm
            have HRR := Lib.hid hr
            clear hr HE2
            go_upto_region 14 with (first | (go_at_call 10; refine (check_b s.p An s.p.levels.length cn Ao s.p.order.length co Ai s.p.inputs.length ci Ah s.p.hatches.length ch 0 HQ wr HPY.out).mono ?_; rintro e w7 ⟨rfl, hb7⟩; have HS7 := Lib.hid (HS.out.next hb7); have HP7 := Lib.hid (HPY.out.below hb7); have HC7 := Lib.hid (HCW.out.next hb7); have HB7 := Lib.hid (HBF.out _ HS7.out.bel); clear hb7) | fail)
            clear d0 d1 d2 d3 d4 d5 c7 c8
            obtain ⟨e0, e1, e2, e3⟩ := HVV.out
            have d0 := HS7.out.cs.at 0 _ rfl
            have d1 := HS7.out.cs.at 1 _ rfl
            have d2 := HS7.out.cs.at 2 _ rfl
            have d3 := HS7.out.cs.at 3 _ rfl
            have d4 := HS7.out.cs.at 4 _ rfl
            have d5 := HS7.out.cs.at 5 _ rfl
            rw [e0] at d0
            rw [e1] at d1
            rw [e2] at d2
            rw [e3] at d3
            have c0 := HC7.out.at 0 _ rfl
            have c1 := HC7.out.at 1 _ rfl
            have c2 := HC7.out.at 2 _ rfl
            have c3 := HC7.out.at 3 _ rfl
            have c4 := HC7.out.at 4 _ rfl
            have c5 := HC7.out.at 5 _ rfl
            have f0 := HC7.out.free 0
            have f1 := HC7.out.free 1
            have f2 := HC7.out.free 2
            have f3 := HC7.out.free 3
            have f4 := HC7.out.free 4
            have f5 := HC7.out.free 5
            have hpl := HC7.out.lt
            have HOB : Hid (∀ a : Addr, (An = some a ∨ Ao = some a ∨ Ai = some a ∨ Ah = some a) → ¬ a.block = p0) := Lib.hid (fun a ha hb => by
              have h0 : ∀ j, j < 4 → (V j).ownBlock = some a.block → False := fun j hj h => by have := (HS7.out.own hj h).1; omega
              rcases ha with h | h | h | h
              · exact h0 0 (by omega) (by rw [e0, h]; rfl)
              · exact h0 1 (by omega) (by rw [e1, h]; rfl)
              · exact h0 2 (by omega) (by rw [e2, h]; rfl)
              · exact h0 3 (by omega) (by rw [e3, h]; rfl))
            clear e0 e1 e2 e3
            go_wp2_with fail
            obtain ⟨k0, k1, k2, k3, k4, k5⟩ := six_cells HC7.out (.slice An s.p.levels.length cn) (.slice Ao s.p.order.length co) (.slice Ai s.p.inputs.length ci) (.slice Ah s.p.hatches.length ch) (.int .i64 s.p.obs) (.bool s.p.timed)
            refine bodyPost_ret (v := .tuple #[.agg #[.slice An s.p.levels.length cn, .slice Ao s.p.order.length co, .slice Ai s.p.inputs.length ci, .slice Ah s.p.hatches.length ch, .int .i64 s.p.obs, .bool s.p.timed], .int .i64 0, .int .i64 0]) (by simp [results, Tryd.results14, go_sem, k0, k1, k2, k3, k4, k5]) rfl ?_
            rw [HRR.out]
            exact ⟨below_six HB7.out (by rw [HPP.out]; exact Nat.le_refl _) _ _ _ _ _ _, An, _, cn, Ao, _, co, Ai, _, ci, Ah, _, ch, rfl, HP7.out.fr (six_fr (Fr.refl _ _) _ _ _ _ _ _) HOB.out⟩
          · have hr : r = ((0, q), Py.zero) := by rw [← HE2.out, if_pos hq0]
            have HRR := Lib.hid hr
            clear hr HE2
            go_upto_region 15 with (first | (go_at_call 10; refine (check_b s.p An s.p.levels.length cn Ao s.p.order.length co Ai s.p.inputs.length ci Ah s.p.hatches.length ch q HQ wr HPY.out).mono ?_; rintro e w7 ⟨rfl, hb7⟩; have HC7 := Lib.hid (HCW.out.next hb7); have HB7 := Lib.hid (HBF.out _ (HS.out.next hb7).bel); clear hb7) | fail)
            clear d0 d1 d2 d3 d4 d5 c7 c8
            have c0 := HC7.out.at 0 _ rfl
            have c1 := HC7.out.at 1 _ rfl
            have c2 := HC7.out.at 2 _ rfl
            have c3 := HC7.out.at 3 _ rfl
            have c4 := HC7.out.at 4 _ rfl
            have c5 := HC7.out.at 5 _ rfl
            have f0 := HC7.out.free 0
            have f1 := HC7.out.free 1
            have f2 := HC7.out.free 2
            have f3 := HC7.out.free 3
            have f4 := HC7.out.free 4
            have f5 := HC7.out.free 5
            have hpl := HC7.out.lt
            go_wp2_with fail
            obtain ⟨k0, k1, k2, k3, k4, k5⟩ := six_cells HC7.out (.slice none 0 0) (.slice none 0 0) (.slice none 0 0) (.slice none 0 0) (.int .i64 0) (.bool false)
            refine bodyPost_ret (v := .tuple #[.agg #[.slice none 0 0, .slice none 0 0, .slice none 0 0, .slice none 0 0, .int .i64 0, .bool false], .int .i64 0, .int .i64 q]) (by simp [results, Tryd.results14, go_sem, k0, k1, k2, k3, k4, k5]) rfl ?_
            rw [HRR.out]
            exact ParRes.bad (below_six HB7.out (by rw [HPP.out]; exact Nat.le_refl _) _ _ _ _ _ _) _ _
end Go.Proofs.YtnipigninbeplaaDoor
