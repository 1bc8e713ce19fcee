/-
  Flat programs as trees, and what it means that they lie in memory; no program is in sight here.
-/
import Derived.WalkKit
import Derived.Lib.Hide
namespace Go.Proofs.YtjpjmoejdkmglaaGreat
open Go.RowKit

/-- A term. -/
inductive Tm where
  | mk (op n : Int) (kids : List Tm)
/-- A step. -/
inductive Sp where
  | mk (d cost v n : Int) (t : Tm) (th el : List Sp) (bs : List Int)
structure Vr where
  name : ByteArray
  kind : Int
  low : Int
  high : Int
  init : Int
structure Ht where
  name : ByteArray
  low : Int
  high : Int
  t : Tm
namespace Tm
def op : Tm → Int | mk o _ _ => o
def num : Tm → Int | mk _ n _ => n
def kids : Tm → List Tm | mk _ _ k => k
mutual
/-- The number of nodes. -/
def cnt : Tm → Nat
  | mk _ _ ks => 1 + cntL ks
def cntL : List Tm → Nat
  | [] => 0
  | k :: ks => cnt k + cntL ks
end
theorem cntL_app (a b : List Tm) : cntL (a ++ b) = cntL a + cntL b := by
  induction a with
  | nil => simp [cntL]
  | cons k a ih => simp only [List.cons_append, cntL, ih]; omega
theorem cntL_get (ks : List Tm) (i : Nat) (h : i < ks.length) : cnt ks[i] ≤ cntL ks := by
  induction ks generalizing i with
  | nil => simp at h
  | cons k ks ih =>
    cases i with
    | zero => simp [cntL]
    | succ i => simp only [List.getElem_cons_succ, cntL]; have := ih i (by simpa using h); omega
theorem cnt_kid (o n : Int) (ks : List Tm) (i : Nat) (h : i < ks.length) : cnt ks[i] < cnt (mk o n ks) := by
  have := cntL_get ks i h
  simp only [cnt]; omega
theorem cnt_pos (t : Tm) : 1 ≤ cnt t := by cases t; simp only [cnt]; omega
theorem len_cntL (ks : List Tm) : ks.length ≤ cntL ks := by
  induction ks with
  | nil => simp [cntL]
  | cons k ks ih => simp only [List.length_cons, cntL]; have := cnt_pos k; omega
end Tm
namespace Sp
def d : Sp → Int | mk d _ _ _ _ _ _ _ => d
def th : Sp → List Sp | mk _ _ _ _ _ t _ _ => t
def el : Sp → List Sp | mk _ _ _ _ _ _ e _ => e
mutual
/-- The number of steps and of nodes of their terms. -/
def cnt : Sp → Nat
  | mk _ _ _ _ t th el _ => 1 + Tm.cnt t + cntL th + cntL el
def cntL : List Sp → Nat
  | [] => 0
  | k :: ks => cnt k + cntL ks
end
theorem cntL_app (a b : List Sp) : cntL (a ++ b) = cntL a + cntL b := by
  induction a with
  | nil => simp [cntL]
  | cons k a ih => simp only [List.cons_append, cntL, ih]; omega
theorem cntL_get (ks : List Sp) (i : Nat) (h : i < ks.length) : cnt ks[i] ≤ cntL ks := by
  induction ks generalizing i with
  | nil => simp at h
  | cons k ks ih =>
    cases i with
    | zero => simp [cntL]
    | succ i => simp only [List.getElem_cons_succ, cntL]; have := ih i (by simpa using h); omega
theorem cnt_pos (t : Sp) : 1 ≤ cnt t := by cases t; simp only [cnt]; omega
theorem len_cntL (ks : List Sp) : ks.length ≤ cntL ks := by
  induction ks with
  | nil => simp [cntL]
  | cons k ks ih => simp only [List.length_cons, cntL]; have := cnt_pos k; omega
end Sp
theorem take_one {α : Type} (ks : List α) (i : Nat) (h : i < ks.length) : ks.take (i + 1) = ks.take i ++ [ks[i]] := List.take_succ_eq_append_getElem h

/-! ### In memory -/
/-- A list of integers. -/
structure Zs (W : World) (A : Option Addr) (l c : Nat) (zs : List Int) : Prop where
  len : zs.length = l
  cap : l ≤ c
  big : c ≤ maxLen
  mem : 0 < l → ∃ g f, A = some ⟨g, f, none⟩ ∧ g < W.heap.size ∧ ∀ j, j < l → W.cell? ⟨g, f + j, none⟩ = some (.int .i64 (zs.getD j 0))
theorem Zs.below {W W' : World} {A : Option Addr} {l c : Nat} {zs : List Int} (h : Zs W A l c zs) (hb : Below W.heap.size W W') : Zs W' A l c zs :=
  ⟨h.len, h.cap, h.big, fun h0 => by
    obtain ⟨g, f, h1, h2, h3⟩ := h.mem h0
    exact ⟨g, f, h1, Nat.lt_of_lt_of_le h2 hb.size, fun j hj => (hb.cell (p := ⟨g, _, none⟩) h2).trans (h3 j hj)⟩⟩
theorem Zs.nil (W : World) : Zs W none 0 0 [] := ⟨rfl, Nat.le_refl _, Nat.zero_le _, fun h => absurd h (by omega)⟩
mutual
/-- The terms lie in memory from element i of the array at A on. -/
def Td (w : World) : Option Addr → Nat → List Tm → Prop
  | _, _, [] => True
  | A, i, k :: ks => TdE w A i k ∧ Td w A (i + 1) ks
def TdE (w : World) : Option Addr → Nat → Tm → Prop
  | A, i, .mk o n ks => ∃ g f A' c, A = some ⟨g, f, none⟩ ∧ g < w.heap.size ∧ ks.length ≤ c ∧ c ≤ maxLen ∧
      w.cell? ⟨g, f + i * 3, none⟩ = some (.int .i64 o) ∧ w.cell? ⟨g, f + i * 3 + 1, none⟩ = some (.int .i64 n) ∧ w.cell? ⟨g, f + i * 3 + 2, none⟩ = some (.slice A' ks.length c) ∧ Td w A' 0 ks
end
mutual
theorem Td.below {w w' : World} (hb : Below w.heap.size w w') : ∀ (A : Option Addr) (i : Nat) (ks : List Tm), Td w A i ks → Td w' A i ks
  | _, _, [], _ => by simp [Td]
  | A, i, k :: ks, h => by
    simp only [Td] at h ⊢
    exact ⟨TdE.below hb A i k h.1, Td.below hb A (i + 1) ks h.2⟩
theorem TdE.below {w w' : World} (hb : Below w.heap.size w w') : ∀ (A : Option Addr) (i : Nat) (k : Tm), TdE w A i k → TdE w' A i k
  | A, i, .mk o n ks, h => by
    simp only [TdE] at h ⊢
    obtain ⟨g, f, A', c, h1, h2, h3, h4, c0, c1, c2, hk⟩ := h
    exact ⟨g, f, A', c, h1, Nat.lt_of_lt_of_le h2 hb.size, h3, h4, (hb.cell (p := ⟨g, _, none⟩) h2).trans c0, (hb.cell (p := ⟨g, _, none⟩) h2).trans c1, (hb.cell (p := ⟨g, _, none⟩) h2).trans c2, Td.below hb A' 0 ks hk⟩
end
theorem Td.get {w : World} {A : Option Addr} : ∀ (ks : List Tm) (i j : Nat) (h : j < ks.length), Td w A i ks → TdE w A (i + j) ks[j]
  | [], _, _, h, _ => by simp at h
  | k :: ks, i, 0, _, hk => by simp only [Td] at hk; exact hk.1
  | k :: ks, i, j + 1, h, hk => by
    simp only [Td] at hk
    have := Td.get ks (i + 1) j (by simpa using h) hk.2
    rw [show i + (j + 1) = i + 1 + j from by omega]
    exact this
/-- The kids of a term are in order. -/
def TOk (w : World) (A : Option Addr) (c : Nat) (ks : List Tm) : Prop := ks.length ≤ c ∧ c ≤ maxLen ∧ Td w A 0 ks
theorem TOk.below {w w' : World} {A : Option Addr} {c : Nat} {ks : List Tm} (h : TOk w A c ks) (hb : Below w.heap.size w w') : TOk w' A c ks := ⟨h.1, h.2.1, Td.below hb A 0 ks h.2.2⟩
theorem TOk.nil (w : World) : TOk w none 0 [] := ⟨Nat.le_refl _, Nat.zero_le _, by simp [Td]⟩
/-- A kid, where it lies. -/
theorem TOk.kid {w : World} {A : Option Addr} {c : Nat} {ks : List Tm} (h : TOk w A c ks) (j : Nat) (hj : j < ks.length) :
    ∃ (o n : Int) (ks' : List Tm) (g f : Nat) (A' : Option Addr) (c' : Nat), ks[j] = .mk o n ks' ∧ A = some ⟨g, f, none⟩ ∧ g < w.heap.size ∧ TOk w A' c' ks' ∧
      w.cell? ⟨g, f + j * 3, none⟩ = some (.int .i64 o) ∧ w.cell? ⟨g, f + j * 3 + 1, none⟩ = some (.int .i64 n) ∧ w.cell? ⟨g, f + j * 3 + 2, none⟩ = some (.slice A' ks'.length c') := by
  have hk := Td.get ks 0 j hj h.2.2
  rw [Nat.zero_add] at hk
  generalize ks[j] = k at hk
  obtain ⟨o, n, ks'⟩ := k
  simp only [TdE] at hk
  obtain ⟨g, f, A', c', h1, h2, h3, h4, c0, c1, c2, hk⟩ := hk
  exact ⟨o, n, ks', g, f, A', c', rfl, h1, h2, ⟨h3, h4, hk⟩, c0, c1, c2⟩
/-- The cells of a step. -/
structure SCell (w : World) (g f : Nat) (d k v n o tn : Int) (At : Option Addr) (lt ct : Nat) (Ah : Option Addr) (lh ch : Nat) (Ae : Option Addr) (le ce : Nat) (Ab : Option Addr) (lb cb : Nat) : Prop where
  c0 : w.cell? ⟨g, f, none⟩ = some (.int .i64 d)
  c1 : w.cell? ⟨g, f + 1, none⟩ = some (.int .i64 k)
  c2 : w.cell? ⟨g, f + 2, none⟩ = some (.int .i64 v)
  c3 : w.cell? ⟨g, f + 3, none⟩ = some (.int .i64 n)
  c4 : w.cell? ⟨g, f + 4, none⟩ = some (.int .i64 o)
  c5 : w.cell? ⟨g, f + 5, none⟩ = some (.int .i64 tn)
  c6 : w.cell? ⟨g, f + 6, none⟩ = some (.slice At lt ct)
  c7 : w.cell? ⟨g, f + 7, none⟩ = some (.slice Ah lh ch)
  c8 : w.cell? ⟨g, f + 8, none⟩ = some (.slice Ae le ce)
  c9 : w.cell? ⟨g, f + 9, none⟩ = some (.slice Ab lb cb)
theorem SCell.below {w w' : World} {g f : Nat} {d k v n o tn : Int} {At : Option Addr} {lt ct : Nat} {Ah : Option Addr} {lh ch : Nat} {Ae : Option Addr} {le ce : Nat} {Ab : Option Addr} {lb cb : Nat} (h : SCell w g f d k v n o tn At lt ct Ah lh ch Ae le ce Ab lb cb) (hg : g < w.heap.size) (hb : Below w.heap.size w w') : SCell w' g f d k v n o tn At lt ct Ah lh ch Ae le ce Ab lb cb :=
  ⟨(hb.cell (p := ⟨g, _, none⟩) hg).trans h.c0, (hb.cell (p := ⟨g, _, none⟩) hg).trans h.c1, (hb.cell (p := ⟨g, _, none⟩) hg).trans h.c2, (hb.cell (p := ⟨g, _, none⟩) hg).trans h.c3, (hb.cell (p := ⟨g, _, none⟩) hg).trans h.c4, (hb.cell (p := ⟨g, _, none⟩) hg).trans h.c5, (hb.cell (p := ⟨g, _, none⟩) hg).trans h.c6, (hb.cell (p := ⟨g, _, none⟩) hg).trans h.c7, (hb.cell (p := ⟨g, _, none⟩) hg).trans h.c8, (hb.cell (p := ⟨g, _, none⟩) hg).trans h.c9⟩
mutual
/-- The steps lie in memory from element i of the array at A on. -/
def Sd (w : World) : Option Addr → Nat → List Sp → Prop
  | _, _, [] => True
  | A, i, k :: ks => SdE w A i k ∧ Sd w A (i + 1) ks
def SdE (w : World) : Option Addr → Nat → Sp → Prop
  | A, i, .mk d k v n (.mk o tn tk) th el bs => ∃ g f At ct Ah ch Ae ce Ab cb, A = some ⟨g, f, none⟩ ∧ g < w.heap.size ∧
      SCell w g (f + i * 10) d k v n o tn At tk.length ct Ah th.length ch Ae el.length ce Ab bs.length cb ∧ TOk w At ct tk ∧ (th.length ≤ ch ∧ ch ≤ maxLen ∧ Sd w Ah 0 th) ∧ (el.length ≤ ce ∧ ce ≤ maxLen ∧ Sd w Ae 0 el) ∧ Zs w Ab bs.length cb bs
end
mutual
theorem Sd.below {w w' : World} (hb : Below w.heap.size w w') : ∀ (A : Option Addr) (i : Nat) (ks : List Sp), Sd w A i ks → Sd w' A i ks
  | _, _, [], _ => by simp [Sd]
  | A, i, k :: ks, h => by
    simp only [Sd] at h ⊢
    exact ⟨SdE.below hb A i k h.1, Sd.below hb A (i + 1) ks h.2⟩
theorem SdE.below {w w' : World} (hb : Below w.heap.size w w') : ∀ (A : Option Addr) (i : Nat) (k : Sp), SdE w A i k → SdE w' A i k
  | A, i, .mk d k v n (.mk o tn tk) th el bs, h => by
    simp only [SdE] at h ⊢
    obtain ⟨g, f, At, ct, Ah, ch, Ae, ce, Ab, cb, h1, h2, hc, ht, ⟨h3, h4, h5⟩, ⟨h6, h7, h8⟩, h9⟩ := h
    exact ⟨g, f, At, ct, Ah, ch, Ae, ce, Ab, cb, h1, Nat.lt_of_lt_of_le h2 hb.size, hc.below h2 hb, ht.below hb, ⟨h3, h4, Sd.below hb Ah 0 th h5⟩, ⟨h6, h7, Sd.below hb Ae 0 el h8⟩, h9.below hb⟩
end
theorem Sd.get {w : World} {A : Option Addr} : ∀ (ks : List Sp) (i j : Nat) (h : j < ks.length), Sd w A i ks → SdE w A (i + j) ks[j]
  | [], _, _, h, _ => by simp at h
  | k :: ks, i, 0, _, hk => by simp only [Sd] at hk; exact hk.1
  | k :: ks, i, j + 1, h, hk => by
    simp only [Sd] at hk
    have := Sd.get ks (i + 1) j (by simpa using h) hk.2
    rw [show i + (j + 1) = i + 1 + j from by omega]
    exact this
/-- The steps of a list are in order. -/
def SOk (w : World) (A : Option Addr) (c : Nat) (ks : List Sp) : Prop := ks.length ≤ c ∧ c ≤ maxLen ∧ Sd w A 0 ks
theorem SOk.below {w w' : World} {A : Option Addr} {c : Nat} {ks : List Sp} (h : SOk w A c ks) (hb : Below w.heap.size w w') : SOk w' A c ks := ⟨h.1, h.2.1, Sd.below hb A 0 ks h.2.2⟩
theorem SOk.nil (w : World) : SOk w none 0 [] := ⟨Nat.le_refl _, Nat.zero_le _, by simp [Sd]⟩
/-- A step, where it lies. -/
theorem SOk.step {w : World} {A : Option Addr} {c : Nat} {ks : List Sp} (h : SOk w A c ks) (j : Nat) (hj : j < ks.length) :
    ∃ (d k v n o tn : Int) (tk : List Tm) (th el : List Sp) (bs : List Int) (g f : Nat) (At : Option Addr) (ct : Nat) (Ah : Option Addr) (ch : Nat) (Ae : Option Addr) (ce : Nat) (Ab : Option Addr) (cb : Nat), ks[j] = .mk d k v n (.mk o tn tk) th el bs ∧ A = some ⟨g, f, none⟩ ∧ g < w.heap.size ∧
      SCell w g (f + j * 10) d k v n o tn At tk.length ct Ah th.length ch Ae el.length ce Ab bs.length cb ∧ TOk w At ct tk ∧ SOk w Ah ch th ∧ SOk w Ae ce el ∧ Zs w Ab bs.length cb bs := by
  have hk := Sd.get ks 0 j hj h.2.2
  rw [Nat.zero_add] at hk
  generalize ks[j] = k at hk
  obtain ⟨d, k, v, n, ⟨o, tn, tk⟩, th, el, bs⟩ := k
  simp only [SdE] at hk
  obtain ⟨g, f, At, ct, Ah, ch, Ae, ce, Ab, cb, h1, h2, hc, ht, h3, h4, h9⟩ := hk
  exact ⟨d, k, v, n, o, tn, tk, th, el, bs, g, f, At, ct, Ah, ch, Ae, ce, Ab, cb, rfl, h1, h2, hc, ht, h3, h4, h9⟩
/-- Variables in memory. -/
structure VOk (w : World) (A : Option Addr) (l c : Nat) (vs : List Vr) : Prop where
  len : vs.length = l
  cap : l ≤ c
  big : c ≤ maxLen
  nm : ∀ v ∈ vs, v.name.size ≤ maxLen
  mem : 0 < l → ∃ g f, A = some ⟨g, f, none⟩ ∧ g < w.heap.size ∧ ∀ j (h : j < vs.length), w.cell? ⟨g, f + j * 5, none⟩ = some (.string vs[j].name) ∧ w.cell? ⟨g, f + j * 5 + 1, none⟩ = some (.int .i64 vs[j].kind) ∧ w.cell? ⟨g, f + j * 5 + 2, none⟩ = some (.int .i64 vs[j].low) ∧ w.cell? ⟨g, f + j * 5 + 3, none⟩ = some (.int .i64 vs[j].high) ∧ w.cell? ⟨g, f + j * 5 + 4, none⟩ = some (.int .i64 vs[j].init)
theorem VOk.below {W W' : World} {A : Option Addr} {l c : Nat} {vs : List Vr} (h : VOk W A l c vs) (hb : Below W.heap.size W W') : VOk W' A l c vs :=
  ⟨h.len, h.cap, h.big, h.nm, fun h0 => by
    obtain ⟨g, f, h1, h2, h3⟩ := h.mem h0
    refine ⟨g, f, h1, Nat.lt_of_lt_of_le h2 hb.size, fun j hj => ?_⟩
    obtain ⟨a, b, c, d, e⟩ := h3 j hj
    exact ⟨(hb.cell (p := ⟨g, _, none⟩) h2).trans a, (hb.cell (p := ⟨g, _, none⟩) h2).trans b, (hb.cell (p := ⟨g, _, none⟩) h2).trans c, (hb.cell (p := ⟨g, _, none⟩) h2).trans d, (hb.cell (p := ⟨g, _, none⟩) h2).trans e⟩⟩
/-- A variable, where it lies. -/
theorem VOk.at {w : World} {A : Option Addr} {l c : Nat} {vs : List Vr} (h : VOk w A l c vs) (j : Nat) (hj : j < l) :
    ∃ (s : ByteArray) (kd lo hi ii : Int) (g f : Nat), vs[j]? = some ⟨s, kd, lo, hi, ii⟩ ∧ s.size ≤ maxLen ∧ A = some ⟨g, f, none⟩ ∧ g < w.heap.size ∧ w.cell? ⟨g, f + j * 5, none⟩ = some (.string s) ∧ w.cell? ⟨g, f + j * 5 + 1, none⟩ = some (.int .i64 kd) ∧ w.cell? ⟨g, f + j * 5 + 2, none⟩ = some (.int .i64 lo) ∧ w.cell? ⟨g, f + j * 5 + 3, none⟩ = some (.int .i64 hi) ∧ w.cell? ⟨g, f + j * 5 + 4, none⟩ = some (.int .i64 ii) := by
  have hl : j < vs.length := by rw [h.len]; exact hj
  obtain ⟨g, f, h1, h2, h3⟩ := h.mem (by omega)
  obtain ⟨a, b, c, d, e⟩ := h3 j hl
  have hn := h.nm _ (List.getElem_mem hl)
  have hg := List.getElem?_eq_getElem hl
  generalize vs[j] = v at a b c d e hn hg
  obtain ⟨s, kd, lo, hi, ii⟩ := v
  exact ⟨s, kd, lo, hi, ii, g, f, hg, hn, h1, h2, a, b, c, d, e⟩
/-- Hatches in memory. -/
structure HOk (w : World) (A : Option Addr) (l c : Nat) (hs : List Ht) : Prop where
  len : hs.length = l
  cap : l ≤ c
  big : c ≤ maxLen
  nm : ∀ h ∈ hs, h.name.size ≤ maxLen
  mem : 0 < l → ∃ g f, A = some ⟨g, f, none⟩ ∧ g < w.heap.size ∧ ∀ j (h : j < hs.length), ∃ A' c', w.cell? ⟨g, f + j * 6, none⟩ = some (.string hs[j].name) ∧ w.cell? ⟨g, f + j * 6 + 1, none⟩ = some (.int .i64 hs[j].low) ∧ w.cell? ⟨g, f + j * 6 + 2, none⟩ = some (.int .i64 hs[j].high) ∧ w.cell? ⟨g, f + j * 6 + 3, none⟩ = some (.int .i64 hs[j].t.op) ∧ w.cell? ⟨g, f + j * 6 + 4, none⟩ = some (.int .i64 hs[j].t.num) ∧ w.cell? ⟨g, f + j * 6 + 5, none⟩ = some (.slice A' hs[j].t.kids.length c') ∧ TOk w A' c' hs[j].t.kids
theorem HOk.below {W W' : World} {A : Option Addr} {l c : Nat} {vs : List Ht} (h : HOk W A l c vs) (hb : Below W.heap.size W W') : HOk W' A l c vs :=
  ⟨h.len, h.cap, h.big, h.nm, fun h0 => by
    obtain ⟨g, f, h1, h2, h3⟩ := h.mem h0
    refine ⟨g, f, h1, Nat.lt_of_lt_of_le h2 hb.size, fun j hj => ?_⟩
    obtain ⟨A', c', a, b, c, d, e, k, t⟩ := h3 j hj
    exact ⟨A', c', (hb.cell (p := ⟨g, _, none⟩) h2).trans a, (hb.cell (p := ⟨g, _, none⟩) h2).trans b, (hb.cell (p := ⟨g, _, none⟩) h2).trans c, (hb.cell (p := ⟨g, _, none⟩) h2).trans d, (hb.cell (p := ⟨g, _, none⟩) h2).trans e, (hb.cell (p := ⟨g, _, none⟩) h2).trans k, t.below hb⟩⟩
/-- A hatch, where it lies. -/
theorem HOk.at {w : World} {A : Option Addr} {l c : Nat} {hs : List Ht} (h : HOk w A l c hs) (j : Nat) (hj : j < l) :
    ∃ (s : ByteArray) (lo hi o n : Int) (ks : List Tm) (g f : Nat) (A' : Option Addr) (c' : Nat), hs[j]? = some ⟨s, lo, hi, .mk o n ks⟩ ∧ s.size ≤ maxLen ∧ A = some ⟨g, f, none⟩ ∧ g < w.heap.size ∧ w.cell? ⟨g, f + j * 6, none⟩ = some (.string s) ∧ w.cell? ⟨g, f + j * 6 + 1, none⟩ = some (.int .i64 lo) ∧ w.cell? ⟨g, f + j * 6 + 2, none⟩ = some (.int .i64 hi) ∧ w.cell? ⟨g, f + j * 6 + 3, none⟩ = some (.int .i64 o) ∧ w.cell? ⟨g, f + j * 6 + 4, none⟩ = some (.int .i64 n) ∧ w.cell? ⟨g, f + j * 6 + 5, none⟩ = some (.slice A' ks.length c') ∧ TOk w A' c' ks := by
  have hl : j < hs.length := by rw [h.len]; exact hj
  obtain ⟨g, f, h1, h2, h3⟩ := h.mem (by omega)
  obtain ⟨A', c', a, b, c, d, e, k, t⟩ := h3 j hl
  have hn := h.nm _ (List.getElem_mem hl)
  have hg := List.getElem?_eq_getElem hl
  generalize hs[j] = v at a b c d e k t hn hg
  obtain ⟨s, lo, hi, ⟨o, n, ks⟩⟩ := v
  exact ⟨s, lo, hi, o, n, ks, g, f, A', c', hg, hn, h1, h2, a, b, c, d, e, k, t⟩
end Go.Proofs.YtjpjmoejdkmglaaGreat
