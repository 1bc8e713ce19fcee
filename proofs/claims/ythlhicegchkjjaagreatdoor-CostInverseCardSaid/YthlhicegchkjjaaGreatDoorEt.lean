/-
  Expressions as trees, and what it means that they lie in memory; no program is in sight here.
-/
import Derived.WalkKit
import Derived.Lib.Hide
namespace Go.Proofs.YthlhicegchkjjaaGreatDoor
open Go.RowKit
inductive ET where
  | mk (op n : Int) (name : ByteArray) (kids : List ET)
namespace ET
def op : ET → Int | mk o _ _ _ => o
def name : ET → ByteArray | mk _ _ s _ => s
def kids : ET → List ET | mk _ _ _ k => k
mutual
/-- The number of nodes. -/
def cnt : ET → Nat
  | mk _ _ _ ks => 1 + cntL ks
def cntL : List ET → Nat
  | [] => 0
  | k :: ks => cnt k + cntL ks
end
theorem cntL_app (a b : List ET) : cntL (a ++ b) = cntL a + cntL b := by
  induction a with
  | nil => simp [cntL]
  | cons k a ih => simp only [List.cons_append, cntL, ih]; omega
theorem cntL_get (ks : List ET) (i : Nat) (h : i < ks.length) : cnt ks[i] ≤ cntL ks := by
  induction ks generalizing i with
  | nil => simp at h
  | cons k ks ih =>
    cases i with
    | zero => simp [cntL]
    | succ i => simp only [List.getElem_cons_succ, cntL]; have := ih i (by simpa using h); omega
theorem cnt_kid (o n : Int) (s : ByteArray) (ks : List ET) (i : Nat) (h : i < ks.length) : cnt ks[i] < cnt (mk o n s ks) := by
  have := cntL_get ks i h
  simp only [cnt]; omega
theorem take_one (ks : List ET) (i : Nat) (h : i < ks.length) : ks.take (i + 1) = ks.take i ++ [ks[i]] := List.take_succ_eq_append_getElem h
end ET
mutual
/-- The kids lie in memory from element i of the array at A on. -/
def Kd (w : World) : Option Addr → Nat → List ET → Prop
  | _, _, [] => True
  | A, i, k :: ks => KdE w A i k ∧ Kd w A (i + 1) ks
def KdE (w : World) : Option Addr → Nat → ET → Prop
  | A, i, .mk o n s ks => s.size ≤ maxLen ∧ ∃ g f A' c, A = some ⟨g, f, none⟩ ∧ g < w.heap.size ∧ ks.length ≤ c ∧ c ≤ maxLen ∧
      w.cell? ⟨g, f + i * 4, none⟩ = some (.int .i64 o) ∧ w.cell? ⟨g, f + i * 4 + 1, none⟩ = some (.int .i64 n) ∧ w.cell? ⟨g, f + i * 4 + 2, none⟩ = some (.string s) ∧ w.cell? ⟨g, f + i * 4 + 3, none⟩ = some (.slice A' ks.length c) ∧ Kd w A' 0 ks
end
mutual
theorem Kd.below {w w' : World} (hb : Below w.heap.size w w') : ∀ (A : Option Addr) (i : Nat) (ks : List ET), Kd w A i ks → Kd w' A i ks
  | _, _, [], _ => by simp [Kd]
  | A, i, k :: ks, h => by
    simp only [Kd] at h ⊢
    exact ⟨KdE.below hb A i k h.1, Kd.below hb A (i + 1) ks h.2⟩
theorem KdE.below {w w' : World} (hb : Below w.heap.size w w') : ∀ (A : Option Addr) (i : Nat) (k : ET), KdE w A i k → KdE w' A i k
  | A, i, .mk o n s ks, h => by
    simp only [KdE] at h ⊢
    obtain ⟨h0, g, f, A', c, h1, h2, h3, h4, c0, c1, c2, c3, hk⟩ := h
    exact ⟨h0, g, f, A', c, h1, Nat.lt_of_lt_of_le h2 hb.size, h3, h4, (hb.cell (p := ⟨g, _, none⟩) h2).trans c0, (hb.cell (p := ⟨g, _, none⟩) h2).trans c1, (hb.cell (p := ⟨g, _, none⟩) h2).trans c2, (hb.cell (p := ⟨g, _, none⟩) h2).trans c3, Kd.below hb A' 0 ks hk⟩
end
theorem Kd.get {w : World} {A : Option Addr} : ∀ (ks : List ET) (i j : Nat) (h : j < ks.length), Kd w A i ks → KdE w A (i + j) ks[j]
  | [], _, _, h, _ => by simp at h
  | k :: ks, i, 0, _, hk => by simp only [Kd] at hk; exact hk.1
  | k :: ks, i, j + 1, h, hk => by
    simp only [Kd] at hk
    have := Kd.get ks (i + 1) j (by simpa using h) hk.2
    rw [show i + (j + 1) = i + 1 + j from by omega]
    exact this
/-- The name and the kids of an expression are in order. -/
def EOk (w : World) (s : ByteArray) (A : Option Addr) (c : Nat) (ks : List ET) : Prop := s.size ≤ maxLen ∧ ks.length ≤ c ∧ c ≤ maxLen ∧ Kd w A 0 ks
theorem EOk.below {w w' : World} {s : ByteArray} {A : Option Addr} {c : Nat} {ks : List ET} (h : EOk w s A c ks) (hb : Below w.heap.size w w') : EOk w' s A c ks := ⟨h.1, h.2.1, h.2.2.1, Kd.below hb A 0 ks h.2.2.2⟩
/-- A kid, where it lies. -/
theorem EOk.kid {w : World} {s : ByteArray} {A : Option Addr} {c : Nat} {ks : List ET} (h : EOk w s A c ks) (j : Nat) (hj : j < ks.length) :
    ∃ (o n : Int) (s' : ByteArray) (ks' : List ET) (g f : Nat) (A' : Option Addr) (c' : Nat), ks[j] = .mk o n s' ks' ∧ A = some ⟨g, f, none⟩ ∧ g < w.heap.size ∧ EOk w s' A' c' ks' ∧
      w.cell? ⟨g, f + j * 4, none⟩ = some (.int .i64 o) ∧ w.cell? ⟨g, f + j * 4 + 1, none⟩ = some (.int .i64 n) ∧ w.cell? ⟨g, f + j * 4 + 2, none⟩ = some (.string s') ∧ w.cell? ⟨g, f + j * 4 + 3, none⟩ = some (.slice A' ks'.length c') := by
  have hk := Kd.get ks 0 j hj h.2.2.2
  rw [Nat.zero_add] at hk
  generalize ks[j] = k at hk
  obtain ⟨o, n, s', ks'⟩ := k
  simp only [KdE] at hk
  obtain ⟨h0, g, f, A', c', h1, h2, h3, h4, c0, c1, c2, c3, hk⟩ := hk
  exact ⟨o, n, s', ks', g, f, A', c', rfl, h1, h2, ⟨h0, h3, h4, hk⟩, c0, c1, c2, c3⟩
end Go.Proofs.YthlhicegchkjjaaGreatDoor
