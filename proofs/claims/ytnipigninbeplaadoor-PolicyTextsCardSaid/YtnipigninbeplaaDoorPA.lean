/-
  Lattices of levels and policies as plain values; no program is in sight here.
  Policies, the codes of their parts, their texts and what is read of a text, as plain values; no program is in sight here.
  Names of levels, pairs of levels and labels in memory; no program is in sight here.
-/
import Derived.WalkKit
import Derived.Lib.Hide
namespace Go.Proofs.YtnipigninbeplaaDoor
open Go.RowKit

/-- A table of flags. -/
abbrev Mx := List (List Bool)
def mget (M : Mx) (i j : Nat) : Bool := (M.getD i []).getD j false
def mput (M : Mx) (i j : Nat) : Mx := M.set i ((M.getD i []).set j true)
/-- n rows of n flags. -/
def Sq (n : Nat) (M : Mx) : Prop := M.length = n ∧ ∀ i, i < n → (M.getD i []).length = n
theorem Sq.put {n : Nat} {M : Mx} (h : Sq n M) (i j : Nat) : Sq n (mput M i j) := by
  refine ⟨by rw [mput, List.length_set]; exact h.1, fun k hk => ?_⟩
  have hkl : k < M.length := by rw [h.1]; exact hk
  unfold mput
  by_cases hik : i = k
  · subst hik
    rw [List.getD_eq_getElem?_getD, List.getElem?_set_self hkl, Option.getD_some, List.length_set]
    exact h.2 i hk
  · rw [List.getD_eq_getElem?_getD, List.getElem?_set_ne hik, ← List.getD_eq_getElem?_getD]
    exact h.2 k hk
/-- Only the diagonal. -/
def unitM (n : Nat) : Mx := (List.range n).map fun a => (List.replicate n false).set a true
theorem unitM_sq (n : Nat) : Sq n (unitM n) := by
  refine ⟨by simp [unitM], fun i hi => ?_⟩
  simp [unitM, hi]
/-- With the pairs. -/
def pairM (M : Mx) : List (Nat × Nat) → Mx
  | [] => M
  | p :: l => pairM (mput M p.1 p.2) l
theorem pairM_sq {n : Nat} : ∀ (l : List (Nat × Nat)) (M : Mx), Sq n M → Sq n (pairM M l)
  | [], _, h => h
  | p :: l, _, h => pairM_sq l _ (h.put p.1 p.2)
def stpM (M : Mx) (k i j : Nat) : Mx := if mget M i k && mget M k j then mput M i j else M
theorem Sq.step {n : Nat} {M : Mx} (h : Sq n M) (k i j : Nat) : Sq n (stpM M k i j) := by
  unfold stpM
  split
  · exact h.put i j
  · exact h
/-- The rest of a row from the place j on. -/
def rowM (n k i : Nat) : Nat → Mx → Mx
  | 0, M => M
  | m + 1, M => rowM n k i m (stpM M k i (n - (m + 1)))
theorem rowM_sq {n k i : Nat} : ∀ (m : Nat) (M : Mx), Sq n M → Sq n (rowM n k i m M)
  | 0, _, h => h
  | m + 1, _, h => rowM_sq m _ (h.step _ _ _)
/-- The last m rows. -/
def planeM (n k : Nat) : Nat → Mx → Mx
  | 0, M => M
  | m + 1, M => planeM n k m (rowM n k (n - (m + 1)) n M)
theorem planeM_sq {n k : Nat} : ∀ (m : Nat) (M : Mx), Sq n M → Sq n (planeM n k m M)
  | 0, _, h => h
  | m + 1, _, h => planeM_sq m _ (rowM_sq n _ h)
/-- By way of the last m levels. -/
def closM (n : Nat) : Nat → Mx → Mx
  | 0, M => M
  | m + 1, M => closM n m (planeM n (n - (m + 1)) n M)
theorem closM_sq {n : Nat} : ∀ (m : Nat) (M : Mx), Sq n M → Sq n (closM n m M)
  | 0, _, h => h
  | m + 1, _, h => closM_sq m _ (planeM_sq n _ h)
/-- The closure. -/
def leM (n : Nat) (l : List (Nat × Nat)) : Mx := closM n n (pairM (unitM n) l)
theorem leM_sq (n : Nat) (l : List (Nat × Nat)) : Sq n (leM n l) := closM_sq n _ (pairM_sq l _ (unitM_sq n))
/-- Two levels are below each other. -/
def knotM (n : Nat) (M : Mx) : Prop := ∃ a b, b < a ∧ a < n ∧ mget M a b = true ∧ mget M b a = true
theorem knotM_iff (n : Nat) (M : Mx) : knotM n M ↔ ∃ a b, a < n ∧ b < n ∧ a ≠ b ∧ mget M a b = true ∧ mget M b a = true := by
  constructor
  · rintro ⟨a, b, h1, h2, h3, h4⟩
    exact ⟨a, b, h2, by omega, by omega, h3, h4⟩
  · rintro ⟨a, b, h1, h2, h3, h4, h5⟩
    by_cases hab : b < a
    · exact ⟨a, b, hab, h1, h4, h5⟩
    · exact ⟨b, a, by omega, h2, h5, h4⟩
/-- Is c a bound of a and b, and the first of these? -/
def isBd (n : Nat) (f : Nat → Nat → Bool) (a b c : Nat) : Bool := f a c && f b c && decide (∀ d, d < n → f a d = true → f b d = true → f c d = true)
/-- The first of the last m levels that is the bound. -/
def bdF (n : Nat) (f : Nat → Nat → Bool) (a b : Nat) : Nat → Option Nat
  | 0 => none
  | m + 1 => if isBd n f a b (n - (m + 1)) then some (n - (m + 1)) else bdF n f a b m
def bdM (n : Nat) (f : Nat → Nat → Bool) (a b : Nat) : Option Nat := bdF n f a b n
def upM (M : Mx) (a b : Nat) : Bool := mget M a b
def dnM (M : Mx) (a b : Nat) : Bool := mget M b a
/-- All joins and meets exist. -/
def boundsM (n : Nat) (M : Mx) : Prop := ∀ a b, a < n → b < n → (bdM n (upM M) a b).isSome = true ∧ (bdM n (dnM M) a b).isSome = true
theorem bdF_lt {n : Nat} {f : Nat → Nat → Bool} {a b : Nat} : ∀ (m : Nat) (c : Nat), m ≤ n → bdF n f a b m = some c → c < n
  | 0, c, _, h => by cases h
  | m + 1, c, hm, h => by
    unfold bdF at h
    split at h
    · injection h with h; omega
    · exact bdF_lt m c (by omega) h
theorem bdM_lt {n : Nat} {f : Nat → Nat → Bool} {a b c : Nat} (h : bdM n f a b = some c) : c < n := bdF_lt n c (Nat.le_refl _) h

/-- A label. -/
structure Lb where
  name : ByteArray
  lev : Int
/-- A policy. -/
structure Py where
  levels : List ByteArray
  order : List (Int × Int)
  inputs : List Lb
  hatches : List Lb
  obs : Int
  timed : Bool
/-- May the byte c stand at place k of a level's name? -/
def lnOk (k : Nat) (c : UInt8) : Prop := (97 ≤ c.toNat ∧ c.toNat ≤ 122) ∨ (k ≠ 0 ∧ 48 ≤ c.toNat ∧ c.toNat ≤ 57)
instance (k : Nat) (c : UInt8) : Decidable (lnOk k c) := by unfold lnOk; infer_instance
/-- Is a text a level's name? -/
def lnameB (s : ByteArray) : Bool := decide (1 ≤ s.size) && (decide (s.size ≤ 12) && decide (∀ k (h : k < s.size), lnOk k s[k]))
theorem lnameB_bad {s : ByteArray} {k : Nat} (h : k < s.size) (hb : ¬ lnOk k s[k]) : lnameB s = false := by
  unfold lnameB
  rw [decide_eq_false (fun hx : (∀ k (h : k < s.size), lnOk k s[k]) => hb (hx k h))]
  simp
/-- Is a text among texts? -/
def amongB (l : List ByteArray) (s : ByteArray) : Bool := l.any fun t => t.toList == s.toList
/-- The code of levels' names, of which some have been seen. -/
def namesC (seen : List ByteArray) : List ByteArray → Int
  | [] => 0
  | s :: l => if lnameB s = false then 7 else if amongB seen s = true then 8 else namesC (seen ++ [s]) l
/-- Is each number of a pair a level? -/
def inPb (n : Int) (p : Int × Int) : Bool := decide (0 ≤ p.1) && decide (p.1 < n) && (decide (0 ≤ p.2) && decide (p.2 < n))
def natP (p : Int × Int) : Nat × Nat := (p.1.toNat, p.2.toNat)
/-- The closure of the pairs of a policy. -/
def lePo (names : List ByteArray) (order : List (Int × Int)) : Mx := leM names.length (order.map natP)
open Classical in
/-- The code of a lattice. -/
noncomputable def newC (names : List ByteArray) (order : List (Int × Int)) : Int :=
  if names.length = 0 ∨ 12 < names.length then 4
  else if namesC [] names ≠ 0 then namesC [] names
  else if (order.all (inPb names.length)) = false then 3
  else if knotM names.length (lePo names order) then 10
  else if boundsM names.length (lePo names order) then 0 else 11

/-- May a byte stand in a word? -/
def wordc (c : UInt8) : Bool := (decide (97 ≤ c.toNat) && decide (c.toNat ≤ 122)) || (decide (48 ≤ c.toNat) && decide (c.toNat ≤ 57)) || c.toNat == 46 || c.toNat == 95
/-- The word that is being read is laid ahead, if there is one. -/
def flushW (cur : List UInt8) (r : List ByteArray) : List ByteArray := if cur = [] then r else ⟨cur.toArray⟩ :: r
/-- The tokens of a line; none: another byte stands in it. -/
def tokS : List UInt8 → List UInt8 → Option (List ByteArray)
  | cur, [] => some (flushW cur [])
  | cur, c :: l => if wordc c then tokS (cur ++ [c]) l else if c = 32 then (tokS [] l).map (flushW cur) else if c = 44 ∨ c = 60 then (tokS [] l).map (fun r => flushW cur (⟨#[c]⟩ :: r)) else none
/-- Is a token a word? -/
def isW (s : ByteArray) : Bool := !(s.toList == [44]) && !(s.toList == [60])
/-- The words of a list with commas. -/
def items1 : List ByteArray → Option (List ByteArray)
  | [a] => if isW a then some [a] else none
  | a :: c :: l => if isW a && c.toList == [44] then (items1 l).map (a :: ·) else none
  | _ => none
/-- The pairs of a list with commas. -/
def items3 : List ByteArray → Option (List (ByteArray × ByteArray))
  | [a, s, b] => if isW a && (s.toList == [60] && isW b) then some [(a, b)] else none
  | a :: s :: b :: c :: l => if isW a && (s.toList == [60] && isW b) && c.toList == [44] then (items3 l).map ((a, b) :: ·) else none
  | _ => none
/-- The first place of a text, as the codes know it: -1 if it is not there. -/
def findS (names : List ByteArray) (s : ByteArray) : Int := match names.findIdx? (fun t => t.toList == s.toList) with | some i => i | none => -1
/-- What has been read. -/
structure Rd where
  p : Py
  sorted : Bool
  seen : Bool
def Rd.zero : Rd := ⟨⟨[], [], [], [], 0, false⟩, false, false⟩
/-- The pairs' numbers; none: a name is not known. -/
def pairsS (names : List ByteArray) : List (ByteArray × ByteArray) → Option (List (Int × Int))
  | [] => some []
  | q :: l => if findS names q.1 < 0 ∨ findS names q.2 < 0 then none else (pairsS names l).map ((findS names q.1, findS names q.2) :: ·)
def wLevels : List UInt8 := [108, 101, 118, 101, 108, 115]
def wOrder : List UInt8 := [111, 114, 100, 101, 114]
def wInput : List UInt8 := [105, 110, 112, 117, 116]
def wHatch : List UInt8 := [104, 97, 116, 99, 104]
def wObserve : List UInt8 := [111, 98, 115, 101, 114, 118, 101]
def wTimed : List UInt8 := [116, 105, 109, 101, 100]
/-- The rest of a line "levels". -/
def rdLevels (s : Rd) (t : List ByteArray) : Int × Rd :=
  match items1 t with
  | none => (6, s)
  | some l => if s.sorted then (8, s) else (0, ⟨{ s.p with levels := l }, true, s.seen⟩)
def rdOrder (s : Rd) (t : List ByteArray) : Int × Rd :=
  match items3 t with
  | none => (6, s)
  | some l => match pairsS s.p.levels l with
    | none => (7, s)
    | some q => (0, ⟨{ s.p with order := s.p.order ++ q }, s.sorted, s.seen⟩)
def rdInput (s : Rd) : List ByteArray → Int × Rd
  | [a, b] => if isW a && isW b then (if findS s.p.levels b < 0 then (7, s) else (0, ⟨{ s.p with inputs := s.p.inputs ++ [⟨a, findS s.p.levels b⟩] }, s.sorted, s.seen⟩)) else (6, s)
  | _ => (6, s)
def rdHatch (s : Rd) : List ByteArray → Int × Rd
  | [a, b] => if isW a && isW b then (if findS s.p.levels b < 0 then (7, s) else (0, ⟨{ s.p with hatches := s.p.hatches ++ [⟨a, findS s.p.levels b⟩] }, s.sorted, s.seen⟩)) else (6, s)
  | _ => (6, s)
def seeS (s : Rd) (a : ByteArray) (tm : Bool) : Int × Rd :=
  if isW a = false then (6, s) else if s.seen then (8, s) else if findS s.p.levels a < 0 then (7, s) else (0, ⟨{ s.p with obs := findS s.p.levels a, timed := tm }, s.sorted, true⟩)
def rdObserve (s : Rd) : List ByteArray → Int × Rd
  | [a] => seeS s a false
  | [a, b] => if b.toList == wTimed then seeS s a true else (6, s)
  | _ => (6, s)
/-- A line of tokens. -/
def rdToks (s : Rd) : List ByteArray → Int × Rd
  | [] => (6, s)
  | k :: t => if k.toList == wLevels then rdLevels s t else if k.toList == wOrder then rdOrder s t else if k.toList == wInput then rdInput s t
    else if k.toList == wHatch then rdHatch s t else if k.toList == wObserve then rdObserve s t else (6, s)
/-- Is a line empty, or a remark? -/
def skipS : List UInt8 → Bool
  | [] => true
  | c :: l => if c = 32 then skipS l else c == 35
/-- A line. -/
def rdLine (s : Rd) (l : List UInt8) : Int × Rd :=
  if skipS l then (0, s) else match tokS [] l with
    | none => (6, s)
    | some t => rdToks s t
/-- The lines, of which k have been read: the code and the line's number, or what has been read. -/
def rdLines (k : Int) (s : Rd) : List (List UInt8) → (Int × Int) × Rd
  | [] => ((0, 0), s)
  | l :: ls => if (rdLine s l).1 ≠ 0 then ((k + 1, (rdLine s l).1), s) else rdLines (k + 1) (rdLine s l).2 ls

/-- Names in memory. -/
structure NOk (w : World) (A : Option Addr) (l c : Nat) (xs : List ByteArray) : Prop where
  len : xs.length = l
  cap : l ≤ c
  big : c ≤ maxLen
  nm : ∀ x ∈ xs, x.size ≤ maxLen
  mem : 0 < l → ∃ g f, A = some ⟨g, f, none⟩ ∧ g < w.heap.size ∧ ∀ j (h : j < xs.length), w.cell? ⟨g, f + j, none⟩ = some (.string xs[j])
theorem NOk.below {W W' : World} {A : Option Addr} {l c : Nat} {xs : List ByteArray} (h : NOk W A l c xs) (hb : Below W.heap.size W W') : NOk W' A l c xs :=
  ⟨h.len, h.cap, h.big, h.nm, fun h0 => by
    obtain ⟨g, f, h1, h2, h3⟩ := h.mem h0
    refine ⟨g, f, h1, Nat.lt_of_lt_of_le h2 hb.size, fun j hj => ?_⟩
    have a := h3 j hj
    exact (hb.cell (p := ⟨g, _, none⟩) h2).trans a⟩
theorem NOk.at {w : World} {A : Option Addr} {l c : Nat} {xs : List ByteArray} (h : NOk w A l c xs) (j : Nat) (hj : j < l) :
    ∃ (s : ByteArray) (g f : Nat), xs[j]? = some s ∧ s.size ≤ maxLen ∧ A = some ⟨g, f, none⟩ ∧ g < w.heap.size ∧ w.cell? ⟨g, f + j, none⟩ = some (.string s) := by
  have hl : j < xs.length := by rw [h.len]; exact hj
  obtain ⟨g, f, h1, h2, h3⟩ := h.mem (by omega)
  have a := h3 j hl
  have hn := h.nm _ (List.getElem_mem hl)
  have hg := List.getElem?_eq_getElem hl
  generalize xs[j] = x at a hn hg
  exact ⟨x, g, f, hg, hn, h1, h2, a⟩
/-- Pairs of numbers in memory. -/
structure OOk (w : World) (A : Option Addr) (l c : Nat) (xs : List (Int × Int)) : Prop where
  len : xs.length = l
  cap : l ≤ c
  big : c ≤ maxLen
  mem : 0 < l → ∃ g f, A = some ⟨g, f, none⟩ ∧ g < w.heap.size ∧ ∀ j (h : j < xs.length), w.cell? ⟨g, f + j * 2, none⟩ = some (.int .i64 xs[j].1) ∧ w.cell? ⟨g, f + j * 2 + 1, none⟩ = some (.int .i64 xs[j].2)
theorem OOk.below {W W' : World} {A : Option Addr} {l c : Nat} {xs : List (Int × Int)} (h : OOk W A l c xs) (hb : Below W.heap.size W W') : OOk W' A l c xs :=
  ⟨h.len, h.cap, h.big, fun h0 => by
    obtain ⟨g, f, h1, h2, h3⟩ := h.mem h0
    refine ⟨g, f, h1, Nat.lt_of_lt_of_le h2 hb.size, fun j hj => ?_⟩
    obtain ⟨a, b⟩ := h3 j hj
    exact ⟨(hb.cell (p := ⟨g, _, none⟩) h2).trans a, (hb.cell (p := ⟨g, _, none⟩) h2).trans b⟩⟩
theorem OOk.at {w : World} {A : Option Addr} {l c : Nat} {xs : List (Int × Int)} (h : OOk w A l c xs) (j : Nat) (hj : j < l) :
    ∃ (p q : Int) (g f : Nat), xs[j]? = some ⟨p, q⟩ ∧ A = some ⟨g, f, none⟩ ∧ g < w.heap.size ∧ w.cell? ⟨g, f + j * 2, none⟩ = some (.int .i64 p) ∧ w.cell? ⟨g, f + j * 2 + 1, none⟩ = some (.int .i64 q) := by
  have hl : j < xs.length := by rw [h.len]; exact hj
  obtain ⟨g, f, h1, h2, h3⟩ := h.mem (by omega)
  obtain ⟨a, b⟩ := h3 j hl
  have hg := List.getElem?_eq_getElem hl
  generalize xs[j] = x at a b hg
  obtain ⟨p, q⟩ := x
  exact ⟨p, q, g, f, hg, h1, h2, a, b⟩
/-- Labels in memory. -/
structure LbOk (w : World) (A : Option Addr) (l c : Nat) (xs : List Lb) : Prop where
  len : xs.length = l
  cap : l ≤ c
  big : c ≤ maxLen
  nm : ∀ x ∈ xs, x.name.size ≤ maxLen
  mem : 0 < l → ∃ g f, A = some ⟨g, f, none⟩ ∧ g < w.heap.size ∧ ∀ j (h : j < xs.length), w.cell? ⟨g, f + j * 2, none⟩ = some (.string xs[j].name) ∧ w.cell? ⟨g, f + j * 2 + 1, none⟩ = some (.int .i64 xs[j].lev)
theorem LbOk.below {W W' : World} {A : Option Addr} {l c : Nat} {xs : List Lb} (h : LbOk W A l c xs) (hb : Below W.heap.size W W') : LbOk W' A l c xs :=
  ⟨h.len, h.cap, h.big, h.nm, fun h0 => by
    obtain ⟨g, f, h1, h2, h3⟩ := h.mem h0
    refine ⟨g, f, h1, Nat.lt_of_lt_of_le h2 hb.size, fun j hj => ?_⟩
    obtain ⟨a, b⟩ := h3 j hj
    exact ⟨(hb.cell (p := ⟨g, _, none⟩) h2).trans a, (hb.cell (p := ⟨g, _, none⟩) h2).trans b⟩⟩
theorem LbOk.at {w : World} {A : Option Addr} {l c : Nat} {xs : List Lb} (h : LbOk w A l c xs) (j : Nat) (hj : j < l) :
    ∃ (s : ByteArray) (n : Int) (g f : Nat), xs[j]? = some ⟨s, n⟩ ∧ s.size ≤ maxLen ∧ A = some ⟨g, f, none⟩ ∧ g < w.heap.size ∧ w.cell? ⟨g, f + j * 2, none⟩ = some (.string s) ∧ w.cell? ⟨g, f + j * 2 + 1, none⟩ = some (.int .i64 n) := by
  have hl : j < xs.length := by rw [h.len]; exact hj
  obtain ⟨g, f, h1, h2, h3⟩ := h.mem (by omega)
  obtain ⟨a, b⟩ := h3 j hl
  have hn := h.nm _ (List.getElem_mem hl)
  have hg := List.getElem?_eq_getElem hl
  generalize xs[j] = x at a b hn hg
  obtain ⟨s, n⟩ := x
  exact ⟨s, n, g, f, hg, hn, h1, h2, a, b⟩
/-- A policy's cells. -/
def pyV (An : Option Addr) (ln cn : Nat) (Ao : Option Addr) (lo co : Nat) (Ai : Option Addr) (li ci : Nat) (Ah : Option Addr) (lh ch : Nat) (ob : Int) (tm : Bool) : Array Value :=
  #[.slice An ln cn, .slice Ao lo co, .slice Ai li ci, .slice Ah lh ch, .int .i64 ob, .bool tm]
end Go.Proofs.YtnipigninbeplaaDoor
