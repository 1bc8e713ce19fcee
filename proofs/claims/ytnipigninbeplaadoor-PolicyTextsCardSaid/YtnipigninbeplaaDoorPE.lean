/-
  Lines of a text, spaces at a line's ends, the tokens of a line: plain laws; no program is in sight here.
  Lists of tokens with commas between them: plain laws; no program is in sight here.
  Lists of pairs with commas between them: plain laws; no program is in sight here.
-/
import Derived.Test.YtnipigninbeplaaDoorPA
import Derived.Lib.SplitLaws
import Derived.Lib.TrimByte
namespace Go.Proofs.YtnipigninbeplaaDoor
open Go.RowKit

/-- The lines of a text. -/
def linS : List UInt8 → List (List UInt8)
  | [] => [[]]
  | b :: l => if b = 10 then [] :: linS l else match linS l with | [] => [[b]] | h :: t => (b :: h) :: t
theorem linS_ne : ∀ l, linS l ≠ []
  | [] => by simp [linS]
  | b :: l => by
    unfold linS
    split
    · simp
    · split <;> simp
theorem linS_end : ∀ (u : List UInt8), (∀ b ∈ u, b ≠ 10) → linS u = [u]
  | [], _ => rfl
  | b :: u, h => by
    unfold linS
    rw [if_neg (h b (by simp)), linS_end u (fun x hx => h x (by simp [hx]))]
theorem linS_cut : ∀ (u r : List UInt8), (∀ b ∈ u, b ≠ 10) → linS (u ++ 10 :: r) = u :: linS r
  | [], r, _ => by simp [linS]
  | b :: u, r, h => by
    rw [List.cons_append, linS, if_neg (h b (by simp)), linS_cut u r (fun x hx => h x (by simp [hx]))]
theorem splitK_lin : ∀ s : List UInt8, Lib.splitK [10] 0 (Lib.count s [10]) s = linS s
  | [] => by
    rw [Lib.count_miss (by simp [Lib.index])]
    rfl
  | b :: l => by
    have ih := splitK_lin l
    by_cases hb : b = 10
    · subst hb
      rw [Lib.count_cons_eq, Nat.add_comm, Lib.splitK]
      have hix : Lib.index ((10 : UInt8) :: l) [10] = 0 := by rw [Lib.index]; simp [List.isPrefixOf]
      rw [hix]
      simp only [linS, if_pos]
      simpa using ih
    · rw [Lib.count_cons_ne b 10 l hb]
      have hp : ([10] : List UInt8).isPrefixOf (b :: l) = false := by simp [List.isPrefixOf, Ne.symm hb]
      have hix : Lib.index (b :: l) [10] = if Lib.index l [10] == -1 then -1 else Lib.index l [10] + 1 := by rw [Lib.index, hp]; simp
      rw [linS, if_neg hb, ← ih]
      by_cases hm : Lib.index l [10] = -1
      · rw [Lib.count_miss hm]
        rfl
      · have hge := Lib.index_ge l [10]
        obtain ⟨j, hj⟩ : ∃ j : Nat, Lib.index l [10] = j := ⟨(Lib.index l [10]).toNat, by omega⟩
        rw [Lib.count_hit (by simp) hj, Nat.add_comm 1, Lib.splitK, Lib.splitK, hix, hj]
        have e1 : ((j : Int) == -1) = false := by rw [beq_eq_false_iff_ne]; omega
        have e2 : (((j : Int) + 1) == -1) = false := by rw [beq_eq_false_iff_ne]; omega
        have e3 : ((j : Int) + 1).toNat = j + 1 := by omega
        have e4 : ¬ (false = true) := by decide
        rw [e1, if_neg e4, if_neg e4, if_neg (by rw [e2]; decide)]
        simp [e3]
/-- A remark's or an empty line's test behind the spaces. -/
theorem skipS_trimL : ∀ l : List UInt8, skipS l = (match l.dropWhile (· == 32) with | [] => true | c :: _ => c == 35)
  | [] => rfl
  | c :: l => by
    unfold skipS
    by_cases h : c = 32
    · subst h
      rw [if_pos rfl, skipS_trimL l]
      simp
    · rw [if_neg h, List.dropWhile_cons_of_neg (by simpa using h)]
theorem skipS_trimR : ∀ (l : List UInt8) (k : Nat), skipS (l ++ List.replicate k 32) = skipS l
  | [], 0 => rfl
  | [], k + 1 => by
    rw [List.nil_append, List.replicate_succ]
    show skipS (32 :: List.replicate k 32) = true
    unfold skipS
    rw [if_pos rfl]
    have := skipS_trimR [] k
    rw [List.nil_append] at this
    rw [this]
    rfl
  | c :: l, k => by
    rw [List.cons_append]
    unfold skipS
    rw [skipS_trimR l k]
theorem flushW_nil (r : List ByteArray) : flushW [] r = r := by unfold flushW; rw [if_pos rfl]
theorem tokS_space (l : List UInt8) : tokS [] (32 :: l) = tokS [] l := by
  rw [tokS, if_neg (by decide), if_pos rfl]
  have : flushW [] = id := by funext r; exact flushW_nil r
  rw [this]
  simp
theorem tokS_trimL : ∀ l : List UInt8, tokS [] (l.dropWhile (· == 32)) = tokS [] l
  | [] => rfl
  | c :: l => by
    by_cases h : c = 32
    · subst h
      rw [List.dropWhile_cons_of_pos (by simp), tokS_space]
      exact tokS_trimL l
    · rw [List.dropWhile_cons_of_neg (by simpa using h)]
theorem tokS_trimR : ∀ (l cur : List UInt8) (k : Nat), tokS cur (l ++ List.replicate k 32) = tokS cur l
  | [], cur, 0 => rfl
  | [], cur, k + 1 => by
    have h0 : ∀ m, tokS [] (List.replicate m 32) = some [] := fun m => by
      induction m with
      | zero => rfl
      | succ m ih => rw [List.replicate_succ, tokS_space, ih]
    rw [List.nil_append, List.replicate_succ]
    show tokS cur (32 :: List.replicate k 32) = some (flushW cur [])
    unfold tokS
    rw [if_neg (by decide), if_pos rfl, h0]
    rfl
  | c :: l, cur, k => by
    rw [List.cons_append]
    unfold tokS
    rw [tokS_trimR l _ k, tokS_trimR l _ k]
theorem trimR_ex (l : List UInt8) : ∃ k, l = Lib.trimRightB l 32 ++ List.replicate k 32 := by
  refine ⟨(l.reverse.takeWhile (· == 32)).length, ?_⟩
  unfold Lib.trimRightB
  have h := List.takeWhile_append_dropWhile (p := (· == (32 : UInt8))) (l := l.reverse)
  have ht : l.reverse.takeWhile (· == 32) = List.replicate (l.reverse.takeWhile (· == 32)).length 32 :=
    List.eq_replicate_iff.2 ⟨rfl, fun b hb => by have := List.all_takeWhile (l := l.reverse) (p := (· == (32 : UInt8))); rw [List.all_eq_true] at this; simpa using this b hb⟩
  have h2 := congrArg List.reverse h
  rw [List.reverse_append, List.reverse_reverse, ht, List.reverse_replicate] at h2
  exact h2.symm
theorem tokS_trim (l : List UInt8) : tokS [] (Lib.trimB l 32) = tokS [] l := by
  obtain ⟨k, hk⟩ := trimR_ex l
  unfold Lib.trimB Lib.trimLeftB
  rw [tokS_trimL, ← tokS_trimR (Lib.trimRightB l 32) [] k, ← hk]
theorem skipS_trim (l : List UInt8) : skipS l = (match Lib.trimB l 32 with | [] => true | c :: _ => c == 35) := by
  obtain ⟨k, hk⟩ := trimR_ex l
  rw [hk, skipS_trimR, skipS_trimL, ← hk]
  rfl
theorem trim_head (l : List UInt8) (c : UInt8) (t : List UInt8) (h : Lib.trimB l 32 = c :: t) : c ≠ 32 := by
  intro e
  have := List.head?_dropWhile_not (· == (32 : UInt8)) (Lib.trimRightB l 32)
  unfold Lib.trimB Lib.trimLeftB at h
  rw [h] at this
  simp [e] at this
/-- What begins with no space has a first token. -/
theorem tokS_some : ∀ (l cur : List UInt8) (r : List ByteArray), cur ≠ [] → tokS cur l = some r → r ≠ []
  | [], cur, r, hc, h => by
    unfold tokS flushW at h
    rw [if_neg hc] at h
    injection h with h
    subst h
    simp
  | c :: l, cur, r, hc, h => by
    unfold tokS at h
    split at h
    · exact tokS_some l _ r (by simp) h
    · split at h
      · rw [Option.map_eq_some_iff] at h
        obtain ⟨a, _, rfl⟩ := h
        unfold flushW
        rw [if_neg hc]
        simp
      · split at h
        · rw [Option.map_eq_some_iff] at h
          obtain ⟨a, _, rfl⟩ := h
          unfold flushW
          rw [if_neg hc]
          simp
        · cases h
theorem tokS_first (c : UInt8) (l : List UInt8) (r : List ByteArray) (hc : c ≠ 32) (h : tokS [] (c :: l) = some r) : r ≠ [] := by
  unfold tokS at h
  split at h
  · exact tokS_some l _ r (by simp) h
  · split at h
    · rw [Option.map_eq_some_iff] at h
      obtain ⟨a, _, rfl⟩ := h
      unfold flushW
      simp
    · cases h
/-- A word, and what stands behind it. -/
theorem tokS_word : ∀ (u cur r : List UInt8), (∀ b ∈ u, wordc b = true) → tokS cur (u ++ r) = tokS (cur ++ u) r
  | [], cur, r, _ => by simp
  | b :: u, cur, r, h => by
    rw [List.cons_append, tokS, if_pos (h b (by simp)), tokS_word u _ r (fun x hx => h x (by simp [hx]))]
    simp
theorem tokS_past (u r : List UInt8) (hu : u ≠ []) (hw : ∀ b ∈ u, wordc b = true) (hr : ∀ c, r.head? = some c → wordc c = false) : tokS [] (u ++ r) = (tokS [] r).map (⟨u.toArray⟩ :: ·) := by
  rw [tokS_word u [] r hw, List.nil_append]
  have hf : ∀ x, flushW u x = ⟨u.toArray⟩ :: x := fun x => by unfold flushW; rw [if_neg hu]
  match r, hr with
  | [], _ => simp [tokS, hf, flushW_nil]
  | c :: r, hr =>
    have hc := hr c rfl
    have hn : ¬ wordc c = true := by rw [hc]; decide
    simp only [tokS, if_neg hn]
    split
    · rw [Option.map_map]
      congr 1
      funext x
      simp [hf, flushW_nil]
    · split
      · rw [Option.map_map]
        congr 1
        funext x
        simp [hf, flushW_nil]
      · rfl

/-- Is a token the sign? -/
def isC (s : ByteArray) : Bool := s.toList == [44]
def isLt (s : ByteArray) : Bool := s.toList == [60]
/-- The rest of a line "levels", of whose tokens p are read (by twos). -/
def okL : Bool → List ByteArray → Bool
  | o, [] => !o
  | true, a :: l => isW a && okL false l
  | false, a :: l => isC a && okL true l
/-- Every second token. -/
def evens : List ByteArray → List ByteArray
  | [] => []
  | [a] => [a]
  | a :: _ :: l => a :: evens l
theorem items1_ok : ∀ t : List ByteArray, items1 t = if okL true t then some (evens t) else none
  | [] => by simp [items1, okL]
  | [a] => by simp [items1, okL, evens]
  | a :: c :: l => by
    have ih := items1_ok l
    unfold items1 okL okL evens
    by_cases ha : isW a = true
    · by_cases hc : isC c = true
      · have hc' : (c.toList == [44]) = true := hc
        rw [if_pos (by rw [ha, hc']; rfl), ih, ha, hc]
        simp only [Bool.true_and]
        split <;> simp
      · have hc' : isC c = false := by simpa using hc
        rw [if_neg (by rw [ha]; exact hc), hc']
        simp
    · have ha' : isW a = false := by simpa using ha
      rw [ha']
      simp
/-- The rest of a line "order": p of four. -/
def okO : Nat → List ByteArray → Bool
  | p, [] => p == 0
  | 1, a :: l => isW a && okO 2 l
  | 2, a :: l => isLt a && okO 3 l
  | 3, a :: l => isW a && okO 0 l
  | _, a :: l => isC a && okO 1 l
theorem okO1 (a : ByteArray) (l : List ByteArray) : okO 1 (a :: l) = (isW a && okO 2 l) := rfl
theorem okO2 (a : ByteArray) (l : List ByteArray) : okO 2 (a :: l) = (isLt a && okO 3 l) := rfl
theorem okO3 (a : ByteArray) (l : List ByteArray) : okO 3 (a :: l) = (isW a && okO 0 l) := rfl
theorem okO0 (a : ByteArray) (l : List ByteArray) : okO 0 (a :: l) = (isC a && okO 1 l) := rfl
def trips : List ByteArray → List (ByteArray × ByteArray)
  | a :: _ :: b :: _ :: l => (a, b) :: trips l
  | a :: _ :: b :: _ => [(a, b)]
  | _ => []
theorem items3_ok : ∀ t : List ByteArray, items3 t = if okO 1 t then some (trips t) else none
  | [] => by simp [items3, okO]
  | [a] => by simp [items3, okO]
  | [a, s] => by simp [items3, okO]
  | [a, s, b] => by simp [items3, okO, trips, isLt]
  | a :: s :: b :: c :: l => by
    have ih := items3_ok l
    rw [okO1, okO2, okO3, okO0]
    unfold items3 trips
    by_cases h : (isW a && (isLt s && isW b) && isC c) = true
    · have h' : (isW a && (s.toList == [60] && isW b) && c.toList == [44]) = true := h
      rw [if_pos h', ih]
      simp only [Bool.and_eq_true] at h
      obtain ⟨⟨h1, h2, h3⟩, h4⟩ := h
      rw [h1, h2, h3, h4]
      simp only [Bool.true_and]
      split <;> simp
    · have h' : ¬ (isW a && (s.toList == [60] && isW b) && c.toList == [44]) = true := h
      rw [if_neg h']
      have h2 : (isW a && (isLt s && (isW b && (isC c && okO 1 l)))) = false := by
        have : (isW a && (isLt s && isW b) && isC c) = false := by simpa using h
        revert this; cases isW a <;> cases isLt s <;> cases isW b <;> cases isC c <;> simp
      rw [h2]
      simp
theorem getD_appL {α : Type} (a b : List α) (i : Nat) (d : α) (h : i < a.length) : (a ++ b).getD i d = a.getD i d := by
  rw [List.getD_eq_getElem?_getD, List.getD_eq_getElem?_getD, List.getElem?_append_left h]
theorem getD_appR {α : Type} (a b : List α) (i : Nat) (d : α) (h : a.length ≤ i) : (a ++ b).getD i d = b.getD (i - a.length) d := by
  rw [List.getD_eq_getElem?_getD, List.getD_eq_getElem?_getD, List.getElem?_append_right h]
/-- Has a list the shape of items of n tokens? -/
def Shp (n : Nat) (t : List ByteArray) : Prop := t.length % (n + 1) = n ∧ ∀ j, (j + 1) * (n + 1) < t.length → isC (t.getD ((j + 1) * (n + 1) - 1) ⟨#[]⟩) = true
theorem Shp.two {n : Nat} {t u : List ByteArray} (hu : u.length = n + 1) (ht : 0 < t.length) : Shp n (u ++ t) ↔ isC (u.getD n ⟨#[]⟩) = true ∧ Shp n t := by
  unfold Shp
  rw [List.length_append, hu]
  constructor
  · rintro ⟨h1, h2⟩
    refine ⟨?_, ?_, fun j hj => ?_⟩
    · have := h2 0 (by omega)
      rw [Nat.zero_add, Nat.one_mul, Nat.add_sub_cancel, getD_appL _ _ _ _ (by omega)] at this
      exact this
    · rw [Nat.add_mod_left] at h1
      exact h1
    · have e1 : (j + 1 + 1) * (n + 1) = (j + 1) * (n + 1) + (n + 1) := by rw [Nat.add_mul (j + 1) 1]; omega
      have := h2 (j + 1) (by omega)
      have e0 : 0 < (j + 1) * (n + 1) := Nat.mul_pos (by omega) (by omega)
      rw [getD_appR _ _ _ _ (by omega)] at this
      have e2 : (j + 1 + 1) * (n + 1) - 1 - u.length = (j + 1) * (n + 1) - 1 := by omega
      rw [e2] at this
      exact this
  · rintro ⟨h0, h1, h2⟩
    refine ⟨by rw [Nat.add_mod_left]; exact h1, fun j hj => ?_⟩
    match j with
    | 0 =>
      rw [Nat.zero_add, Nat.one_mul, Nat.add_sub_cancel, getD_appL _ _ _ _ (by omega)]
      exact h0
    | j + 1 =>
      have e1 : (j + 1 + 1) * (n + 1) = (j + 1) * (n + 1) + (n + 1) := by rw [Nat.add_mul (j + 1) 1]; omega
      have e0 : 0 < (j + 1) * (n + 1) := Nat.mul_pos (by omega) (by omega)
      rw [getD_appR _ _ _ _ (by omega)]
      have e2 : (j + 1 + 1) * (n + 1) - 1 - u.length = (j + 1) * (n + 1) - 1 := by omega
      rw [e2]
      exact h2 j (by omega)
theorem items1_shp : ∀ t : List ByteArray, (Shp 1 t ∧ (evens t).all isW = true → items1 t = some (evens t)) ∧ (¬ (Shp 1 t ∧ (evens t).all isW = true) → items1 t = none)
  | [] => ⟨fun h => by have := h.1.1; simp at this, fun _ => rfl⟩
  | [a] => by
    have hs : Shp 1 [a] := ⟨by simp, fun j hj => absurd hj (by simp)⟩
    constructor
    · rintro ⟨_, h⟩
      simp only [evens, List.all_cons, List.all_nil, Bool.and_true] at h
      simp [items1, h, evens]
    · intro h
      have : ¬ isW a = true := fun e => h ⟨hs, by simp [evens, e]⟩
      simp [items1, this]
  | [a, c] => by
    refine ⟨fun h => by have := h.1.1; simp at this, fun _ => ?_⟩
    simp [items1]
  | a :: c :: d :: l => by
    have ih := items1_shp (d :: l)
    have hs := Shp.two (n := 1) (t := d :: l) (u := [a, c]) rfl (by simp)
    rw [List.cons_append, List.cons_append, List.nil_append] at hs
    have hc : ([a, c] : List ByteArray).getD 1 ⟨#[]⟩ = c := rfl
    rw [hc] at hs
    rw [hs]
    unfold items1
    simp only [evens, List.all_cons, Bool.and_eq_true] at ih ⊢
    constructor
    · rintro ⟨⟨h1, h2⟩, h3, h4⟩
      rw [if_pos ⟨h3, h1⟩, ih.1 ⟨h2, h4⟩]
      rfl
    · intro h
      by_cases hh : isW a = true ∧ (c.toList == [44]) = true
      · rw [if_pos hh, ih.2 (fun e => h ⟨⟨hh.2, e.1⟩, hh.1, e.2⟩)]
        rfl
      · rw [if_neg hh]

def quads : List ByteArray → List (ByteArray × ByteArray × ByteArray)
  | a :: s :: b :: _ :: l => (a, s, b) :: quads l
  | [a, s, b] => [(a, s, b)]
  | _ => []
def okQ (q : ByteArray × ByteArray × ByteArray) : Bool := isW q.1 && (isLt q.2.1 && isW q.2.2)
theorem trips_quads : ∀ t : List ByteArray, trips t = (quads t).map (fun q => (q.1, q.2.2))
  | [] => rfl
  | [_] => rfl
  | [_, _] => rfl
  | [_, _, _] => rfl
  | a :: s :: b :: c :: l => by
    unfold trips quads
    rw [trips_quads l]
    rfl
theorem quads_at : ∀ (t : List ByteArray) (j : Nat) (a s b : ByteArray), t[4 * j]? = some a → t[4 * j + 1]? = some s → t[4 * j + 2]? = some b → (quads t)[j]? = some (a, s, b)
  | [], j, a, s, b, h, _, _ => by simp at h
  | [_], 0, a, s, b, _, h, _ => by simp at h
  | [_], j + 1, a, s, b, h, _, _ => by
    have e : 4 * (j + 1) = (4 * j + 3) + 1 := by omega
    rw [e] at h; simp at h
  | [_, _], 0, a, s, b, _, _, h => by simp at h
  | [_, _], j + 1, a, s, b, h, _, _ => by
    have e : 4 * (j + 1) = (4 * j + 2) + 2 := by omega
    rw [e] at h; simp at h
  | [_, _, _], 0, a, s, b, h1, h2, h3 => by
    simp at h1 h2 h3
    subst h1 h2 h3
    rfl
  | [_, _, _], j + 1, a, s, b, h, _, _ => by
    have e : 4 * (j + 1) = (4 * j + 1) + 3 := by omega
    rw [e] at h; simp at h
  | _ :: _ :: _ :: _ :: _, 0, a, s, b, h1, h2, h3 => by
    simp at h1 h2 h3
    subst h1 h2 h3
    rfl
  | _ :: _ :: _ :: _ :: l, j + 1, a, s, b, h1, h2, h3 => by
    have e : 4 * (j + 1) = 4 * j + 4 := by omega
    rw [e] at h1 h2 h3
    have e1 : 4 * j + 4 + 1 = (4 * j + 1) + 4 := by omega
    have e2 : 4 * j + 4 + 2 = (4 * j + 2) + 4 := by omega
    rw [e1] at h2
    rw [e2] at h3
    simp only [List.getElem?_cons_succ] at h1 h2 h3
    unfold quads
    rw [List.getElem?_cons_succ]
    exact quads_at l j a s b h1 h2 h3
theorem quads_len : ∀ t : List ByteArray, t.length % 4 = 3 → (quads t).length * 4 = t.length + 1
  | [], h => by simp at h
  | [_], h => by simp at h
  | [_, _], h => by simp at h
  | [_, _, _], _ => rfl
  | _ :: _ :: _ :: _ :: l, h => by
    have ih := quads_len l (by simp only [List.length_cons] at h; omega)
    unfold quads
    simp only [List.length_cons]
    omega
theorem items3_shp : ∀ t : List ByteArray, (Shp 3 t ∧ (quads t).all okQ = true → items3 t = some (trips t)) ∧ (¬ (Shp 3 t ∧ (quads t).all okQ = true) → items3 t = none)
  | [] => ⟨fun h => by have := h.1.1; simp at this, fun _ => rfl⟩
  | [a] => ⟨fun h => by have := h.1.1; simp at this, fun _ => rfl⟩
  | [a, s] => ⟨fun h => by have := h.1.1; simp at this, fun _ => rfl⟩
  | [a, s, b] => by
    have hs : Shp 3 [a, s, b] := ⟨by simp, fun j hj => absurd hj (by simp; omega)⟩
    have e : (quads [a, s, b]).all okQ = okQ (a, s, b) := by simp [quads]
    have e2 : items3 [a, s, b] = if okQ (a, s, b) then some [(a, b)] else none := rfl
    rw [e, e2]
    constructor
    · rintro ⟨_, h⟩
      rw [if_pos h]; rfl
    · intro h
      rw [if_neg (fun e => h ⟨hs, e⟩)]
  | [a, s, b, c] => by
    refine ⟨fun h => by have := h.1.1; simp at this, fun _ => ?_⟩
    unfold items3
    split
    · rfl
    · rfl
  | a :: s :: b :: c :: d :: l => by
    have ih := items3_shp (d :: l)
    have hs := Shp.two (n := 3) (t := d :: l) (u := [a, s, b, c]) rfl (by simp)
    rw [List.cons_append, List.cons_append, List.cons_append, List.cons_append, List.nil_append] at hs
    have hc : ([a, s, b, c] : List ByteArray).getD 3 ⟨#[]⟩ = c := rfl
    rw [hc] at hs
    rw [hs]
    have e2 : items3 (a :: s :: b :: c :: d :: l) = if (okQ (a, s, b) && isC c) = true then (items3 (d :: l)).map ((a, b) :: ·) else none := rfl
    have e3 : quads (a :: s :: b :: c :: d :: l) = (a, s, b) :: quads (d :: l) := rfl
    have e4 : trips (a :: s :: b :: c :: d :: l) = (a, b) :: trips (d :: l) := rfl
    rw [e2, e3, e4, List.all_cons]
    simp only [Bool.and_eq_true]
    constructor
    · rintro ⟨⟨h1, h2⟩, h3, h4⟩
      rw [if_pos ⟨h3, h1⟩, ih.1 ⟨h2, h4⟩]
      rfl
    · intro h
      by_cases hh : okQ (a, s, b) = true ∧ isC c = true
      · rw [if_pos hh, ih.2 (fun e => h ⟨⟨hh.2, e.1⟩, hh.1, e.2⟩)]
        rfl
      · rw [if_neg hh]
theorem pairsS_app (names : List ByteArray) : ∀ (a b : List (ByteArray × ByteArray)) (x : List (Int × Int)), pairsS names a = some x → pairsS names (a ++ b) = (pairsS names b).map (x ++ ·)
  | [], b, x, h => by
    simp only [pairsS, Option.some.injEq] at h
    subst h
    cases h2 : pairsS names b with
    | none => simp [h2]
    | some y => simp [h2]
  | q :: a, b, x, h => by
    have e1 : ∀ l, pairsS names (q :: l) = if findS names q.1 < 0 ∨ findS names q.2 < 0 then none else (pairsS names l).map ((findS names q.1, findS names q.2) :: ·) := fun _ => rfl
    rw [e1] at h
    rw [List.cons_append, e1]
    by_cases hf : findS names q.1 < 0 ∨ findS names q.2 < 0
    · rw [if_pos hf] at h; cases h
    · rw [if_neg hf] at h ⊢
      cases ha : pairsS names a with
      | none => rw [ha] at h; cases h
      | some y =>
        rw [ha] at h
        injection h with h
        subst h
        rw [pairsS_app names a b y ha]
        cases pairsS names b <;> simp
theorem pairsS_bad (names : List ByteArray) (l : List (ByteArray × ByteArray)) (j : Nat) (q : ByteArray × ByteArray) (x : List (Int × Int)) (hx : pairsS names (l.take j) = some x) (hq : l[j]? = some q) (hf : findS names q.1 < 0 ∨ findS names q.2 < 0) : pairsS names l = none := by
  have h := pairsS_app names (l.take j) (l.drop j) x hx
  rw [List.take_append_drop] at h
  rw [h]
  have hj := (List.getElem?_eq_some_iff.1 hq).1
  rw [List.drop_eq_getElem_cons hj, (List.getElem?_eq_some_iff.1 hq).2]
  unfold pairsS
  rw [if_pos hf]
  rfl
theorem pairsS_good (names : List ByteArray) (l : List (ByteArray × ByteArray)) (j : Nat) (q : ByteArray × ByteArray) (x : List (Int × Int)) (hx : pairsS names (l.take j) = some x) (hq : l[j]? = some q) (h1 : ¬ findS names q.1 < 0) (h2 : ¬ findS names q.2 < 0) : pairsS names (l.take (j + 1)) = some (x ++ [(findS names q.1, findS names q.2)]) := by
  rw [List.take_add_one, hq, Option.toList_some, pairsS_app names _ _ x hx]
  simp only [pairsS, Option.map_some]
  rw [if_neg (by omega)]
  rfl
end Go.Proofs.YtnipigninbeplaaDoor
