/-
  Texts of cost models: pieces between commas, a piece's word and number, what Parse returns: plain laws; no program is in sight here.
-/
import Derived.Lib.SplitLaws
import Derived.Lib.TrimByte
namespace Go.Proofs.YthlhicegchkjjaaGreatDoor
/-- The pieces between the bytes c. -/
def sepS (c : UInt8) : List UInt8 → List (List UInt8)
  | [] => [[]]
  | b :: l => if b = c then [] :: sepS c l else match sepS c l with | [] => [[b]] | h :: t => (b :: h) :: t
theorem sepS_end (c : UInt8) : ∀ (u : List UInt8), (∀ b ∈ u, b ≠ c) → sepS c u = [u]
  | [], _ => rfl
  | b :: u, h => by
    unfold sepS
    rw [if_neg (h b (by simp)), sepS_end c u (fun x hx => h x (by simp [hx]))]
theorem sepS_cut (c : UInt8) : ∀ (u r : List UInt8), (∀ b ∈ u, b ≠ c) → sepS c (u ++ c :: r) = u :: sepS c r
  | [], r, _ => by simp [sepS]
  | b :: u, r, h => by
    rw [List.cons_append, sepS, if_neg (h b (by simp)), sepS_cut c u r (fun x hx => h x (by simp [hx]))]
theorem splitK_sep (c : UInt8) : ∀ s : List UInt8, Lib.splitK [c] 0 (Lib.count s [c]) s = sepS c s
  | [] => by
    rw [Lib.count_miss (by simp [Lib.index])]
    rfl
  | b :: l => by
    have ih := splitK_sep c l
    by_cases hb : b = c
    · subst hb
      rw [Lib.count_cons_eq, Nat.add_comm, Lib.splitK]
      have hix : Lib.index (b :: l) [b] = 0 := by rw [Lib.index]; simp [List.isPrefixOf]
      rw [hix]
      simp only [sepS, if_pos]
      simpa using ih
    · rw [Lib.count_cons_ne b c l hb]
      have hp : ([c] : List UInt8).isPrefixOf (b :: l) = false := by simp [List.isPrefixOf, Ne.symm hb]
      have hix : Lib.index (b :: l) [c] = if Lib.index l [c] == -1 then -1 else Lib.index l [c] + 1 := by rw [Lib.index, hp]; simp
      rw [sepS, if_neg hb, ← ih]
      by_cases hm : Lib.index l [c] = -1
      · rw [Lib.count_miss hm]
        rfl
      · have hge := Lib.index_ge l [c]
        obtain ⟨j, hj⟩ : ∃ j : Nat, Lib.index l [c] = j := ⟨(Lib.index l [c]).toNat, by omega⟩
        rw [Lib.count_hit (by simp) hj, Nat.add_comm 1, Lib.splitK, Lib.splitK, hix, hj]
        have e1 : ((j : Int) == -1) = false := by rw [beq_eq_false_iff_ne]; omega
        have e2 : (((j : Int) + 1) == -1) = false := by rw [beq_eq_false_iff_ne]; omega
        have e3 : ((j : Int) + 1).toNat = j + 1 := by omega
        have e4 : ¬ (false = true) := by decide
        rw [e1, if_neg e4, if_neg e4, if_neg (by rw [e2]; decide)]
        simp [e3]
def lowc (c : UInt8) : Bool := decide (97 ≤ c.toNat ∧ c.toNat ≤ 122)
def digc (c : UInt8) : Bool := decide (48 ≤ c.toNat ∧ c.toNat ≤ 57)
/-- The number's digits behind a word. -/
def numT (s : List UInt8) : List UInt8 := (s.dropWhile lowc).dropWhile (· == 32)
def numOk (d : List UInt8) : Bool := !d.isEmpty && (!(d.head? == some 48 && decide (1 < d.length))) && d.all digc
/-- A piece's word and digits. -/
def partT (s : List UInt8) : Option (List UInt8 × List UInt8) :=
  if s.takeWhile lowc ≠ [] ∧ (s.dropWhile lowc).head? = some 32 ∧ numOk (numT s) = true then some (s.takeWhile lowc, numT s) else none
theorem low32 : lowc 32 = false := by decide
theorem tw_low : ∀ s : List UInt8, (s.takeWhile (· != 32)).all lowc = true → 32 ∈ s → s.takeWhile lowc = s.takeWhile (· != 32) ∧ s.dropWhile lowc = s.dropWhile (· != 32)
  | [], _, h => by simp at h
  | c :: s, h, hm => by
    by_cases hc : c = 32
    · subst hc
      simp [low32]
    · have hne : (c != 32) = true := by simpa using hc
      have e1 : (c :: s).takeWhile (· != 32) = c :: s.takeWhile (· != 32) := List.takeWhile_cons_of_pos (p := (· != 32)) hne
      have e2 : (c :: s).dropWhile (· != 32) = s.dropWhile (· != 32) := List.dropWhile_cons_of_pos (p := (· != 32)) hne
      rw [e1] at h ⊢
      rw [e2]
      rw [List.all_cons, Bool.and_eq_true] at h
      have hm' : 32 ∈ s := by
        rcases List.mem_cons.1 hm with e | e
        · exact absurd e.symm hc
        · exact e
      obtain ⟨h1, h2⟩ := tw_low s h.2 hm'
      rw [List.takeWhile_cons_of_pos h.1, List.dropWhile_cons_of_pos h.1, h1, h2]
      exact ⟨rfl, rfl⟩
theorem tw_sp : ∀ s : List UInt8, (s.dropWhile lowc).head? = some 32 → s.takeWhile (· != 32) = s.takeWhile lowc ∧ s.dropWhile (· != 32) = s.dropWhile lowc ∧ 32 ∈ s
  | [], h => by simp at h
  | c :: s, h => by
    by_cases hl : lowc c = true
    · rw [List.dropWhile_cons_of_pos hl] at h
      obtain ⟨h1, h2, h3⟩ := tw_sp s h
      have hne : (c != 32) = true := by
        rw [bne_iff_ne]
        intro e
        rw [e, low32] at hl
        cases hl
      have e1 : (c :: s).takeWhile (· != 32) = c :: s.takeWhile (· != 32) := List.takeWhile_cons_of_pos (p := (· != 32)) hne
      have e2 : (c :: s).dropWhile (· != 32) = s.dropWhile (· != 32) := List.dropWhile_cons_of_pos (p := (· != 32)) hne
      rw [e1, e2, List.takeWhile_cons_of_pos hl, List.dropWhile_cons_of_pos hl, h1, h2]
      exact ⟨rfl, rfl, List.mem_cons_of_mem _ h3⟩
    · rw [List.dropWhile_cons_of_neg hl] at h
      have hc : c = 32 := by simpa using h
      subst hc
      simp [low32]
theorem tw_low_all : ∀ s : List UInt8, (s.takeWhile lowc).all lowc = true
  | [] => rfl
  | c :: s => by
    by_cases hl : lowc c = true
    · rw [List.takeWhile_cons_of_pos hl, List.all_cons, hl, tw_low_all s]
      rfl
    · rw [List.takeWhile_cons_of_neg hl]
      rfl
theorem sp_head : ∀ s : List UInt8, 32 ∈ s → ∃ r, s.dropWhile (· != 32) = 32 :: r
  | [], h => by simp at h
  | c :: s, h => by
    by_cases hc : c = 32
    · subst hc
      exact ⟨s, by simp⟩
    · have hm : 32 ∈ s := by
        rcases List.mem_cons.1 h with e | e
        · exact absurd e.symm hc
        · exact e
      obtain ⟨r, hr⟩ := sp_head s hm
      exact ⟨r, by rw [List.dropWhile_cons_of_pos (by simpa using hc)]; exact hr⟩
/-- The same by the first space, as the program does it. -/
theorem partT_cut (s : List UInt8) : partT s = if 32 ∈ s ∧ ((s.takeWhile (· != 32)).all lowc = true ∧ s.takeWhile (· != 32) ≠ []) ∧ numOk (((s.dropWhile (· != 32)).drop 1).dropWhile (· == 32)) = true
    then some (s.takeWhile (· != 32), ((s.dropWhile (· != 32)).drop 1).dropWhile (· == 32)) else none := by
  unfold partT
  by_cases h : (s.dropWhile lowc).head? = some 32
  · obtain ⟨h1, h2, h3⟩ := tw_sp s h
    have hn : numT s = ((s.dropWhile (· != 32)).drop 1).dropWhile (· == 32) := by
      unfold numT
      rw [h2]
      cases hd : s.dropWhile lowc with
      | nil => rw [hd] at h; cases h
      | cons c r =>
        rw [hd] at h
        have hc : c = 32 := by simpa using h
        subst hc
        simp
    rw [← hn, h1]
    by_cases hc : s.takeWhile lowc ≠ [] ∧ numOk (numT s) = true
    · rw [if_pos ⟨hc.1, h, hc.2⟩, if_pos ⟨h3, ⟨tw_low_all s, hc.1⟩, hc.2⟩]
    · rw [if_neg (fun e => hc ⟨e.1, e.2.2⟩), if_neg (fun e => hc ⟨e.2.1.2, e.2.2⟩)]
  · rw [if_neg (fun e => h e.2.1), if_neg]
    rintro ⟨hm, ⟨ha, _⟩, _⟩
    obtain ⟨_, h2⟩ := tw_low s ha hm
    obtain ⟨r, hr⟩ := sp_head s hm
    rw [h2, hr] at h
    exact h rfl
/-- A number's value, as far as 101. -/
def satD (n : Nat) : List UInt8 → Nat
  | [] => n
  | d :: l => satD (if 100 < 10 * n + (d.toNat - 48) then 101 else 10 * n + (d.toNat - 48)) l
def valD (n : Nat) : List UInt8 → Nat
  | [] => n
  | d :: l => valD (10 * n + (d.toNat - 48)) l
theorem valD_le : ∀ (l : List UInt8) (n : Nat), n ≤ valD n l
  | [], _ => Nat.le_refl _
  | d :: l, n => Nat.le_trans (by omega) (valD_le l (10 * n + (d.toNat - 48)))
theorem satD_big : ∀ (l : List UInt8) (n : Nat), 100 < n → 100 < satD n l
  | [], _, h => h
  | d :: l, n, h => by
    unfold satD
    rw [if_pos (by omega)]
    exact satD_big l 101 (by omega)
theorem satD_val : ∀ (l : List UInt8) (n : Nat), (valD n l ≤ 100 → satD n l = valD n l) ∧ (100 < valD n l → 100 < satD n l)
  | [], n => ⟨fun _ => rfl, fun h => h⟩
  | d :: l, n => by
    unfold satD valD
    by_cases h : 100 < 10 * n + (d.toNat - 48)
    · rw [if_pos h]
      refine ⟨fun h2 => ?_, fun _ => satD_big l 101 (by omega)⟩
      have := valD_le l (10 * n + (d.toNat - 48))
      omega
    · rw [if_neg h]
      exact satD_val l _
end Go.Proofs.YthlhicegchkjjaaGreatDoor
