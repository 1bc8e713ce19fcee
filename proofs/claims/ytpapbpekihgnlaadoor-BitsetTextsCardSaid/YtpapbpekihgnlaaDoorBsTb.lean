/-
  How a set's text is taken apart again; no program is in sight here.
-/
import Derived.Test.YtpapbpekihgnlaaDoorBsTa
import Derived.Lib.SplitLaws
import Derived.Lib.AtoiAllCases
namespace Go.Proofs.YtpapbpekihgnlaaDoor
namespace Tx
open Lib (decDigits)

theorem pre1 (c : UInt8) (r : List UInt8) : Lib.hasPrefix (c :: r) [c] = true := by simp [Lib.hasPrefix]
theorem trim1 (c : UInt8) (r : List UInt8) : Lib.trimPrefix (c :: r) [c] = r := by simp [Lib.trimPrefix, pre1]
theorem dig_not {c : UInt8} (h : dig c = true) (d : UInt8) (hd : dig d = false) : c ≠ d := by intro e; rw [e, hd] at h; cases h
theorem more_not (b : Bool) (xs : List Nat) : ∀ c ∈ more b xs, c ≠ 125 := by
  induction xs generalizing b with
  | nil => intro c hc; cases hc
  | cons x xs ih =>
    intro c hc
    rw [more] at hc
    rcases List.mem_append.1 hc with h | h
    · cases b
      · cases h
      · simp at h; rcases h with rfl | rfl <;> decide
    · rcases List.mem_append.1 h with h | h
      · exact dig_not (dec_dig x c h) 125 rfl
      · exact ih true c h
theorem index_at2 (a r : List UInt8) (c d : UInt8) (h : ∀ x ∈ a, x ≠ c) : Lib.index (a ++ c :: d :: r) [c, d] = (a.length : Int) := by
  induction a with
  | nil => simp [Lib.index]
  | cons x a ih =>
    have hx : x ≠ c := h x (by simp)
    have ih' := ih (fun y hy => h y (by simp [hy]))
    rw [List.cons_append, Lib.index]
    have hp : ([c, d].isPrefixOf (x :: (a ++ c :: d :: r))) = false := by simp [List.isPrefixOf, Ne.symm hx]
    rw [hp, ih']
    have : ((a.length : Int) == -1) = false := by rw [beq_eq_false_iff_ne]; omega
    rw [this]
    simp
theorem index_none (a : List UInt8) (c d : UInt8) (h : ∀ x ∈ a, x ≠ c) : Lib.index a [c, d] = -1 := by
  induction a with
  | nil => simp [Lib.index]
  | cons x a ih =>
    have hx : x ≠ c := h x (by simp)
    have ih' := ih (fun y hy => h y (by simp [hy]))
    rw [Lib.index]
    have hp : ([c, d].isPrefixOf (x :: a)) = false := by simp [List.isPrefixOf, Ne.symm hx]
    rw [hp, ih']
    rfl
theorem cut_more (a r : List UInt8) (c d : UInt8) (h : ∀ x ∈ a, x ≠ c) : Lib.cut (a ++ c :: d :: r) [c, d] = (a, r, true) := by
  unfold Lib.cut
  rw [index_at2 a r c d h, if_pos (by omega)]
  simp
theorem dec_no44 (x : Nat) : ∀ c ∈ decDigits x, c ≠ 44 := fun c hc => dig_not (dec_dig x c hc) 44 rfl
/-- The pieces of a list of members. -/
theorem split_more (sep : ByteArray) (hsep : sep.data.toList = [44, 32]) : ∀ (x : Nat) (xs : List Nat) (s : ByteArray), s.data.toList = more false (x :: xs) →
    Lib.countB s sep = xs.length ∧ (Lib.splitB sep 0 (Lib.countB s sep) s).map (fun p => p.data.toList) = (x :: xs).map decDigits
  | x, [], s, hs => by
    have e : s.data.toList = decDigits x := by rw [hs]; simp [more]
    have hm : Lib.indexB s sep = -1 := by
      show Lib.index s.data.toList sep.data.toList = -1
      rw [e, hsep]
      exact index_none _ 44 32 (dec_no44 x)
    rw [Lib.countB_miss s sep hm, Lib.splitB_zero]
    exact ⟨rfl, by simp [e]⟩
  | x, y :: ys, s, hs => by
    have e : s.data.toList = decDigits x ++ 44 :: 32 :: more false (y :: ys) := by
      rw [hs]; simp [more]
    have hsz : sep.size = 2 := by rw [Lib.size_eq, hsep]; rfl
    have hi : Lib.indexB s sep = ((decDigits x).length : Nat) := by
      show Lib.index s.data.toList sep.data.toList = _
      rw [e, hsep]
      exact index_at2 _ _ 44 32 (dec_no44 x)
    have hrest : (s.extract ((decDigits x).length + sep.size) s.size).data.toList = more false (y :: ys) := by
      rw [Lib.extract_to_end, hsz, e, List.drop_append]
      simp
    obtain ⟨h1, h2⟩ := split_more sep hsep y ys _ hrest
    rw [Lib.countB_hit s sep _ (by omega) hi, h1, Nat.add_comm 1, Lib.splitB_hit sep 0 _ s _ hi]
    refine ⟨rfl, ?_⟩
    rw [h1] at h2
    rw [List.map_cons, h2, Lib.extract_from_zero, e]
    simp
theorem p10 : ∀ (l : List UInt8) (acc : Nat), (∀ c ∈ l, dig c = true) → l.foldl (fun n c => 10 * n + (c.toNat - 48)) acc < 1000000000000000000 → Lib.parseUint10 acc l = .ok (l.foldl (fun n c => 10 * n + (c.toNat - 48)) acc)
  | [], _, _, _ => rfl
  | c :: r, acc, hd, hv => by
    have hc := hd c (by simp)
    unfold dig at hc
    rw [Bool.and_eq_true, decide_eq_true_iff, decide_eq_true_iff] at hc
    have mono : ∀ (r : List UInt8) (a : Nat), a ≤ r.foldl (fun n c => 10 * n + (c.toNat - 48)) a := by
      intro r
      induction r with
      | nil => intro a; exact Nat.le_refl _
      | cons d r ih => intro a; exact Nat.le_trans (by omega) (ih (10 * a + (d.toNat - 48)))
    rw [List.foldl_cons] at hv ⊢
    have hm := mono r (10 * acc + (c.toNat - 48))
    unfold Lib.parseUint10
    rw [if_pos hc, if_neg (by omega), if_neg (by omega), show acc * 10 + (c.toNat - 48) = 10 * acc + (c.toNat - 48) by omega]
    exact p10 r _ (fun x hx => hd x (by simp [hx])) hv
theorem atoi_dec (n : Nat) (hn : n < 1000000000000000000) : Lib.atoiAll (decDigits n) = .ok (n : Int) := by
  cases h : decDigits n with
  | nil => exact absurd h (dec_ne n)
  | cons c r =>
    have hc : dig c = true := dec_dig n c (by rw [h]; simp)
    have hc' := hc
    unfold dig at hc'
    rw [Bool.and_eq_true, decide_eq_true_iff, decide_eq_true_iff] at hc'
    rw [Lib.atoiAll_plain c r (by omega) (by omega), ← h]
    have hv := val_dec n
    unfold val at hv
    unfold Lib.parseMag
    rw [if_neg (dec_ne n), p10 _ 0 (dec_dig n) (by rw [hv]; exact hn), hv]
    show (if 9223372036854775808 ≤ n then Lib.NumEnd.range else Lib.NumEnd.ok (n : Int)) = _
    rw [if_neg (by omega)]

/-- What a text tells of the ways of the program's Parse. -/
theorem text_open {t : List UInt8} {m : Nat} {ws : List Nat} (h : isText t m ws) : t = 123 :: (more false (membR m ws) ++ (125 :: 47 :: decDigits m)) ∧ m ≤ 4096 := by
  obtain ⟨hv, _, rfl⟩ := h
  exact ⟨text_more hv, Bs.vld_le hv⟩
theorem text_way {t : List UInt8} {m : Nat} {ws : List Nat} (h : isText t m ws) :
    Lib.hasPrefix t [123] = true ∧ Lib.cut (Lib.trimPrefix t [123]) [125, 47] = (more false (membR m ws), decDigits m, true) ∧ Lib.atoiAll (decDigits m) = .ok (m : Int) := by
  obtain ⟨rfl, hm⟩ := text_open h
  rw [pre1, trim1, cut_more _ _ 125 47 (more_not _ _)]
  exact ⟨rfl, rfl, atoi_dec m (by omega)⟩
/-- A parse that ends with a set. -/
theorem of_text {n : Int} {zs : List Int} (hc : (ofR n zs).2.2 = 0) : Bs.vld (ofR n zs).1 (ofR n zs).2.1 = true ∧ Bs.fits (ofR n zs).2.1 ∧ ∃ m : Nat, (ofR n zs).1 = m := by
  by_cases h : n < 0 ∨ 4096 < n ∨ ∃ z ∈ zs, z < 0 ∨ n ≤ z
  · unfold ofR at hc
    rw [if_pos h] at hc
    exact absurd hc (by decide)
  · have h1 : ¬ n < 0 := fun e => h (.inl e)
    have h2 : ¬ 4096 < n := fun e => h (.inr (.inl e))
    obtain ⟨m, rfl⟩ : ∃ m : Nat, n = m := ⟨n.toNat, by omega⟩
    obtain ⟨W, hW⟩ : ∃ W, (Bs.mk m fun i => zs.contains (i : Int)) = W := ⟨_, rfl⟩
    have e : ofR m zs = ((m : Int), W, 0) := by unfold ofR; rw [if_neg h, Int.toNat_natCast, hW]
    have v1 : Bs.vld m W = true := by rw [← hW]; exact Bs.mk_vld m _ (by omega)
    have v2 : Bs.fits W := by rw [← hW]; exact Bs.mk_fits m _
    rw [e]
    exact ⟨v1, v2, m, rfl⟩
theorem of_par {t : List UInt8} {n : Int} {zs : List Int} (hc : (ofR n zs).2.2 = 0) (ht : textR (ofR n zs).1 (ofR n zs).2.1 = t) : parR t = ofR n zs := by
  obtain ⟨h1, h2, m, h3⟩ := of_text hc
  have h := parR_ok (t := t) (m := m) (ws := (ofR n zs).2.1) ⟨by rw [← h3]; exact h1, h2, by rw [← h3]; exact ht⟩
  rw [h, ← h3, ← hc]

/-! ### The reference's parser -/
def span (t : List UInt8) (i : Nat) : List UInt8 := (t.drop i).takeWhile dig
open Classical in
noncomputable def numR (t : List UInt8) (i : Nat) : Int × Int := if numOk (span t i) ∧ val (span t i) ≤ 4096 then ((val (span t i) : Nat), ((i + (span t i).length : Nat) : Int)) else (0, -1)
theorem numR_cases (t : List UInt8) (i : Nat) : (numR t i = (0, -1) ∧ ¬ (numOk (span t i) ∧ val (span t i) ≤ 4096)) ∨ ∃ n : Nat, n ≤ 4096 ∧ span t i = decDigits n ∧ numR t i = ((n : Int), ((i + (decDigits n).length : Nat) : Int)) := by
  by_cases h : numOk (span t i) ∧ val (span t i) ≤ 4096
  · right
    refine ⟨val (span t i), h.2, (ok_dec _ _ rfl h.1).symm, ?_⟩
    unfold numR
    rw [if_pos h, ok_dec _ _ rfl h.1]
  · left
    unfold numR
    rw [if_neg h]
    exact ⟨rfl, h⟩
theorem numR_dec {t : List UInt8} {i n : Nat} {r : List UInt8} (h : t.drop i = decDigits n ++ r) (hr : ∀ c, r.head? = some c → dig c = false) (hn : n ≤ 4096) : numR t i = ((n : Int), ((i + (decDigits n).length : Nat) : Int)) := by
  have hs : span t i = decDigits n := by unfold span; rw [h, span_dec n r hr]
  unfold numR
  rw [hs, val_dec, if_pos ⟨dec_ok n, hn⟩]
/-- Where the parser stands behind some members. -/
structure St (t : List UInt8) (i : Nat) (ms : List Nat) : Prop where
  pre : t.take i = 123 :: more false ms
  le : i ≤ t.length
  asc : ms.Pairwise (· < ·)
  max : ∀ x ∈ ms, x ≤ 4096
  of : ∀ m ws, isText t m ws → ∃ rest, membR m ws = ms ++ rest
/-- .. and behind the comma. -/
structure Sm (t : List UInt8) (i : Nat) (ms : List Nat) : Prop where
  pre : t.take i = 123 :: (more false ms ++ if ms.isEmpty then [] else [44, 32])
  le : i ≤ t.length
  asc : ms.Pairwise (· < ·)
  max : ∀ x ∈ ms, x ≤ 4096
  of : ∀ m ws, isText t m ws → ∃ x rest, membR m ws = ms ++ x :: rest
theorem St.start {t : List UInt8} (h : t.head? = some 123) : St t 1 [] := by
  cases t with
  | nil => cases h
  | cons c r =>
    obtain rfl : c = 123 := by simpa using h
    exact ⟨rfl, by simp, .nil, (fun x hx => by cases hx), (fun m ws _ => ⟨membR m ws, rfl⟩)⟩
theorem St.tail {t : List UInt8} {i : Nat} {ms : List Nat} (h : St t i ms) {m : Nat} {ws rest : List Nat} (ht : isText t m ws) (hr : membR m ws = ms ++ rest) : t.drop i = more (!ms.isEmpty) rest ++ (125 :: 47 :: decDigits m) := by
  have e := (text_open ht).1
  have e2 : t.take i ++ t.drop i = t := List.take_append_drop i t
  rw [h.pre, e, hr, more_app, Bool.false_or, List.append_assoc, List.cons_append] at e2
  rw [e, hr, more_app, Bool.false_or, List.append_assoc]
  exact List.append_cancel_left (List.cons.inj e2).2
theorem Sm.tail {t : List UInt8} {i : Nat} {ms : List Nat} (h : Sm t i ms) {m : Nat} {ws rest : List Nat} {x : Nat} (ht : isText t m ws) (hr : membR m ws = ms ++ x :: rest) : t.drop i = decDigits x ++ (more true rest ++ (125 :: 47 :: decDigits m)) := by
  have e := (text_open ht).1
  have e2 : t.take i ++ t.drop i = t := List.take_append_drop i t
  have e3 : more (!ms.isEmpty) (x :: rest) = (if ms.isEmpty then [] else [44, 32]) ++ (decDigits x ++ more true rest) := by
    rw [more]; cases ms <;> rfl
  have e4 : t = 123 :: (more false ms ++ (if ms.isEmpty then [] else [44, 32])) ++ (decDigits x ++ (more true rest ++ (125 :: 47 :: decDigits m))) := by
    rw [e, hr, more_app, Bool.false_or, e3]
    simp
  rw [h.pre] at e2
  exact List.append_cancel_left (e2.trans e4)
theorem at_cons {t : List UInt8} {i : Nat} {c : UInt8} {r : List UInt8} (h : t.drop i = c :: r) : t[i]? = some c ∧ t.drop (i + 1) = r := by
  refine ⟨?_, ?_⟩
  · have := congrArg List.head? h
    rw [List.head?_drop] at this
    exact this
  · rw [← List.drop_drop, h]; rfl
/-- The loop goes on: there is a member more. -/
theorem St.on {t : List UInt8} {i : Nat} {ms : List Nat} (h : St t i ms) {m : Nat} {ws : List Nat} (ht : isText t m ws) (h1 : t[i]? ≠ some 125) : ∃ x rest, membR m ws = ms ++ x :: rest := by
  obtain ⟨rest, hr⟩ := h.of m ws ht
  cases rest with
  | cons x rest => exact ⟨x, rest, hr⟩
  | nil =>
    have := h.tail ht hr
    exact absurd (at_cons this).1 h1
/-- The loop ends: there is none. -/
theorem St.off {t : List UInt8} {i : Nat} {ms : List Nat} (h : St t i ms) {m : Nat} {ws : List Nat} (ht : isText t m ws) (h1 : t.length ≤ i ∨ t[i]? = some 125) : membR m ws = ms ∧ t.drop i = 125 :: 47 :: decDigits m := by
  obtain ⟨rest, hr⟩ := h.of m ws ht
  have htl := h.tail ht hr
  cases rest with
  | nil => exact ⟨by rw [hr, List.append_nil], htl⟩
  | cons x rest =>
    exfalso
    rcases h1 with h1 | h1
    · rw [List.drop_eq_nil_of_le h1, more] at htl
      have := congrArg List.length htl
      simp at this
    · cases hm : ms.isEmpty with
      | false =>
        rw [hm] at htl
        rw [(at_cons htl).1] at h1
        cases h1
      | true =>
        rw [hm] at htl
        simp only [more, Bool.not_true, Bool.false_eq_true, if_false, List.nil_append, List.append_assoc] at htl
        cases hd : decDigits x with
        | nil => exact dec_ne x hd
        | cons c l =>
          rw [hd] at htl
          rw [(at_cons htl).1] at h1
          have hc : c = 125 := by simpa using h1
          have := dec_dig x c (by rw [hd]; simp)
          rw [hc] at this
          cases this
theorem St.first {t : List UInt8} {i : Nat} (h : St t i []) (h1 : t[i]? ≠ some 125) : Sm t i [] :=
  ⟨h.pre, h.le, h.asc, h.max, fun _ _ ht => h.on ht h1⟩
theorem St.comma {t : List UInt8} {i : Nat} {ms : List Nat} (h : St t i ms) (hne : ms ≠ []) (h1 : t[i]? = some 44) (h2 : t[i + 1]? = some 32) : Sm t (i + 2) ms := by
  have he : ms.isEmpty = false := by cases ms with
    | nil => exact absurd rfl hne
    | cons _ _ => rfl
  have hl2 : i + 1 < t.length := by
    rcases Nat.lt_or_ge (i + 1) t.length with h | h
    · exact h
    · rw [List.getElem?_eq_none h] at h2; cases h2
  refine ⟨?_, by omega, h.asc, h.max, fun _ _ ht => h.on ht (by rw [h1]; decide)⟩
  rw [show i + 2 = (i + 1) + 1 from rfl, List.take_add_one, List.take_add_one, h.pre, h1, h2, he]
  simp
/-- At a text the comma stands. -/
theorem St.comma_of {t : List UInt8} {i : Nat} {ms : List Nat} (h : St t i ms) (hne : ms ≠ []) (h1 : t[i]? ≠ some 125) {m : Nat} {ws : List Nat} (ht : isText t m ws) : t[i]? = some 44 ∧ t[i + 1]? = some 32 := by
  have he : ms.isEmpty = false := by cases ms with
    | nil => exact absurd rfl hne
    | cons _ _ => rfl
  obtain ⟨x, rest, hr⟩ := h.on ht h1
  have htl := h.tail ht hr
  rw [he, more] at htl
  simp only [Bool.not_false, if_true, List.cons_append, List.nil_append] at htl
  obtain ⟨e1, e2⟩ := at_cons htl
  exact ⟨e1, (at_cons e2).1⟩
/-- The last member, or -1. -/
def lastR (ms : List Nat) : Int := match ms.getLast? with
  | some x => x
  | none => -1
theorem lastR_snoc (ms : List Nat) (x : Nat) : lastR (ms ++ [x]) = x := by simp [lastR]
theorem lastR_le {ms : List Nat} (h : ms.Pairwise (· < ·)) : ∀ x ∈ ms, (x : Int) ≤ lastR ms := by
  intro x hx
  obtain ⟨p, c, rfl⟩ : ∃ p c, ms = p ++ [c] := ⟨ms.dropLast, ms.getLast (List.ne_nil_of_mem hx), (List.dropLast_concat_getLast _).symm⟩
  rw [lastR_snoc]
  rcases List.mem_append.1 hx with h1 | h1
  · have := (List.pairwise_append.1 h).2.2 x h1 c (by simp); omega
  · obtain rfl := List.mem_singleton.1 h1; exact Int.le_refl _
theorem lastR_mem (ms : List Nat) : lastR ms = -1 ∨ ∃ x ∈ ms, lastR ms = (x : Int) := by
  unfold lastR
  cases h : ms.getLast? with
  | none => exact .inl rfl
  | some x => exact .inr ⟨x, List.mem_of_getLast? h, rfl⟩
theorem lastR_bound {ms : List Nat} (h : ∀ x ∈ ms, x ≤ 4096) : -1 ≤ lastR ms ∧ lastR ms ≤ 4096 := by
  rcases lastR_mem ms with e | ⟨x, hx, e⟩
  · rw [e]; omega
  · rw [e]; have := h x hx; omega
/-- At a text the next number is the next member. -/
theorem Sm.num_of {t : List UInt8} {i : Nat} {ms : List Nat} (h : Sm t i ms) {m : Nat} {ws : List Nat} (ht : isText t m ws) : ∃ (x : Nat) (rest : List Nat), membR m ws = ms ++ x :: rest ∧ numR t i = ((x : Int), ((i + (decDigits x).length : Nat) : Int)) ∧ lastR ms < x := by
  obtain ⟨x, rest, hr⟩ := h.of m ws ht
  have htl := h.tail ht hr
  have hx : x < 4096 := memb_lt (n := m) (ws := ws) (by rw [hr]; simp)
  refine ⟨x, rest, hr, numR_dec htl (head_more rest _ rfl) (by omega), ?_⟩
  have hs := memb_sorted m ws
  rw [hr] at hs
  rcases lastR_mem ms with e | ⟨y, hy, e⟩
  · rw [e]; omega
  · rw [e]; have := (List.pairwise_append.1 hs).2.2 y hy x (by simp); omega
theorem Sm.next {t : List UInt8} {i : Nat} {ms : List Nat} (h : Sm t i ms) {n : Nat} (hn : n ≤ 4096) (hs : span t i = decDigits n) (hl : lastR ms < n) : St t (i + (decDigits n).length) (ms ++ [n]) := by
  have hpre : (decDigits n) <+: t.drop i := by rw [← hs]; exact List.takeWhile_prefix _
  obtain ⟨r, hr⟩ := hpre
  have hlen : (decDigits n).length ≤ t.length - i := by
    have := congrArg List.length hr
    rw [List.length_append, List.length_drop] at this
    omega
  refine ⟨?_, by have := h.le; omega, ?_, ?_, fun m ws ht => ?_⟩
  · rw [List.take_add, h.pre, ← hr, List.take_left, more_app]
    cases ms <;> simp [more]
  · rw [List.pairwise_append]
    exact ⟨h.asc, List.pairwise_singleton _ _, fun x hx y hy => by
      obtain rfl := List.mem_singleton.1 hy
      have := lastR_le h.asc x hx; omega⟩
  · intro x hx
    rcases List.mem_append.1 hx with h1 | h1
    · exact h.max x h1
    · obtain rfl := List.mem_singleton.1 h1; exact hn
  · obtain ⟨x, rest, h1, h2, _⟩ := h.num_of ht
    have hnum : numR t i = ((n : Int), ((i + (decDigits n).length : Nat) : Int)) := by
      unfold numR
      rw [hs, val_dec, if_pos ⟨dec_ok n, hn⟩]
    rw [h2] at hnum
    have : (x : Int) = n := (Prod.mk.inj hnum).1
    obtain rfl : x = n := by omega
    exact ⟨rest, by rw [h1, List.append_assoc]; rfl⟩
/-- Two lists in ascending order with the same members are one. -/
theorem asc_eq : ∀ (a b : List Nat), a.Pairwise (· < ·) → b.Pairwise (· < ·) → (∀ x, x ∈ a ↔ x ∈ b) → a = b
  | [], [], _, _, _ => rfl
  | [], y :: b, _, _, h => absurd ((h y).2 (by simp)) (by simp)
  | x :: a, [], _, _, h => absurd ((h x).1 (by simp)) (by simp)
  | x :: a, y :: b, ha, hb, h => by
    obtain ⟨ha1, ha2⟩ := List.pairwise_cons.1 ha
    obtain ⟨hb1, hb2⟩ := List.pairwise_cons.1 hb
    have e : x = y := by
      rcases List.mem_cons.1 ((h x).1 (by simp)) with e | e
      · exact e
      · rcases List.mem_cons.1 ((h y).2 (by simp)) with e2 | e2
        · exact e2.symm
        · have := ha1 y e2; have := hb1 x e; omega
    subst e
    rw [asc_eq a b ha2 hb2 fun z => ?_]
    constructor
    · intro hz
      rcases List.mem_cons.1 ((h z).1 (by simp [hz])) with e | e
      · have := ha1 z hz; omega
      · exact e
    · intro hz
      rcases List.mem_cons.1 ((h z).2 (by simp [hz])) with e | e
      · have := hb1 z hz; omega
      · exact e
/-- The set that the members make has them. -/
theorem memb_mk {s : Nat} {ms : List Nat} (hs : s ≤ 4096) (ha : ms.Pairwise (· < ·)) (hm : ∀ x ∈ ms, x < s) : membR s (Bs.mk s fun i => (ints ms).contains (i : Int)) = ms := by
  rw [Is.memb (f := fun i => (ints ms).contains (i : Int)) ⟨rfl⟩ hs]
  refine asc_eq _ _ (List.Pairwise.filter _ List.pairwise_lt_range) ha fun x => ?_
  rw [List.mem_filter, List.mem_range, List.contains_iff_mem]
  constructor
  · rintro ⟨_, h⟩
    obtain ⟨k, hk, e⟩ := List.mem_map.1 h
    obtain rfl : k = x := by omega
    exact hk
  · intro h
    exact ⟨hm x h, List.mem_map.2 ⟨x, h, rfl⟩⟩
theorem of_ints {s : Nat} {ms : List Nat} (hs : s ≤ 4096) (hm : ∀ x ∈ ms, x < s) : ofR s (ints ms) = ((s : Int), Bs.mk s fun i => (ints ms).contains (i : Int), 0) := by
  unfold ofR
  rw [if_neg, Int.toNat_natCast]
  rintro (h | h | ⟨z, hz, h⟩)
  · omega
  · omega
  · obtain ⟨k, hk, rfl⟩ := List.mem_map.1 hz
    have := hm k hk
    omega
/-- The end: what has been read is a text. -/
theorem St.fin {t : List UInt8} {i : Nat} {ms : List Nat} (h : St t i ms) (h1 : t[i]? = some 125) (h2 : t[i + 1]? = some 47) {s : Nat} (hs : s ≤ 4096) (hsp : span t (i + 2) = decDigits s) (hl : i + 2 + (decDigits s).length = t.length) (hla : lastR ms < s) : parR t = ofR s (ints ms) := by
  have hm : ∀ x ∈ ms, x < s := fun x hx => by have := lastR_le h.asc x hx; omega
  have hd : t.drop (i + 2) = decDigits s := by
    have hpre : (decDigits s) <+: t.drop (i + 2) := by rw [← hsp]; exact List.takeWhile_prefix _
    exact (hpre.eq_of_length (by rw [List.length_drop]; omega)).symm
  have hl2 : i + 1 < t.length := by
    rcases Nat.lt_or_ge (i + 1) t.length with h | h
    · exact h
    · rw [List.getElem?_eq_none h] at h2; cases h2
  have ht : t = 123 :: (more false ms ++ (125 :: 47 :: decDigits s)) := by
    have e := List.take_append_drop (i + 2) t
    rw [hd, show i + 2 = (i + 1) + 1 from rfl, List.take_add_one, List.take_add_one, h.pre, h1, h2] at e
    rw [← e]
    simp
  have ho := of_ints hs hm
  refine of_par (by rw [ho]) ?_
  rw [ho]
  show textR (s : Int) _ = t
  rw [text_more (Bs.mk_vld s _ hs), memb_mk hs h.asc hm, ← ht]
theorem St.fin_of {t : List UInt8} {i : Nat} {ms : List Nat} (h : St t i ms) {m : Nat} {ws : List Nat} (ht : isText t m ws) (h1 : t.length ≤ i ∨ t[i]? = some 125) : t[i]? = some 125 ∧ t[i + 1]? = some 47 ∧ i + 1 < t.length ∧ numR t (i + 2) = ((m : Int), (t.length : Int)) ∧ lastR ms < m := by
  obtain ⟨hm, htl⟩ := h.off ht h1
  obtain ⟨e1, e2⟩ := at_cons htl
  obtain ⟨e3, e4⟩ := at_cons e2
  have hm4 := (text_open ht).2
  have hlen := congrArg List.length e4
  rw [List.length_drop] at hlen
  have hdl := List.length_pos_iff.2 (dec_ne m)
  refine ⟨e1, e3, by omega, ?_, ?_⟩
  · rw [numR_dec (n := m) (r := []) (by rw [List.append_nil]; exact e4) (fun c hc => by cases hc) hm4]
    rw [show i + 1 + 1 = i + 2 from rfl] at hlen
    rw [show i + 2 + (decDigits m).length = t.length by omega]
  · rcases lastR_mem ms with e | ⟨y, hy, e⟩
    · rw [e]; omega
    · rw [e]
      rw [← hm] at hy
      unfold membR at hy
      rw [if_pos ht.1, Int.toNat_natCast] at hy
      have := List.mem_range.1 (List.mem_filter.1 hy).1
      omega
end Tx
end Go.Proofs.YtpapbpekihgnlaaDoor
