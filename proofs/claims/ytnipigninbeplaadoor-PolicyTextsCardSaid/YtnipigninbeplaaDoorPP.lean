/-
  The walk over the reference's shaped.
  The reference's state in memory.
-/
import Derived.Test.YtnipigninbeplaaDoorPK
import Derived.Test.YtnipigninbeplaaDoorPI
namespace Go.Proofs.YtnipigninbeplaaDoor
open Go.RowKit

/-- Two words. -/
def twoB : List ByteArray → Bool
  | [a, b] => isW a && isW b
  | _ => false
def obsB : List ByteArray → Bool
  | [a] => isW a
  | [a, b] => isW a && (b.toList == wTimed)
  | _ => false
/-- Have the tokens behind the key one of its forms? -/
def shapeB (k : ByteArray) (t : List ByteArray) : Bool :=
  if k.toList == wLevels then okL true t else if k.toList == wOrder then okO 1 t else if k.toList == wInput then twoB t
  else if k.toList == wHatch then twoB t else if k.toList == wObserve then obsB t else false
theorem rdToks_cons (s : Rd) (k : ByteArray) (t : List ByteArray) : rdToks s (k :: t) = if k.toList == wLevels then rdLevels s t else if k.toList == wOrder then rdOrder s t else if k.toList == wInput then rdInput s t
    else if k.toList == wHatch then rdHatch s t else if k.toList == wObserve then rdObserve s t else (6, s) := rfl
theorem shape_bad (s : Rd) (k : ByteArray) (t : List ByteArray) (h : shapeB k t = false) : rdToks s (k :: t) = (6, s) := by
  unfold shapeB at h
  rw [rdToks_cons]
  by_cases h1 : (k.toList == wLevels) = true
  · rw [if_pos h1] at h ⊢
    unfold rdLevels
    rw [items1_ok, h]
    rfl
  rw [if_neg h1] at h ⊢
  by_cases h2 : (k.toList == wOrder) = true
  · rw [if_pos h2] at h ⊢
    unfold rdOrder
    rw [items3_ok, h]
    rfl
  rw [if_neg h2] at h ⊢
  by_cases h3 : (k.toList == wInput) = true
  · rw [if_pos h3] at h ⊢
    match t, h with
    | [], _ => rfl
    | [_], _ => rfl
    | [a, b], h =>
      have h' : (isW a && isW b) = false := h
      rw [rdInput_two, if_neg (by rw [h']; decide)]
    | _ :: _ :: _ :: _, _ => rfl
  rw [if_neg h3] at h ⊢
  by_cases h4 : (k.toList == wHatch) = true
  · rw [if_pos h4] at h ⊢
    match t, h with
    | [], _ => rfl
    | [_], _ => rfl
    | [a, b], h =>
      have h' : (isW a && isW b) = false := h
      rw [rdHatch_two, if_neg (by rw [h']; decide)]
    | _ :: _ :: _ :: _, _ => rfl
  rw [if_neg h4] at h ⊢
  by_cases h5 : (k.toList == wObserve) = true
  · rw [if_pos h5] at h ⊢
    match t, h with
    | [], _ => rfl
    | [a], h =>
      have h' : isW a = false := h
      show seeS s a false = (6, s)
      unfold seeS
      rw [if_pos h']
    | [a, b], h =>
      have h' : (isW a && (b.toList == wTimed)) = false := h
      rw [Bool.and_eq_false_iff] at h'
      rcases h' with h | h
      · show (if b.toList == wTimed then seeS s a true else (6, s)) = _
        unfold seeS
        rw [if_pos h]
        split <;> rfl
      · show (if b.toList == wTimed then seeS s a true else (6, s)) = _
        rw [if_neg (by rw [h]; decide)]
    | _ :: _ :: _ :: _, _ => rfl
  rw [if_neg h5]
def odd (i : Nat) : Bool := decide (i % 2 = 1)
set_option maxRecDepth 100000 in
set_option maxHeartbeats 8000000 in
theorem shaped_b (k : ByteArray) (t : List ByteArray) (A : Option Addr) (n c : Nat) (hn : n ≤ 9000) (r : Bool) (H : Hid (shapeB k t = r)) (w : World) (hx : NOk w A n c (k :: t)) :
    Calls Tryd.prog 36 #[.slice A n c] w fun e w' => e = .returned (.bool r) ∧ w = w' := by
  obtain ⟨l, hl⟩ : ∃ l, k :: t = l := ⟨_, rfl⟩
  have HLL := Lib.hid hl
  rw [hl] at hx
  have HT := Lib.hid hx
  have HNL := Lib.hid hx.len
  have hn1 : 1 ≤ n := by have := hx.len; rw [← hl] at this; simp at this; omega
  have hni : (0 : Int) < (n : Int) := by omega
  obtain ⟨k', gA, fA, hk', _, hAA, _, kk0⟩ := hx.at 0 (by omega)
  rw [Nat.add_zero] at kk0
  subst hAA
  have ek : k' = k := by rw [← hl] at hk'; simpa using hk'.symm
  subst ek
  clear hk' hx hl
  by_cases h1 : (k'.toList == wLevels) = true
  · have HS0 : Hid (okL (odd 1) (l.drop 1) = r) := Lib.hid (by rw [← H.out]; unfold shapeB; rw [if_pos h1, ← HLL.out]; rfl)
    have g1 : (k'.toList == [108, 101, 118, 101, 108, 115]) = true := h1
    clear h1 H
    go_enter Tryd.func36, Tryd.ntmps36
    go_wp2_with fail
    clear g1 kk0
    go_loop [4] (fun v => ∃ i : Nat, 1 ≤ i ∧ i ≤ n ∧ v = .int .i64 i ∧ Hid (okL (odd i) (l.drop i) = r)) (fun v => n - (intOf v).toNat)
    case atStart => exact ⟨1, Nat.le_refl _, hn1, rfl, HS0⟩
    case round =>
    clear HS0
    obtain ⟨i, hi1, hin, rfl, HS⟩ := hrel
    have hi0 : (0 : Int) ≤ (i : Int) := by omega
    by_cases hit : i < n
    · have hit' : (i : Int) < (n : Int) := by omega
      obtain ⟨s1, g, f, hs1, _, hA, hg, k0⟩ := HT.out.at i (by omega)
      injection hA with hA
      injection hA with eg ef
      subst eg ef
      have HS1 : Hid (l.drop i = s1 :: l.drop (i + 1)) := Lib.hid (by
        have hl := (List.getElem?_eq_some_iff.1 hs1).1
        rw [List.drop_eq_getElem_cons hl, (List.getElem?_eq_some_iff.1 hs1).2])
      clear hs1
      by_cases h2 : i % 2 = 1
      · skip
        obtain ⟨b1, hb1⟩ : ∃ z, isW s1 = z := ⟨_, rfl⟩
        have HB1 := Lib.hid hb1
        have HST := HS.out
        rw [HS1.out, show odd i = true from by unfold odd; simp; omega] at HST
        have e0 : okL true (s1 :: l.drop (i + 1)) = (isW s1 && okL false (l.drop (i + 1))) := rfl
        rw [e0, hb1] at HST
        have HS2 := Lib.hid HST
        have hm : (i : Int) % 2 = 1 := by omega
        clear hb1 e0 HST HS
        cases b1 with
        | true =>
          have HN : Hid (okL (odd (i + 1)) (l.drop (i + 1)) = r) := Lib.hid (by rw [show odd (i + 1) = false from by unfold odd; simp; omega]; exact HS2.out)
          go_wp2_with (first | (go_at_call 64; refine (risWord_b s1 true HB1 _).mono ?_; rintro e wy ⟨rfl, rfl⟩) | fail)
          go_round
          case rel => exact ⟨i + 1, by omega, by omega, by go_num, HN⟩
          case measure => simp [intOf]; omega
        | false =>
          have hr : r = false := HS2.out.symm
          subst hr
          go_wp2_with (first | (go_at_call 64; refine (risWord_b s1 false HB1 _).mono ?_; rintro e wy ⟨rfl, rfl⟩) | fail)
          go_ret
          exact ⟨rfl, rfl⟩
      · skip
        obtain ⟨b1, hb1⟩ : ∃ z, isC s1 = z := ⟨_, rfl⟩
        have hb2 : (s1.toList == [44]) = b1 := hb1
        have HST := HS.out
        rw [HS1.out, show odd i = false from by unfold odd; simp; omega] at HST
        have e0 : okL false (s1 :: l.drop (i + 1)) = (isC s1 && okL true (l.drop (i + 1))) := rfl
        rw [e0, hb1] at HST
        have HS2 := Lib.hid HST
        have hm : (i : Int) % 2 = 0 := by omega
        clear hb1 e0 HST HS
        cases b1 with
        | true =>
          have HN : Hid (okL (odd (i + 1)) (l.drop (i + 1)) = r) := Lib.hid (by rw [show odd (i + 1) = true from by unfold odd; simp; omega]; exact HS2.out)
          go_wp2_with fail
          go_round
          case rel => exact ⟨i + 1, by omega, by omega, by go_num, HN⟩
          case measure => simp [intOf]; omega
        | false =>
          have hr : r = false := HS2.out.symm
          subst hr
          go_wp2_with fail
          go_ret
          exact ⟨rfl, rfl⟩
    · have hge : ¬ ((i : Int) < (n : Int)) := by omega
      obtain rfl : n = i := by omega
      have hr : r = !(odd n) := by
        have h := HS.out
        rw [List.drop_eq_nil_of_le (by rw [HNL.out]; exact Nat.le_refl _)] at h
        rw [← h]
        cases odd n <;> rfl
      clear HS
      by_cases h2 : n % 2 = 0
      · have hr2 : r = true := by rw [hr]; unfold odd; simp; omega
        subst hr2
        have hm : (n : Int) % 2 = 0 := by omega
        have hn2 : (2 : Int) ≤ (n : Int) := by omega
        clear hr h2
        go_wp2_with fail
        go_ret
        exact ⟨rfl, rfl⟩
      · have hr2 : r = false := by rw [hr]; unfold odd; simp; omega
        subst hr2
        clear hr
        by_cases hn2 : n = 1
        · have hn3 : ¬ (2 : Int) ≤ (n : Int) := by omega
          clear h2 hn2
          go_wp2_with fail
          go_ret
          exact ⟨rfl, rfl⟩
        · have hn3 : (2 : Int) ≤ (n : Int) := by omega
          have hm : (n : Int) % 2 = 1 := by omega
          clear h2 hn2
          go_wp2_with fail
          go_ret
          exact ⟨rfl, rfl⟩
  have g1 : (k'.toList == [108, 101, 118, 101, 108, 115]) = false := by rw [Bool.eq_false_iff]; exact h1
  by_cases h2 : (k'.toList == wOrder) = true
  · have HS0 : Hid (okO (1 % 4) (l.drop 1) = r) := Lib.hid (by rw [← H.out]; unfold shapeB; rw [if_neg h1, if_pos h2, ← HLL.out]; rfl)
    have g2 : (k'.toList == [111, 114, 100, 101, 114]) = true := h2
    clear h1 h2 H
    go_enter Tryd.func36, Tryd.ntmps36
    go_wp2_with fail
    clear g1 g2 kk0
    go_loop [5] (fun v => ∃ i : Nat, 1 ≤ i ∧ i ≤ n ∧ v = .int .i64 i ∧ Hid (okO (i % 4) (l.drop i) = r)) (fun v => n - (intOf v).toNat)
    case atStart => exact ⟨1, Nat.le_refl _, hn1, rfl, HS0⟩
    case round =>
    clear HS0
    obtain ⟨i, hi1, hin, rfl, HS⟩ := hrel
    have hi0 : (0 : Int) ≤ (i : Int) := by omega
    by_cases hit : i < n
    · have hit' : (i : Int) < (n : Int) := by omega
      obtain ⟨s1, g, f, hs1, _, hA, hg, k0⟩ := HT.out.at i (by omega)
      injection hA with hA
      injection hA with eg ef
      subst eg ef
      have HS1 : Hid (l.drop i = s1 :: l.drop (i + 1)) := Lib.hid (by
        have hl := (List.getElem?_eq_some_iff.1 hs1).1
        rw [List.drop_eq_getElem_cons hl, (List.getElem?_eq_some_iff.1 hs1).2])
      clear hs1
      obtain h4 | h4 | h4 | h4 : i % 4 = 1 ∨ i % 4 = 2 ∨ i % 4 = 3 ∨ i % 4 = 0 := by omega
      · skip
        obtain ⟨b1, hb1⟩ : ∃ z, isW s1 = z := ⟨_, rfl⟩
        have HB1 := Lib.hid hb1
        have HST := HS.out
        rw [HS1.out, show i % 4 = 1 from h4] at HST
        have e0 : okO 1 (s1 :: l.drop (i + 1)) = (isW s1 && okO 2 (l.drop (i + 1))) := rfl
        rw [e0, hb1] at HST
        have HS2 := Lib.hid HST
        have hm : (i : Int) % 4 = 1 := by omega
        clear h4
        clear hb1 e0 HST HS
        cases b1 with
        | true =>
          have HN : Hid (okO (((i + 1) % 4)) (l.drop (i + 1)) = r) := Lib.hid (by rw [show ((i + 1) % 4) = 2 from by omega]; exact HS2.out)
          go_wp2_with (first | (go_at_call 64; refine (risWord_b s1 true HB1 _).mono ?_; rintro e wy ⟨rfl, rfl⟩) | fail)
          go_round
          case rel => exact ⟨i + 1, by omega, by omega, by go_num, HN⟩
          case measure => simp [intOf]; omega
        | false =>
          have hr : r = false := HS2.out.symm
          subst hr
          go_wp2_with (first | (go_at_call 64; refine (risWord_b s1 false HB1 _).mono ?_; rintro e wy ⟨rfl, rfl⟩) | fail)
          go_ret
          exact ⟨rfl, rfl⟩
      · skip
        obtain ⟨b1, hb1⟩ : ∃ z, isLt s1 = z := ⟨_, rfl⟩
        have hb2 : (s1.toList == [60]) = b1 := hb1
        have HST := HS.out
        rw [HS1.out, show i % 4 = 2 from h4] at HST
        have e0 : okO 2 (s1 :: l.drop (i + 1)) = (isLt s1 && okO 3 (l.drop (i + 1))) := rfl
        rw [e0, hb1] at HST
        have HS2 := Lib.hid HST
        have hm : (i : Int) % 4 = 2 := by omega
        clear h4
        clear hb1 e0 HST HS
        cases b1 with
        | true =>
          have HN : Hid (okO (((i + 1) % 4)) (l.drop (i + 1)) = r) := Lib.hid (by rw [show ((i + 1) % 4) = 3 from by omega]; exact HS2.out)
          go_wp2_with fail
          go_round
          case rel => exact ⟨i + 1, by omega, by omega, by go_num, HN⟩
          case measure => simp [intOf]; omega
        | false =>
          have hr : r = false := HS2.out.symm
          subst hr
          go_wp2_with fail
          go_ret
          exact ⟨rfl, rfl⟩
      · skip
        obtain ⟨b1, hb1⟩ : ∃ z, isW s1 = z := ⟨_, rfl⟩
        have HB1 := Lib.hid hb1
        have HST := HS.out
        rw [HS1.out, show i % 4 = 3 from h4] at HST
        have e0 : okO 3 (s1 :: l.drop (i + 1)) = (isW s1 && okO 0 (l.drop (i + 1))) := rfl
        rw [e0, hb1] at HST
        have HS2 := Lib.hid HST
        have hm : (i : Int) % 4 = 3 := by omega
        clear h4
        clear hb1 e0 HST HS
        cases b1 with
        | true =>
          have HN : Hid (okO (((i + 1) % 4)) (l.drop (i + 1)) = r) := Lib.hid (by rw [show ((i + 1) % 4) = 0 from by omega]; exact HS2.out)
          go_wp2_with (first | (go_at_call 64; refine (risWord_b s1 true HB1 _).mono ?_; rintro e wy ⟨rfl, rfl⟩) | fail)
          go_round
          case rel => exact ⟨i + 1, by omega, by omega, by go_num, HN⟩
          case measure => simp [intOf]; omega
        | false =>
          have hr : r = false := HS2.out.symm
          subst hr
          go_wp2_with (first | (go_at_call 64; refine (risWord_b s1 false HB1 _).mono ?_; rintro e wy ⟨rfl, rfl⟩) | fail)
          go_ret
          exact ⟨rfl, rfl⟩
      · skip
        obtain ⟨b1, hb1⟩ : ∃ z, isC s1 = z := ⟨_, rfl⟩
        have hb2 : (s1.toList == [44]) = b1 := hb1
        have HST := HS.out
        rw [HS1.out, show i % 4 = 0 from h4] at HST
        have e0 : okO 0 (s1 :: l.drop (i + 1)) = (isC s1 && okO 1 (l.drop (i + 1))) := rfl
        rw [e0, hb1] at HST
        have HS2 := Lib.hid HST
        have hm : (i : Int) % 4 = 0 := by omega
        clear h4
        clear hb1 e0 HST HS
        cases b1 with
        | true =>
          have HN : Hid (okO (((i + 1) % 4)) (l.drop (i + 1)) = r) := Lib.hid (by rw [show ((i + 1) % 4) = 1 from by omega]; exact HS2.out)
          go_wp2_with fail
          go_round
          case rel => exact ⟨i + 1, by omega, by omega, by go_num, HN⟩
          case measure => simp [intOf]; omega
        | false =>
          have hr : r = false := HS2.out.symm
          subst hr
          go_wp2_with fail
          go_ret
          exact ⟨rfl, rfl⟩
    · have hge : ¬ ((i : Int) < (n : Int)) := by omega
      obtain rfl : n = i := by omega
      have hr : r = (n % 4 == 0) := by
        have h := HS.out
        rw [List.drop_eq_nil_of_le (by rw [HNL.out]; exact Nat.le_refl _)] at h
        rw [← h]
        unfold okO
        rfl
      clear HS
      by_cases h2 : n % 4 = 0
      · have hr2 : r = true := by rw [hr]; simpa using h2
        subst hr2
        have hm : (n : Int) % 4 = 0 := by omega
        have hn2 : (4 : Int) ≤ (n : Int) := by omega
        clear hr h2
        go_wp2_with fail
        go_ret
        exact ⟨rfl, rfl⟩
      · have hr2 : r = false := by rw [hr]; simpa using h2
        subst hr2
        clear hr
        by_cases hn2 : n < 4
        · have hn3 : ¬ (4 : Int) ≤ (n : Int) := by omega
          clear h2 hn2
          go_wp2_with fail
          go_ret
          exact ⟨rfl, rfl⟩
        · have hn3 : (4 : Int) ≤ (n : Int) := by omega
          have hm : ¬ (n : Int) % 4 = 0 := by omega
          have hmb : ((n : Int) % 4 == 0) = false := by rw [beq_eq_false_iff_ne]; exact hm
          clear h2 hn2
          go_wp2_with fail
          go_ret
          exact ⟨rfl, rfl⟩
  have g2 : (k'.toList == [111, 114, 100, 101, 114]) = false := by rw [Bool.eq_false_iff]; exact h2
  by_cases h3 : (k'.toList == wInput) = true ∨ (k'.toList == wHatch) = true
  · have HS0 : Hid (twoB t = r) := Lib.hid (by
      rw [← H.out]
      unfold shapeB
      rw [if_neg h1, if_neg h2]
      by_cases h5 : (k'.toList == wInput) = true
      · rw [if_pos h5]
      · rw [if_neg h5, if_pos (by rcases h3 with h | h; exact absurd h h5; exact h)])
    have HG3 : Hid ((k'.toList == [105, 110, 112, 117, 116]) = true ∨ ((k'.toList == [105, 110, 112, 117, 116]) = false ∧ (k'.toList == [104, 97, 116, 99, 104]) = true)) := Lib.hid (by
      by_cases h5 : (k'.toList == wInput) = true
      · exact .inl h5
      · exact .inr ⟨by rw [Bool.eq_false_iff]; exact h5, by rcases h3 with h | h; exact absurd h h5; exact h⟩)
    clear h1 h2 h3 H
    by_cases h3 : n = 3
    · obtain ⟨s1, g, f, hs1, _, hA, _, k1⟩ := HT.out.at 1 (by omega)
      injection hA with hA
      injection hA with eg ef
      subst eg ef
      obtain ⟨s2, g, f, hs2, _, hA, _, k2⟩ := HT.out.at 2 (by omega)
      injection hA with hA
      injection hA with eg ef
      subst eg ef
      have HTT : Hid (t = [s1, s2]) := Lib.hid (by
        have hl := HNL.out
        rw [← HLL.out] at hl hs1 hs2
        match t, hl, hs1, hs2 with
        | [p, q], _, h1, h2 =>
          simp at h1 h2
          rw [h1, h2]
        | [], hl, _, _ => simp at hl; omega
        | [_], hl, _, _ => simp at hl; omega
        | _ :: _ :: _ :: _, hl, _, _ => simp at hl; omega)
      obtain ⟨b1, hb1⟩ : ∃ z, isW s1 = z := ⟨_, rfl⟩
      obtain ⟨b2, hb2⟩ : ∃ z, isW s2 = z := ⟨_, rfl⟩
      have HB1 := Lib.hid hb1
      have HB2 := Lib.hid hb2
      have hr : (b1 && b2) = r := by
        have h := HS0.out
        rw [HTT.out] at h
        rw [← h, ← hb1, ← hb2]
        rfl
      have HRR := Lib.hid hr
      have hn3 : (n : Int) = 3 := by omega
      clear hb1 hb2 hs1 hs2 HS0 hr h3
      rcases HG3.out with g3 | ⟨g3, g4⟩
      all_goals
        cases b1 with
        | false =>
          have hr : r = false := HRR.out.symm
          subst hr
          go_enter Tryd.func36, Tryd.ntmps36
          go_wp2_with (first | (go_at_call 64; refine (risWord_b s1 false HB1 _).mono ?_; rintro e wy ⟨rfl, rfl⟩) | fail)
          go_ret
          exact ⟨rfl, rfl⟩
        | true =>
          have hr : r = b2 := HRR.out.symm
          subst hr
          have tok : True := trivial
          go_enter Tryd.func36, Tryd.ntmps36
          go_wp2_with (first | (go_at_call 64; first | (clear tok; refine (risWord_b s1 true HB1 _).mono ?_; rintro e wy ⟨rfl, rfl⟩) | (refine (risWord_b s2 r HB2 _).mono ?_; rintro e wy ⟨rfl, rfl⟩)) | fail)
          go_ret
          exact ⟨rfl, rfl⟩
    · have hr : r = false := by
        have hl := HNL.out
        rw [← HLL.out] at hl
        rw [← HS0.out]
        match t, hl with
        | [], _ => rfl
        | [_], _ => rfl
        | [_, _], hl => simp at hl; omega
        | _ :: _ :: _ :: _, _ => rfl
      subst hr
      have hn3 : ¬ (n : Int) = 3 := by omega
      have hn3b : ((n : Int) == 3) = false := by rw [beq_eq_false_iff_ne]; exact hn3
      clear HS0 h3
      rcases HG3.out with g3 | ⟨g3, g4⟩
      all_goals
        go_enter Tryd.func36, Tryd.ntmps36
        go_wp2_with fail
        go_ret
        exact ⟨rfl, rfl⟩
  have g3 : (k'.toList == [105, 110, 112, 117, 116]) = false := by rw [Bool.eq_false_iff]; exact fun h => h3 (.inl h)
  have g4 : (k'.toList == [104, 97, 116, 99, 104]) = false := by rw [Bool.eq_false_iff]; exact fun h => h3 (.inr h)
  by_cases h5 : (k'.toList == wObserve) = true
  · have HS0 : Hid (obsB t = r) := Lib.hid (by
      rw [← H.out]
      unfold shapeB
      rw [if_neg h1, if_neg h2, if_neg (fun h => h3 (.inl h)), if_neg (fun h => h3 (.inr h)), if_pos h5])
    have g5 : (k'.toList == [111, 98, 115, 101, 114, 118, 101]) = true := h5
    clear h1 h2 h3 h5 H
    by_cases h2 : n = 2
    · obtain ⟨s1, g, f, hs1, _, hA, _, k1⟩ := HT.out.at 1 (by omega)
      injection hA with hA
      injection hA with eg ef
      subst eg ef
      have HTT : Hid (t = [s1]) := Lib.hid (by
        have hl := HNL.out
        rw [← HLL.out] at hl hs1
        match t, hl, hs1 with
        | [p], _, h1 =>
          simp at h1
          rw [h1]
        | [], hl, _ => simp at hl; omega
        | _ :: _ :: _, hl, _ => simp at hl; omega)
      have hb1 : isW s1 = r := by have h := HS0.out; rw [HTT.out] at h; exact h
      have HB1 := Lib.hid hb1
      have hn2 : (n : Int) = 2 := by omega
      clear hb1 hs1 HS0 h2
      cases r with
      | false =>
        go_enter Tryd.func36, Tryd.ntmps36
        go_wp2_with (first | (go_at_call 64; refine (risWord_b s1 false HB1 _).mono ?_; rintro e wy ⟨rfl, rfl⟩) | fail)
        go_ret
        exact ⟨rfl, rfl⟩
      | true =>
        go_enter Tryd.func36, Tryd.ntmps36
        go_wp2_with (first | (go_at_call 64; refine (risWord_b s1 true HB1 _).mono ?_; rintro e wy ⟨rfl, rfl⟩) | fail)
        go_ret
        exact ⟨rfl, rfl⟩
    have hn2 : ¬ (n : Int) = 2 := by omega
    have hn2b : ((n : Int) == 2) = false := by rw [beq_eq_false_iff_ne]; exact hn2
    by_cases h3 : n = 3
    · obtain ⟨s1, g, f, hs1, _, hA, _, k1⟩ := HT.out.at 1 (by omega)
      injection hA with hA
      injection hA with eg ef
      subst eg ef
      obtain ⟨s2, g, f, hs2, _, hA, _, k2⟩ := HT.out.at 2 (by omega)
      injection hA with hA
      injection hA with eg ef
      subst eg ef
      have HTT : Hid (t = [s1, s2]) := Lib.hid (by
        have hl := HNL.out
        rw [← HLL.out] at hl hs1 hs2
        match t, hl, hs1, hs2 with
        | [p, q], _, h1, h2 =>
          simp at h1 h2
          rw [h1, h2]
        | [], hl, _, _ => simp at hl; omega
        | [_], hl, _, _ => simp at hl; omega
        | _ :: _ :: _ :: _, hl, _, _ => simp at hl; omega)
      obtain ⟨b1, hb1⟩ : ∃ z, isW s1 = z := ⟨_, rfl⟩
      obtain ⟨b2, hb2⟩ : ∃ z, (s2.toList == wTimed) = z := ⟨_, rfl⟩
      have HB1 := Lib.hid hb1
      have hr : (b1 && b2) = r := by
        have h := HS0.out
        rw [HTT.out] at h
        rw [← h, ← hb1, ← hb2]
        rfl
      have HRR := Lib.hid hr
      have hbt : (s2.toList == [116, 105, 109, 101, 100]) = b2 := hb2
      subst h3
      clear hb1 hb2 hs1 hs2 HS0 hr hn2 hn2b h2
      cases b1 with
      | false =>
        have hr : r = false := HRR.out.symm
        subst hr
        clear hbt
        go_enter Tryd.func36, Tryd.ntmps36
        go_wp2_with (first | (go_at_call 64; refine (risWord_b s1 false HB1 _).mono ?_; rintro e wy ⟨rfl, rfl⟩) | fail)
        go_ret
        exact ⟨rfl, rfl⟩
      | true =>
        have hr : b2 = r := HRR.out
        subst hr
        cases b2 with
        | false =>
          go_enter Tryd.func36, Tryd.ntmps36
          go_wp2_with (first | (go_at_call 64; refine (risWord_b s1 true HB1 _).mono ?_; rintro e wy ⟨rfl, rfl⟩) | fail)
          go_ret
          exact ⟨rfl, rfl⟩
        | true =>
          go_enter Tryd.func36, Tryd.ntmps36
          go_wp2_with (first | (go_at_call 64; refine (risWord_b s1 true HB1 _).mono ?_; rintro e wy ⟨rfl, rfl⟩) | fail)
          go_ret
          exact ⟨rfl, rfl⟩
    · have hr : r = false := by
        have hl := HNL.out
        rw [← HLL.out] at hl
        rw [← HS0.out]
        match t, hl with
        | [], _ => rfl
        | [_], hl => simp at hl; omega
        | [_, _], hl => simp at hl; omega
        | _ :: _ :: _ :: _, _ => rfl
      subst hr
      have hn3 : ¬ (n : Int) = 3 := by omega
      have hn3b : ((n : Int) == 3) = false := by rw [beq_eq_false_iff_ne]; exact hn3
      clear HS0 h3 h2
      go_enter Tryd.func36, Tryd.ntmps36
      go_wp2_with fail
      go_ret
      exact ⟨rfl, rfl⟩
  have g5 : (k'.toList == [111, 98, 115, 101, 114, 118, 101]) = false := by rw [Bool.eq_false_iff]; exact h5
  obtain rfl : r = false := by
    rw [← H.out]
    unfold shapeB
    rw [if_neg h1, if_neg h2, if_neg (fun h => h3 (.inl h)), if_neg (fun h => h3 (.inr h)), if_neg h5]
  clear H h1 h2 h3 h5
  go_enter Tryd.func36, Tryd.ntmps36
  go_wp2_with fail
  go_ret
  exact ⟨rfl, rfl⟩

def bI (b : Bool) : Int := if b then 1 else 0
/-- The state's rows. -/
structure Ro (B : Nat) (W : World) (V : Nat → Value) (s : Rd) : Prop where
  row : ∀ k, k < 4 → W.ownsRow B (rE k) (rS k) (V k) (rN s.p k) (rX s.p k)
  ap : ∀ j k, j < 4 → k < 4 → j ≠ k → (V j).ownBlock = none ∨ (V j).ownBlock ≠ (V k).ownBlock
theorem Ro.next {B : Nat} {W W' : World} {V : Nat → Value} {s : Rd} (h : Ro B W V s) (hb : Below W.heap.size W W') : Ro B W' V s :=
  ⟨fun k hk => own_frS (h.row k hk) (Fr.of (S := fun _ => False) hb) (fun _ _ h => h), h.ap⟩
theorem Ro.own {B : Nat} {W : World} {V : Nat → Value} {s : Rd} (h : Ro B W V s) {k x : Nat} (hk : k < 4) (hx : (V k).ownBlock = some x) : B ≤ x ∧ x < W.heap.size := (h.row k hk).lt x hx
/-- The state in a block bx of its own; the blocks Q are not touched. -/
structure Rb (Q : List (Nat × Obj)) (B bx : Nat) (w W : World) (V : Nat → Value) (s : Rd) (lv ov : Int) : Prop where
  bel : Below B w W
  cs : Cs W bx [V 0, V 1, V 2, V 3, .int .i64 s.p.obs, .bool s.p.timed, .int .i64 lv, .int .i64 ov]
  ro : Ro B W V s
  lt : B ≤ bx
  nb : ∀ k, k < 4 → (V k).ownBlock ≠ some bx
  kp : ∀ q ∈ Q, W.heap[q.1]? = some q.2 ∧ q.1 ≠ bx ∧ ∀ k, k < 4 → (V k).ownBlock ≠ some q.1
section
variable {Q : List (Nat × Obj)} {B bx : Nat} {w W W' : World} {V : Nat → Value} {s : Rd} {lv ov : Int}
theorem Rb.next (h : Rb Q B bx w W V s lv ov) (hb : Below W.heap.size W W') : Rb Q B bx w W' V s lv ov :=
  ⟨h.bel.trans (hb.mono (Nat.le_trans h.lt (Nat.le_of_lt h.cs.lt))), h.cs.next hb, h.ro.next hb, h.lt, h.nb, fun q hq => ⟨kp_fr (K := q) (h.kp q hq).1 (Fr.of (S := fun _ => False) hb) (fun h => h), (h.kp q hq).2⟩⟩
theorem Rb.own (h : Rb Q B bx w W V s lv ov) {k x : Nat} (hk : k < 4) (hx : (V k).ownBlock = some x) : B ≤ x ∧ x < W.heap.size := h.ro.own hk hx
/-- A cell of the state that is no row's is written. -/
theorem Rb.field (h : Rb Q B bx w W V s lv ov) (i : Nat) (v : Value) (s' : Rd) (lv' ov' : Int) (hp : ∀ k, k < 4 → rN s'.p k = rN s.p k ∧ rX s'.p k = rX s.p k)
    (hc : [V 0, V 1, V 2, V 3, Value.int .i64 s.p.obs, .bool s.p.timed, .int .i64 lv, .int .i64 ov].set i v = [V 0, V 1, V 2, V 3, Value.int .i64 s'.p.obs, .bool s'.p.timed, .int .i64 lv', .int .i64 ov']) (hi : i < 8) :
    Rb Q B bx w (W.setCell ⟨bx, i, none⟩ v) V s' lv' ov' := by
  refine ⟨h.bel.setCell h.lt _, ?_, ⟨fun k hk => ?_, h.ro.ap⟩, h.lt, h.nb, fun q hq => ⟨kp_fr (K := q) (h.kp q hq).1 (Fr.setCell (S := (· = bx)) (Fr.refl _ _) (p := ⟨bx, i, none⟩) rfl v) (h.kp q hq).2.1, (h.kp q hq).2⟩⟩
  · rw [← hc]
    exact h.cs.set i v (by simpa using hi)
  · rw [(hp k hk).1, (hp k hk).2]
    exact own_frS (h.ro.row k hk) (Fr.setCell (S := (· = bx)) (Fr.refl _ _) (p := ⟨bx, i, none⟩) rfl v) (fun x hx hs => h.nb k hk (by rw [hx, hs]))
/-- A row has grown. -/
theorem Rb.push {W2 : World} {a g cap : Nat} {news : List Value} {o : Obj} (h : Rb Q B bx w W V s lv ov) (ha : a < 4) (hg : (W.alloc o).grownBy W2 (V a).ownBlock)
    (ho : W2.ownsRow B (rE a) (rS a) (.slice (some ⟨g, 0, none⟩) (rN s.p a + 1) cap) (rN s.p a + 1) (rX s.p a ++ news)) (hat : (V a).ownBlock = some g ∨ g = W.heap.size + 1) (s' : Rd)
    (h1 : rN s'.p a = rN s.p a + 1) (h2 : rX s'.p a = rX s.p a ++ news) (hp : ∀ k, k < 4 → k ≠ a → rN s'.p k = rN s.p k ∧ rX s'.p k = rX s.p k) (hf : s'.p.obs = s.p.obs ∧ s'.p.timed = s.p.timed) :
    Rb Q B bx w (W2.setCell ⟨bx, a, none⟩ (.slice (some ⟨g, 0, none⟩) (rN s.p a + 1) cap)) (fun k => if k = a then .slice (some ⟨g, 0, none⟩) (rN s.p a + 1) cap else V k) s' lv ov := by
  have hs2 := hg.size
  have hlt := h.cs.lt
  have hsa : (W.alloc o).heap.size = W.heap.size + 1 := by simp
  have hba : Below W.heap.size W (W.alloc o) := (Below.refl _ _).alloc (Nat.le_refl _) _
  have h1' := h.next hba
  have hfw : Fr (· = bx) W2 (W2.setCell ⟨bx, a, none⟩ (.slice (some ⟨g, 0, none⟩) (rN s.p a + 1) cap)) := Fr.setCell (S := (· = bx)) (Fr.refl _ _) (p := ⟨bx, a, none⟩) rfl _
  have hgb : g ≠ bx := fun e => by
    rcases hat with hat | hat
    · exact h.nb a ha (by rw [hat, e])
    · omega
  have hne : ∀ k, k < 4 → k ≠ a → (V k).ownBlock = none ∨ (V k).ownBlock ≠ some g := fun k hk hka => by
    rcases hat with hat | hat
    · rw [← hat]; exact h.ro.ap k a hk ha hka
    · refine .inr fun e => ?_
      have := (h.own hk e).2
      omega
  have hlt' := h.lt
  refine ⟨(h1'.bel.grown hg (by omega) (fun q hq => (h.own ha hq).1)).setCell h.lt _, ?_, ⟨fun k hk => ?_, fun j k hj hk hjk => ?_⟩, h.lt, fun k hk => ?_, fun q hq => ⟨kp_fr (K := q) (kp_fr (K := q) (h1'.kp q hq).1 (Fr.grew hg) ((h.kp q hq).2.2 a ha)) hfw (h.kp q hq).2.1, (h.kp q hq).2.1, fun k hk => ?_⟩⟩
  · have hc := (cs_grown h1'.cs hg (h.nb a ha)).set a (.slice (some ⟨g, 0, none⟩) (rN s.p a + 1) cap) (by simp; omega)
    rw [hf.1, hf.2]
    match a, ha with
    | 0, _ => exact hc
    | 1, _ => exact hc
    | 2, _ => exact hc
    | 3, _ => exact hc
  · by_cases e : k = a
    · subst e
      simp only [if_pos]
      rw [h1, h2]
      exact own_frS ho hfw (fun x hx hs => hgb (by cases hx; exact hs))
    · simp only [if_neg e]
      rw [(hp k hk e).1, (hp k hk e).2]
      refine own_frS (own_frS (h1'.ro.row k hk) (Fr.grew hg) (fun x hx hs => ?_)) hfw (fun x hx hs => h.nb k hk (by rw [hx, hs]))
      rcases h.ro.ap k a hk ha e with h3 | h3
      · rw [h3] at hx; cases hx
      · exact h3 (by rw [hx, hs])
  · by_cases e1 : j = a
    · by_cases e2 : k = a
      · omega
      · simp only [if_pos e1, if_neg e2]
        refine .inr fun e => ?_
        rcases hne k hk e2 with h3 | h3
        · rw [h3] at e; simp [Value.ownBlock] at e
        · exact h3 e.symm
    · by_cases e2 : k = a
      · simp only [if_neg e1, if_pos e2]
        exact hne j hj e1
      · simp only [if_neg e1, if_neg e2]
        exact h.ro.ap j k hj hk hjk
  · by_cases e : k = a
    · simp only [if_pos e]
      intro e2
      injection e2 with e2
      exact hgb e2
    · simp only [if_neg e]
      exact h.nb k hk
  · have hkl := (Array.getElem?_eq_some_iff.1 (h.kp q hq).1).1
    by_cases e : k = a
    · simp only [if_pos e]
      intro e2
      injection e2 with e2
      have e3 : g = q.1 := e2
      rcases hat with hat | hat
      · exact (h.kp q hq).2.2 a ha (by rw [hat, e3])
      · omega
    · simp only [if_neg e]
      exact (h.kp q hq).2.2 k hk
end
/-- The cells of a kept block. -/
theorem kept_cell {W W' : World} {g i : Nat} {v : Value} (h : W'.heap[g]? = W.heap[g]?) (hc : W.cell? ⟨g, i, none⟩ = some v) : W'.cell? ⟨g, i, none⟩ = some v := (World.cell?_of_block (w := W) (a := ⟨g, i, none⟩) h).trans hc
/-- Eight cells, written one after another. -/
theorem eight_cells {W : World} {b : Nat} {a0 a1 a2 a3 a4 a5 a6 a7 : Value} (h : Cs W b [a0, a1, a2, a3, a4, a5, a6, a7]) (v0 v1 v2 v3 v4 v5 v6 v7 : Value) :
    (W.setCell ⟨b, 0, none⟩ v0).cell? ⟨b, 0, none⟩ = some v0 ∧ ((W.setCell ⟨b, 0, none⟩ v0).setCell ⟨b, 1, none⟩ v1).cell? ⟨b, 1, none⟩ = some v1 ∧ (((W.setCell ⟨b, 0, none⟩ v0).setCell ⟨b, 1, none⟩ v1).setCell ⟨b, 2, none⟩ v2).cell? ⟨b, 2, none⟩ = some v2 ∧
    ((((W.setCell ⟨b, 0, none⟩ v0).setCell ⟨b, 1, none⟩ v1).setCell ⟨b, 2, none⟩ v2).setCell ⟨b, 3, none⟩ v3).cell? ⟨b, 3, none⟩ = some v3 ∧
    (((((W.setCell ⟨b, 0, none⟩ v0).setCell ⟨b, 1, none⟩ v1).setCell ⟨b, 2, none⟩ v2).setCell ⟨b, 3, none⟩ v3).setCell ⟨b, 4, none⟩ v4).cell? ⟨b, 4, none⟩ = some v4 ∧
    (sixW W b v0 v1 v2 v3 v4 v5).cell? ⟨b, 5, none⟩ = some v5 ∧ ((sixW W b v0 v1 v2 v3 v4 v5).setCell ⟨b, 6, none⟩ v6).cell? ⟨b, 6, none⟩ = some v6 ∧
    (((sixW W b v0 v1 v2 v3 v4 v5).setCell ⟨b, 6, none⟩ v6).setCell ⟨b, 7, none⟩ v7).cell? ⟨b, 7, none⟩ = some v7 := by
  have h1 := h.set 0 v0 (by simp)
  have h2 := h1.set 1 v1 (by simp)
  have h3 := h2.set 2 v2 (by simp)
  have h4 := h3.set 3 v3 (by simp)
  have h5 := h4.set 4 v4 (by simp)
  have h6 := h5.set 5 v5 (by simp)
  have h7 := h6.set 6 v6 (by simp)
  have h8 := h7.set 7 v7 (by simp)
  exact ⟨h1.at 0 _ rfl, h2.at 1 _ rfl, h3.at 2 _ rfl, h4.at 3 _ rfl, h5.at 4 _ rfl, h6.at 5 _ rfl, h7.at 6 _ rfl, h8.at 7 _ rfl⟩
/-- The world behind them. -/
def eightW (W : World) (b : Nat) (v0 v1 v2 v3 v4 v5 v6 v7 : Value) : World := ((sixW W b v0 v1 v2 v3 v4 v5).setCell ⟨b, 6, none⟩ v6).setCell ⟨b, 7, none⟩ v7
theorem eight_fr {W W' : World} {b : Nat} (h : Fr (· = b) W W') (v0 v1 v2 v3 v4 v5 v6 v7 : Value) : Fr (· = b) W (eightW W' b v0 v1 v2 v3 v4 v5 v6 v7) :=
  ((six_fr h v0 v1 v2 v3 v4 v5).setCell (p := ⟨b, 6, none⟩) rfl _).setCell (p := ⟨b, 7, none⟩) rfl _
/-- What a line hands back: the state is of interest after no error alone. -/
def RsRes (B : Nat) (w : World) (x : Int × Rd) (e : Ending) (W' : World) : Prop :=
  Below B w W' ∧ ∃ (A0 A1 A2 A3 : Option Addr) (m0 q0 m1 q1 m2 q2 m3 q3 : Nat) (ob : Int) (tm : Bool) (lv ov : Int), e = .returned (.tuple #[.agg #[.slice A0 m0 q0, .slice A1 m1 q1, .slice A2 m2 q2, .slice A3 m3 q3, .int .i64 ob, .bool tm, .int .i64 lv, .int .i64 ov], .int .i64 x.1]) ∧
    (x.1 = 0 → ∃ V : Nat → Value, Ro B W' V x.2 ∧ (V 0 = .slice A0 m0 q0 ∧ V 1 = .slice A1 m1 q1 ∧ V 2 = .slice A2 m2 q2 ∧ V 3 = .slice A3 m3 q3) ∧ ob = x.2.p.obs ∧ tm = x.2.p.timed ∧ lv = bI x.2.sorted ∧ ov = bI x.2.seen)
/-- The end: the state is written to the result's block br. -/
theorem Rb.res {Q : List (Nat × Obj)} {B bx br : Nat} {ob : Obj} {w W : World} {V : Nat → Value} {s : Rd} {lv ov : Int} (h : Rb Q B bx w W V s lv ov) (hq : (br, ob) ∈ Q) (hbr : B ≤ br) (c : Int) (x : Int × Rd) (hc : x.1 = c)
    (hx : c = 0 → x.2 = s ∧ lv = bI s.sorted ∧ ov = bI s.seen) :
    RsRes B w x (.returned (.tuple #[.agg #[V 0, V 1, V 2, V 3, .int .i64 s.p.obs, .bool s.p.timed, .int .i64 lv, .int .i64 ov], .int .i64 c])) ((eightW W br (V 0) (V 1) (V 2) (V 3) (.int .i64 s.p.obs) (.bool s.p.timed) (.int .i64 lv) (.int .i64 ov))) := by
  have hf : Fr (· = br) W (eightW W br (V 0) (V 1) (V 2) (V 3) (.int .i64 s.p.obs) (.bool s.p.timed) (.int .i64 lv) (.int .i64 ov)) := eight_fr (Fr.refl _ _) _ _ _ _ _ _ _ _
  obtain ⟨A0, q0, e0⟩ := own_shape (h.ro.row 0 (by omega))
  obtain ⟨A1, q1, e1⟩ := own_shape (h.ro.row 1 (by omega))
  obtain ⟨A2, q2, e2⟩ := own_shape (h.ro.row 2 (by omega))
  obtain ⟨A3, q3, e3⟩ := own_shape (h.ro.row 3 (by omega))
  refine ⟨hf.below h.bel (fun k hk => by rw [hk]; exact hbr) (Nat.le_trans h.lt (Nat.le_of_lt h.cs.lt)), A0, A1, A2, A3, _, q0, _, q1, _, q2, _, q3, _, _, _, _, by rw [hc, e0, e1, e2, e3], fun h0 => ?_⟩
  obtain ⟨e, e4, e5⟩ := hx (hc ▸ h0)
  refine ⟨V, ⟨fun k hk => ?_, h.ro.ap⟩, ⟨e0, e1, e2, e3⟩, ?_, ?_, ?_, ?_⟩
  · rw [e]
    exact own_frS (h.ro.row k hk) hf (fun y hy hs => (h.kp _ hq).2.2 k hk (by rw [hy, hs]))
  · rw [e]
  · rw [e]
  · rw [e, e4]
  · rw [e, e5]
theorem Cs.kept {W W' : World} {b : Nat} {vs : List Value} (h : Cs W b vs) (hk : W'.heap[b]? = W.heap[b]?) : Cs W' b vs :=
  ⟨(Array.getElem?_eq_some_iff.1 (hk.trans (Array.getElem?_eq_getElem h.lt))).1, fun j u hu => kept_cell hk (h.cell j u hu), fun j => (World.frozen?_of_block (w := W) (a := ⟨b, j, none⟩) hk).trans (h.free j)⟩
def stZ : Obj := .cells #[.slice none 0 0, .slice none 0 0, .slice none 0 0, .slice none 0 0, .int .i64 0, .bool false, .int .i64 0, .int .i64 0] 81
/-- Where a line begins: the state's block and the result's. -/
theorem rb_start {B : Nat} {W : World} {V : Nat → Value} {s : Rd} {lv ov : Int} {g : Nat} (h : Ro B W V s) (hB : B ≤ W.heap.size) (hg : g < W.heap.size) (hgv : ∀ i, i < 4 → (V i).ownBlock ≠ some g) :
    ∃ (og : Obj), W.heap[g]? = some og ∧ ∀ w1, (W.alloc (.cells #[V 0, V 1, V 2, V 3, .int .i64 s.p.obs, .bool s.p.timed, .int .i64 lv, .int .i64 ov] 81)).alloc stZ = w1 →
      Rb [(g, og), (W.heap.size + 1, stZ)] B W.heap.size W w1 V s lv ov ∧ Cs w1 (W.heap.size + 1) [.slice none 0 0, .slice none 0 0, .slice none 0 0, .slice none 0 0, .int .i64 0, .bool false, .int .i64 0, .int .i64 0] ∧ w1.heap[W.heap.size + 1]? = some stZ := by
  refine ⟨_, Array.getElem?_eq_getElem hg, fun w1 hw1 => ?_⟩
  subst hw1
  obtain ⟨o1, ho1⟩ : ∃ z, Obj.cells #[V 0, V 1, V 2, V 3, .int .i64 s.p.obs, .bool s.p.timed, .int .i64 lv, .int .i64 ov] 81 = z := ⟨_, rfl⟩
  have e1 : (W.alloc o1).heap.size = W.heap.size + 1 := by simp
  have hb : Below W.heap.size W ((W.alloc o1).alloc stZ) := ((Below.refl _ _).alloc (Nat.le_refl _) _).alloc (by omega) _
  have hz := heap_new (W.alloc o1) stZ
  rw [e1] at hz
  rw [ho1]
  refine ⟨⟨hb.mono hB, ?_, h.next hb, hB, fun k hk e => by have := (h.own hk e).2; omega, fun q hq => ?_⟩, ?_, hz⟩
  · rw [← ho1]
    exact (Cs.new W #[V 0, V 1, V 2, V 3, .int .i64 s.p.obs, .bool s.p.timed, .int .i64 lv, .int .i64 ov] 81).alloc stZ
  · simp only [List.mem_cons, List.not_mem_nil, or_false] at hq
    rcases hq with rfl | rfl
    · refine ⟨(hb.block g hg).trans (Array.getElem?_eq_getElem hg), ?_, hgv⟩
      show g ≠ W.heap.size
      omega
    · refine ⟨hz, ?_, fun k hk e => ?_⟩
      · show W.heap.size + 1 ≠ W.heap.size
        omega
      · have := (h.own hk e).2
        simp only at this
        omega
  · have hc := Cs.new (W.alloc o1) #[.slice none 0 0, .slice none 0 0, .slice none 0 0, .slice none 0 0, .int .i64 0, .bool false, .int .i64 0, .int .i64 0] 81
    rw [e1] at hc
    exact hc
end Go.Proofs.YtnipigninbeplaaDoor
