/-
  The walks over termCode and the small functions of values.
-/
import Derived.Test.YtjpjmoejdkmglaaGreatFlH
namespace Go.Proofs.YtjpjmoejdkmglaaGreat
open Go.RowKit

/-- The code of a term. -/
def termC (vs : List Vr) (inp : Bool) (t : Tm) : Int := if formedB vs inp t = false then 1 else if (rangedP vs t).isSome = false then 3 else 0

set_option maxHeartbeats 1000000 in
theorem termCode_b (vs : List Vr) (hvb : vB vs) (Av : Option Addr) (lv cv : Nat) (inp : Bool) (o n : Int) (ks : List Tm) (l : Nat) (A : Option Addr) (c : Nat) (w : World) (r : Int) (hl : ks.length = l) (ht : TOk w A c ks) (hv : VOk w Av lv cv vs) (H : Hid (termC vs inp (.mk o n ks) = r)) :
    Calls Tryz.prog 65 #[.slice Av lv cv, .agg #[.int .i64 o, .int .i64 n, .slice A l c], .bool inp] w fun e w' => e = .returned (.int .i64 r) ∧ Below w.heap.size w w' := by
  have HL := Lib.hid hl
  have HT := Lib.hid ht
  have HV := Lib.hid hv
  have HVB := Lib.hid hvb
  have HB := Lib.hid (boxT_below w o n A l c)
  have HC := Lib.hid (boxT_cs w o n A l c)
  obtain ⟨x, hx⟩ : ∃ x, formedB vs inp (.mk o n ks) = x := ⟨_, rfl⟩
  obtain ⟨y, hy⟩ : ∃ y, rangedP vs (.mk o n ks) = y := ⟨_, rfl⟩
  have HX := Lib.hid hx
  have HY := Lib.hid hy
  clear hl ht hv hvb
  go_enter Tryz.func65, Tryz.ntmps65
  go_wp2_with fail
  go_at_call 89
  refine (formed_any vs Av lv cv _ o n ks l A c inp _ x HL.out (Nat.le_refl _) (HT.out.below HB.out) (HV.out.below HB.out) HX).mono ?_
  rintro e w2 ⟨rfl, hb⟩
  have HC2 := Lib.hid (HC.out.next hb)
  have HB2 := Lib.hid (HB.out.trans (hb.mono HB.out.size))
  clear hb HC HB
  have r0 := HC2.out.at 0 _ rfl
  have r1 := HC2.out.at 1 _ rfl
  have r2 := HC2.out.at 2 _ rfl
  cases x with
  | false =>
    have hr : r = 1 := by rw [← H.out]; unfold termC; rw [if_pos hx]
    subst hr
    clear H hx hy
    go_wp2_with fail
    go_ret
    exact ⟨rfl, HB2.out⟩
  | true =>
    have hr : r = if y.isSome = false then 3 else 0 := by rw [← H.out]; unfold termC; rw [if_neg (by rw [hx]; simp), hy]
    clear H hx hy
    go_wp2_with fail
    go_at_call 90
    refine (ranged_any vs HVB.out Av lv cv inp _ o n ks l A c _ y HL.out (Nat.le_refl _) (HT.out.below HB2.out) (HV.out.below HB2.out) HX HY).mono ?_
    rintro e w3 ⟨⟨a, b, rfl, _⟩, hb⟩
    have HB3 := Lib.hid (HB2.out.trans (hb.mono HB2.out.size))
    have HB4 := Lib.hid (HB3.out.alloc HB3.out.size (.cells #[.int .i64 a, .int .i64 b] 132))
    clear hb r0 r1 r2
    cases y with
    | none =>
      have hr' : r = 3 := hr
      subst hr'
      clear hr
      simp only [Option.isSome_none]
      go_wp2_with fail
      go_ret
      exact ⟨rfl, HB4.out⟩
    | some z =>
      have hr' : r = 0 := hr
      subst hr'
      clear hr
      simp only [Option.isSome_some]
      go_wp2_with fail
      go_ret
      exact ⟨rfl, HB4.out⟩

def flagP (b : Bool) : Int := if b then 1 else 0
set_option maxHeartbeats 400000 in
theorem flag_b (b : Bool) (w : World) : Calls Tryz.prog 71 #[.bool b] w fun e w' => e = .returned (.int .i64 (flagP b)) ∧ w = w' := by
  cases b
  · go_enter Tryz.func71, Tryz.ntmps71
    go_wp2_with fail
    go_ret
    exact ⟨rfl, rfl⟩
  · go_enter Tryz.func71, Tryz.ntmps71
    go_wp2_with fail
    go_ret
    exact ⟨rfl, rfl⟩
def clampP (n lo hi : Int) : Int := min (max n lo) hi
set_option maxHeartbeats 400000 in
theorem clamp_b (n lo hi r : Int) (H : Hid (clampP n lo hi = r)) (w : World) : Calls Tryz.prog 40 #[.int .i64 n, .int .i64 lo, .int .i64 hi] w fun e w' => e = .returned (.int .i64 r) ∧ w = w' := by
  have hr : r = if hi < (if n < lo then lo else n) then hi else (if n < lo then lo else n) := by
    rw [← H.out]; unfold clampP; split <;> split <;> omega
  clear H
  by_cases h0 : n < lo
  · rw [if_pos h0] at hr
    by_cases h1 : hi < lo
    · rw [if_pos h1] at hr
      subst hr
      go_enter Tryz.func40, Tryz.ntmps40
      go_wp2_with fail
      go_ret
      exact ⟨rfl, rfl⟩
    · rw [if_neg h1] at hr
      subst hr
      go_enter Tryz.func40, Tryz.ntmps40
      go_wp2_with fail
      go_ret
      exact ⟨rfl, rfl⟩
  · rw [if_neg h0] at hr
    by_cases h1 : hi < n
    · rw [if_pos h1] at hr
      subst hr
      go_enter Tryz.func40, Tryz.ntmps40
      go_wp2_with fail
      go_ret
      exact ⟨rfl, rfl⟩
    · rw [if_neg h1] at hr
      subst hr
      go_enter Tryz.func40, Tryz.ntmps40
      go_wp2_with fail
      go_ret
      exact ⟨rfl, rfl⟩

/-- The quotient rounded towards minus infinity, and its remainder. -/
def divP (a b : Int) : Int := if b = 0 then 0 else if a.tmod b ≠ 0 ∧ ¬ (a < 0 ↔ b < 0) then a.tdiv b - 1 else a.tdiv b
def modP (a b : Int) : Int := if b = 0 then 0 else a - b * divP a b
theorem tdiv_le (a b : Int) (ha : -1048576 ≤ a) (ha' : a ≤ 1048576) : -1048576 ≤ a.tdiv b ∧ a.tdiv b ≤ 1048576 := by
  have h : (a.tdiv b).natAbs ≤ 1048576 := by
    rw [Int.natAbs_tdiv]
    exact Nat.le_trans (Nat.div_le_self _ _) (by omega)
  omega

set_option maxHeartbeats 1000000 in
theorem divide_b (a b r : Int) (H : Hid (divP a b = r)) (ha : -1048576 ≤ a) (ha' : a ≤ 1048576) (w : World) : Calls Tryz.prog 96 #[.int .i64 a, .int .i64 b] w fun e w' => e = .returned (.int .i64 r) ∧ w = w' := by
  by_cases hb : b = 0
  · subst hb
    have hr : r = 0 := by rw [← H.out]; unfold divP; rw [if_pos rfl]
    subst hr
    clear H
    go_enter Tryz.func96, Tryz.ntmps96
    go_wp2_with fail
    go_ret
    exact ⟨rfl, rfl⟩
  · have hb0 := beq_of hb
    have hr0 : r = if a.tmod b ≠ 0 ∧ ¬ (a < 0 ↔ b < 0) then a.tdiv b - 1 else a.tdiv b := by rw [← H.out]; unfold divP; rw [if_neg hb]
    have hq := tdiv_le a b ha ha'
    obtain ⟨q, hqq⟩ : ∃ q, a.tdiv b = q := ⟨_, rfl⟩
    obtain ⟨t, htt⟩ : ∃ t, a.tmod b = t := ⟨_, rfl⟩
    have hw : IntKind.i64.wrap q = q := by rw [← hqq]; exact IntWalk.i64_in _ (by omega)
    rw [hqq] at hq hr0
    rw [htt] at hr0
    clear H
    by_cases ht : t = 0
    · have hr : r = q := by rw [hr0, if_neg (by rintro ⟨h, _⟩; exact h ht)]
      have htd : (t != 0) = false := by rw [ht]; rfl
      subst hr
      clear hr0 ht
      go_enter Tryz.func96, Tryz.ntmps96
      go_wp2_with fail
      go_ret
      exact ⟨rfl, rfl⟩
    · have htd : (t != 0) = true := bne_of ht
      by_cases hs : a < 0 ↔ b < 0
      · have hr : r = q := by rw [hr0, if_neg (by rintro ⟨_, h⟩; exact h hs)]
        have hsd : (decide (a < 0) == decide (b < 0)) = true := by rw [beq_iff_eq]; exact decide_eq_decide.2 hs
        subst hr
        clear hr0 ht hs
        go_enter Tryz.func96, Tryz.ntmps96
        go_wp2_with fail
        go_ret
        exact ⟨rfl, rfl⟩
      · have hr : r = q - 1 := by rw [hr0, if_pos ⟨ht, hs⟩]
        have hsd : (decide (a < 0) == decide (b < 0)) = false := by
          rw [beq_eq_false_iff_ne]; intro e; exact hs (decide_eq_decide.1 e)
        subst hr
        clear hr0 ht hs
        go_enter Tryz.func96, Tryz.ntmps96
        go_wp2_with fail
        go_ret
        exact ⟨rfl, rfl⟩
theorem div_bound (a b : Int) (ha : -1048576 ≤ a) (ha' : a ≤ 1048576) : -1048577 ≤ divP a b ∧ divP a b ≤ 1048576 := by
  have h := tdiv_le a b ha ha'
  unfold divP
  split
  · omega
  · split <;> omega
theorem mul_bound (a b : Int) (ha : -1048577 ≤ a) (ha' : a ≤ 1048577) (hb : -1048577 ≤ b) (hb' : b ≤ 1048577) : -1099513724929 ≤ a * b ∧ a * b ≤ 1099513724929 := by
  have e1 : (a * b).natAbs ≤ 1048577 * 1048577 := by
    rw [Int.natAbs_mul]
    exact Nat.mul_le_mul (by omega) (by omega)
  omega

set_option maxHeartbeats 1000000 in
theorem modulo_b (a b r : Int) (H : Hid (modP a b = r)) (ha : -1048576 ≤ a) (ha' : a ≤ 1048576) (hb : -1048576 ≤ b) (hb' : b ≤ 1048576) (w : World) : Calls Tryz.prog 97 #[.int .i64 a, .int .i64 b] w fun e w' => e = .returned (.int .i64 r) ∧ w = w' := by
  by_cases h0 : b = 0
  · subst h0
    have hr : r = 0 := by rw [← H.out]; unfold modP; rw [if_pos rfl]
    subst hr
    clear H
    go_enter Tryz.func97, Tryz.ntmps97
    go_wp2_with fail
    go_ret
    exact ⟨rfl, rfl⟩
  · have hb0 := beq_of h0
    obtain ⟨q, hq⟩ : ∃ q, divP a b = q := ⟨_, rfl⟩
    have hqb := div_bound a b ha ha'
    rw [hq] at hqb
    obtain ⟨p, hp⟩ : ∃ p, b * q = p := ⟨_, rfl⟩
    have hpb := mul_bound b q (by omega) (by omega) (by omega) (by omega)
    rw [hp] at hpb
    have hw1 : IntKind.i64.wrap p = p := IntWalk.i64_in _ (by omega)
    have hw2 : IntKind.i64.wrap (a - p) = a - p := IntWalk.i64_in _ (by omega)
    have hr : r = a - p := by rw [← H.out]; unfold modP; rw [if_neg h0, hq, hp]
    have HQ := Lib.hid hq
    subst hr
    clear H hq h0
    go_enter Tryz.func97, Tryz.ntmps97
    go_wp2_with fail
    go_at_call 96
    refine (divide_b a b q HQ ha ha' _).mono ?_
    rintro e w2 ⟨rfl, rfl⟩
    go_wp2_with fail
    go_ret
    exact ⟨rfl, rfl⟩

/-- The value of an operation on two values. -/
def binP (o a b : Int) : Int :=
  if o = 8 then a + b else if o = 9 then a - b else if o = 10 then a * b else if o = 11 then divP a b else if o = 12 then modP a b
  else if o = 13 then flagP (decide (a = b)) else if o = 14 then flagP (!decide (a = b)) else if o = 15 then flagP (decide (a < b)) else if o = 16 then flagP (decide (a ≤ b))
  else if o = 17 then flagP (decide (b < a)) else if o = 18 then flagP (decide (b ≤ a)) else if o = 19 then flagP (!decide (a = 0) && !decide (b = 0)) else if o = 20 then flagP (!decide (a = 0) || !decide (b = 0))
  else if o = 21 then min a b else max a b

set_option maxHeartbeats 1000000 in
theorem bin_add (a b r : Int) (H : Hid (binP 8 a b = r)) (ha : -1048576 ≤ a) (ha' : a ≤ 1048576) (hb : -1048576 ≤ b) (hb' : b ≤ 1048576) (w : World) : Calls Tryz.prog 72 #[.int .i64 8, .int .i64 a, .int .i64 b] w fun e w' => e = .returned (.int .i64 r) ∧ w = w' := by
  have hu : True := by have := ha; have := ha'; have := hb; have := hb'; trivial
  clear hu
  have hr : r = a + b := by rw [← H.out]; rfl
  subst hr
  clear H
  go_enter Tryz.func72, Tryz.ntmps72
  go_wp2_with fail
  go_ret
  exact ⟨rfl, rfl⟩

set_option maxHeartbeats 1000000 in
theorem bin_sub (a b r : Int) (H : Hid (binP 9 a b = r)) (ha : -1048576 ≤ a) (ha' : a ≤ 1048576) (hb : -1048576 ≤ b) (hb' : b ≤ 1048576) (w : World) : Calls Tryz.prog 72 #[.int .i64 9, .int .i64 a, .int .i64 b] w fun e w' => e = .returned (.int .i64 r) ∧ w = w' := by
  have hu : True := by have := ha; have := ha'; have := hb; have := hb'; trivial
  clear hu
  have hr : r = a - b := by rw [← H.out]; rfl
  subst hr
  clear H
  go_enter Tryz.func72, Tryz.ntmps72
  go_wp2_with fail
  go_ret
  exact ⟨rfl, rfl⟩

set_option maxHeartbeats 1000000 in
theorem bin_mul (a b r : Int) (H : Hid (binP 10 a b = r)) (ha : -1048576 ≤ a) (ha' : a ≤ 1048576) (hb : -1048576 ≤ b) (hb' : b ≤ 1048576) (w : World) : Calls Tryz.prog 72 #[.int .i64 10, .int .i64 a, .int .i64 b] w fun e w' => e = .returned (.int .i64 r) ∧ w = w' := by
  have hu : True := by have := ha; have := ha'; have := hb; have := hb'; trivial
  clear hu
  have hm := mul_bound a b (by omega) (by omega) (by omega) (by omega)
  have hw : IntKind.i64.wrap (a * b) = a * b := IntWalk.i64_in _ (by omega)
  clear hm
  have hr : r = a * b := by rw [← H.out]; rfl
  subst hr
  clear H
  go_enter Tryz.func72, Tryz.ntmps72
  go_wp2_with fail
  go_ret
  exact ⟨ret_int (by first | rfl | exact hw), rfl⟩

set_option maxHeartbeats 1000000 in
theorem bin_div (a b r : Int) (H : Hid (binP 11 a b = r)) (ha : -1048576 ≤ a) (ha' : a ≤ 1048576) (hb : -1048576 ≤ b) (hb' : b ≤ 1048576) (w : World) : Calls Tryz.prog 72 #[.int .i64 11, .int .i64 a, .int .i64 b] w fun e w' => e = .returned (.int .i64 r) ∧ w = w' := by
  have hu : True := by have := ha; have := ha'; have := hb; have := hb'; trivial
  clear hu
  have H2 : Hid (divP a b = r) := H.out
  clear H
  go_enter Tryz.func72, Tryz.ntmps72
  go_wp2_with fail
  go_at_call 96
  refine (divide_b a b r H2 ha ha' _).mono ?_
  rintro e w2 ⟨rfl, rfl⟩
  go_wp2_with fail
  go_ret
  exact ⟨rfl, rfl⟩

set_option maxHeartbeats 1000000 in
theorem bin_mod (a b r : Int) (H : Hid (binP 12 a b = r)) (ha : -1048576 ≤ a) (ha' : a ≤ 1048576) (hb : -1048576 ≤ b) (hb' : b ≤ 1048576) (w : World) : Calls Tryz.prog 72 #[.int .i64 12, .int .i64 a, .int .i64 b] w fun e w' => e = .returned (.int .i64 r) ∧ w = w' := by
  have hu : True := by have := ha; have := ha'; have := hb; have := hb'; trivial
  clear hu
  have H2 : Hid (modP a b = r) := H.out
  clear H
  go_enter Tryz.func72, Tryz.ntmps72
  go_wp2_with fail
  go_at_call 97
  refine (modulo_b a b r H2 ha ha' hb hb' _).mono ?_
  rintro e w2 ⟨rfl, rfl⟩
  go_wp2_with fail
  go_ret
  exact ⟨rfl, rfl⟩

set_option maxHeartbeats 1000000 in
theorem bin_eq (a b r : Int) (H : Hid (binP 13 a b = r)) (ha : -1048576 ≤ a) (ha' : a ≤ 1048576) (hb : -1048576 ≤ b) (hb' : b ≤ 1048576) (w : World) : Calls Tryz.prog 72 #[.int .i64 13, .int .i64 a, .int .i64 b] w fun e w' => e = .returned (.int .i64 r) ∧ w = w' := by
  have hu : True := by have := ha; have := ha'; have := hb; have := hb'; trivial
  clear hu
  by_cases h : a = b
  · have hr : r = 1 := by rw [← H.out]; show flagP (decide (a = b)) = _; rw [decide_eq_true h]; rfl
    have hd : (a == b) = true := by rw [beq_iff_eq]; exact h
    have hd2 : (a != b) = false := by rw [h]; simp
    clear h
    subst hr
    clear H
    go_enter Tryz.func72, Tryz.ntmps72
    go_wp2_with fail
    go_at_call 71
    refine (flag_b _ _).mono ?_
    rintro e w2 ⟨rfl, rfl⟩
    go_wp2_with fail
    go_ret
    exact ⟨rfl, rfl⟩
  · have hr : r = 0 := by rw [← H.out]; show flagP (decide (a = b)) = _; rw [decide_eq_false h]; rfl
    have hd := beq_of h
    have hd2 := bne_of h
    subst hr
    clear H
    go_enter Tryz.func72, Tryz.ntmps72
    go_wp2_with fail
    go_at_call 71
    refine (flag_b _ _).mono ?_
    rintro e w2 ⟨rfl, rfl⟩
    go_wp2_with fail
    go_ret
    exact ⟨rfl, rfl⟩

set_option maxHeartbeats 1000000 in
theorem bin_ne (a b r : Int) (H : Hid (binP 14 a b = r)) (ha : -1048576 ≤ a) (ha' : a ≤ 1048576) (hb : -1048576 ≤ b) (hb' : b ≤ 1048576) (w : World) : Calls Tryz.prog 72 #[.int .i64 14, .int .i64 a, .int .i64 b] w fun e w' => e = .returned (.int .i64 r) ∧ w = w' := by
  have hu : True := by have := ha; have := ha'; have := hb; have := hb'; trivial
  clear hu
  by_cases h : a = b
  · have hr : r = 0 := by rw [← H.out]; show flagP (!decide (a = b)) = _; rw [decide_eq_true h]; rfl
    have hd : (a == b) = true := by rw [beq_iff_eq]; exact h
    have hd2 : (a != b) = false := by rw [h]; simp
    clear h
    subst hr
    clear H
    go_enter Tryz.func72, Tryz.ntmps72
    go_wp2_with fail
    go_at_call 71
    refine (flag_b _ _).mono ?_
    rintro e w2 ⟨rfl, rfl⟩
    go_wp2_with fail
    go_ret
    exact ⟨rfl, rfl⟩
  · have hr : r = 1 := by rw [← H.out]; show flagP (!decide (a = b)) = _; rw [decide_eq_false h]; rfl
    have hd := beq_of h
    have hd2 := bne_of h
    subst hr
    clear H
    go_enter Tryz.func72, Tryz.ntmps72
    go_wp2_with fail
    go_at_call 71
    refine (flag_b _ _).mono ?_
    rintro e w2 ⟨rfl, rfl⟩
    go_wp2_with fail
    go_ret
    exact ⟨rfl, rfl⟩

set_option maxHeartbeats 1000000 in
theorem bin_lt (a b r : Int) (H : Hid (binP 15 a b = r)) (ha : -1048576 ≤ a) (ha' : a ≤ 1048576) (hb : -1048576 ≤ b) (hb' : b ≤ 1048576) (w : World) : Calls Tryz.prog 72 #[.int .i64 15, .int .i64 a, .int .i64 b] w fun e w' => e = .returned (.int .i64 r) ∧ w = w' := by
  have hu : True := by have := ha; have := ha'; have := hb; have := hb'; trivial
  clear hu
  by_cases h : a < b
  · have hr : r = 1 := by rw [← H.out]; show flagP (decide (a < b)) = _; rw [decide_eq_true h]; rfl
    have hd : decide (a < b) = true := decide_eq_true h
    subst hr
    clear H
    go_enter Tryz.func72, Tryz.ntmps72
    go_wp2_with fail
    go_at_call 71
    refine (flag_b _ _).mono ?_
    rintro e w2 ⟨rfl, rfl⟩
    go_wp2_with fail
    go_ret
    exact ⟨rfl, rfl⟩
  · have hr : r = 0 := by rw [← H.out]; show flagP (decide (a < b)) = _; rw [decide_eq_false h]; rfl
    have hd : decide (a < b) = false := decide_eq_false h
    subst hr
    clear H
    go_enter Tryz.func72, Tryz.ntmps72
    go_wp2_with fail
    go_at_call 71
    refine (flag_b _ _).mono ?_
    rintro e w2 ⟨rfl, rfl⟩
    go_wp2_with fail
    go_ret
    exact ⟨rfl, rfl⟩

set_option maxHeartbeats 1000000 in
theorem bin_le (a b r : Int) (H : Hid (binP 16 a b = r)) (ha : -1048576 ≤ a) (ha' : a ≤ 1048576) (hb : -1048576 ≤ b) (hb' : b ≤ 1048576) (w : World) : Calls Tryz.prog 72 #[.int .i64 16, .int .i64 a, .int .i64 b] w fun e w' => e = .returned (.int .i64 r) ∧ w = w' := by
  have hu : True := by have := ha; have := ha'; have := hb; have := hb'; trivial
  clear hu
  by_cases h : a ≤ b
  · have hr : r = 1 := by rw [← H.out]; show flagP (decide (a ≤ b)) = _; rw [decide_eq_true h]; rfl
    have hd : decide (a ≤ b) = true := decide_eq_true h
    subst hr
    clear H
    go_enter Tryz.func72, Tryz.ntmps72
    go_wp2_with fail
    go_at_call 71
    refine (flag_b _ _).mono ?_
    rintro e w2 ⟨rfl, rfl⟩
    go_wp2_with fail
    go_ret
    exact ⟨rfl, rfl⟩
  · have hr : r = 0 := by rw [← H.out]; show flagP (decide (a ≤ b)) = _; rw [decide_eq_false h]; rfl
    have hd : decide (a ≤ b) = false := decide_eq_false h
    subst hr
    clear H
    go_enter Tryz.func72, Tryz.ntmps72
    go_wp2_with fail
    go_at_call 71
    refine (flag_b _ _).mono ?_
    rintro e w2 ⟨rfl, rfl⟩
    go_wp2_with fail
    go_ret
    exact ⟨rfl, rfl⟩

set_option maxHeartbeats 1000000 in
theorem bin_gt (a b r : Int) (H : Hid (binP 17 a b = r)) (ha : -1048576 ≤ a) (ha' : a ≤ 1048576) (hb : -1048576 ≤ b) (hb' : b ≤ 1048576) (w : World) : Calls Tryz.prog 72 #[.int .i64 17, .int .i64 a, .int .i64 b] w fun e w' => e = .returned (.int .i64 r) ∧ w = w' := by
  have hu : True := by have := ha; have := ha'; have := hb; have := hb'; trivial
  clear hu
  by_cases h : b < a
  · have hr : r = 1 := by rw [← H.out]; show flagP (decide (b < a)) = _; rw [decide_eq_true h]; rfl
    have hd : decide (b < a) = true := decide_eq_true h
    subst hr
    clear H
    go_enter Tryz.func72, Tryz.ntmps72
    go_wp2_with fail
    go_at_call 71
    refine (flag_b _ _).mono ?_
    rintro e w2 ⟨rfl, rfl⟩
    go_wp2_with fail
    go_ret
    exact ⟨rfl, rfl⟩
  · have hr : r = 0 := by rw [← H.out]; show flagP (decide (b < a)) = _; rw [decide_eq_false h]; rfl
    have hd : decide (b < a) = false := decide_eq_false h
    subst hr
    clear H
    go_enter Tryz.func72, Tryz.ntmps72
    go_wp2_with fail
    go_at_call 71
    refine (flag_b _ _).mono ?_
    rintro e w2 ⟨rfl, rfl⟩
    go_wp2_with fail
    go_ret
    exact ⟨rfl, rfl⟩

set_option maxHeartbeats 1000000 in
theorem bin_ge (a b r : Int) (H : Hid (binP 18 a b = r)) (ha : -1048576 ≤ a) (ha' : a ≤ 1048576) (hb : -1048576 ≤ b) (hb' : b ≤ 1048576) (w : World) : Calls Tryz.prog 72 #[.int .i64 18, .int .i64 a, .int .i64 b] w fun e w' => e = .returned (.int .i64 r) ∧ w = w' := by
  have hu : True := by have := ha; have := ha'; have := hb; have := hb'; trivial
  clear hu
  by_cases h : b ≤ a
  · have hr : r = 1 := by rw [← H.out]; show flagP (decide (b ≤ a)) = _; rw [decide_eq_true h]; rfl
    have hd : decide (b ≤ a) = true := decide_eq_true h
    subst hr
    clear H
    go_enter Tryz.func72, Tryz.ntmps72
    go_wp2_with fail
    go_at_call 71
    refine (flag_b _ _).mono ?_
    rintro e w2 ⟨rfl, rfl⟩
    go_wp2_with fail
    go_ret
    exact ⟨rfl, rfl⟩
  · have hr : r = 0 := by rw [← H.out]; show flagP (decide (b ≤ a)) = _; rw [decide_eq_false h]; rfl
    have hd : decide (b ≤ a) = false := decide_eq_false h
    subst hr
    clear H
    go_enter Tryz.func72, Tryz.ntmps72
    go_wp2_with fail
    go_at_call 71
    refine (flag_b _ _).mono ?_
    rintro e w2 ⟨rfl, rfl⟩
    go_wp2_with fail
    go_ret
    exact ⟨rfl, rfl⟩

set_option maxHeartbeats 1000000 in
theorem bin_and (a b r : Int) (H : Hid (binP 19 a b = r)) (ha : -1048576 ≤ a) (ha' : a ≤ 1048576) (hb : -1048576 ≤ b) (hb' : b ≤ 1048576) (w : World) : Calls Tryz.prog 72 #[.int .i64 19, .int .i64 a, .int .i64 b] w fun e w' => e = .returned (.int .i64 r) ∧ w = w' := by
  have hu : True := by have := ha; have := ha'; have := hb; have := hb'; trivial
  clear hu
  by_cases h1 : a = 0
  · by_cases h2 : b = 0
    · have hr : r = 0 := by rw [← H.out]; show flagP (!decide (a = 0) && !decide (b = 0)) = _; rw [decide_eq_true h1, decide_eq_true h2]; rfl
      have d1 : (a != 0) = false := by rw [h1]; rfl
      have d2 : (b != 0) = false := by rw [h2]; rfl
      clear h1 h2
      subst hr
      clear H
      go_enter Tryz.func72, Tryz.ntmps72
      go_wp2_with fail
      go_at_call 71
      refine (flag_b _ _).mono ?_
      rintro e w2 ⟨rfl, rfl⟩
      go_wp2_with fail
      go_ret
      exact ⟨rfl, rfl⟩
    · have hr : r = 0 := by rw [← H.out]; show flagP (!decide (a = 0) && !decide (b = 0)) = _; rw [decide_eq_true h1, decide_eq_false h2]; rfl
      have d1 : (a != 0) = false := by rw [h1]; rfl
      have d2 := bne_of h2
      clear h1 h2
      subst hr
      clear H
      go_enter Tryz.func72, Tryz.ntmps72
      go_wp2_with fail
      go_at_call 71
      refine (flag_b _ _).mono ?_
      rintro e w2 ⟨rfl, rfl⟩
      go_wp2_with fail
      go_ret
      exact ⟨rfl, rfl⟩
  · by_cases h2 : b = 0
    · have hr : r = 0 := by rw [← H.out]; show flagP (!decide (a = 0) && !decide (b = 0)) = _; rw [decide_eq_false h1, decide_eq_true h2]; rfl
      have d1 := bne_of h1
      have d2 : (b != 0) = false := by rw [h2]; rfl
      clear h1 h2
      subst hr
      clear H
      go_enter Tryz.func72, Tryz.ntmps72
      go_wp2_with fail
      go_at_call 71
      refine (flag_b _ _).mono ?_
      rintro e w2 ⟨rfl, rfl⟩
      go_wp2_with fail
      go_ret
      exact ⟨rfl, rfl⟩
    · have hr : r = 1 := by rw [← H.out]; show flagP (!decide (a = 0) && !decide (b = 0)) = _; rw [decide_eq_false h1, decide_eq_false h2]; rfl
      have d1 := bne_of h1
      have d2 := bne_of h2
      clear h1 h2
      subst hr
      clear H
      go_enter Tryz.func72, Tryz.ntmps72
      go_wp2_with fail
      go_at_call 71
      refine (flag_b _ _).mono ?_
      rintro e w2 ⟨rfl, rfl⟩
      go_wp2_with fail
      go_ret
      exact ⟨rfl, rfl⟩

set_option maxHeartbeats 1000000 in
theorem bin_or (a b r : Int) (H : Hid (binP 20 a b = r)) (ha : -1048576 ≤ a) (ha' : a ≤ 1048576) (hb : -1048576 ≤ b) (hb' : b ≤ 1048576) (w : World) : Calls Tryz.prog 72 #[.int .i64 20, .int .i64 a, .int .i64 b] w fun e w' => e = .returned (.int .i64 r) ∧ w = w' := by
  have hu : True := by have := ha; have := ha'; have := hb; have := hb'; trivial
  clear hu
  by_cases h1 : a = 0
  · by_cases h2 : b = 0
    · have hr : r = 0 := by rw [← H.out]; show flagP (!decide (a = 0) || !decide (b = 0)) = _; rw [decide_eq_true h1, decide_eq_true h2]; rfl
      have d1 : (a != 0) = false := by rw [h1]; rfl
      have d2 : (b != 0) = false := by rw [h2]; rfl
      clear h1 h2
      subst hr
      clear H
      go_enter Tryz.func72, Tryz.ntmps72
      go_wp2_with fail
      go_at_call 71
      refine (flag_b _ _).mono ?_
      rintro e w2 ⟨rfl, rfl⟩
      go_wp2_with fail
      go_ret
      exact ⟨rfl, rfl⟩
    · have hr : r = 1 := by rw [← H.out]; show flagP (!decide (a = 0) || !decide (b = 0)) = _; rw [decide_eq_true h1, decide_eq_false h2]; rfl
      have d1 : (a != 0) = false := by rw [h1]; rfl
      have d2 := bne_of h2
      clear h1 h2
      subst hr
      clear H
      go_enter Tryz.func72, Tryz.ntmps72
      go_wp2_with fail
      go_at_call 71
      refine (flag_b _ _).mono ?_
      rintro e w2 ⟨rfl, rfl⟩
      go_wp2_with fail
      go_ret
      exact ⟨rfl, rfl⟩
  · by_cases h2 : b = 0
    · have hr : r = 1 := by rw [← H.out]; show flagP (!decide (a = 0) || !decide (b = 0)) = _; rw [decide_eq_false h1, decide_eq_true h2]; rfl
      have d1 := bne_of h1
      have d2 : (b != 0) = false := by rw [h2]; rfl
      clear h1 h2
      subst hr
      clear H
      go_enter Tryz.func72, Tryz.ntmps72
      go_wp2_with fail
      go_at_call 71
      refine (flag_b _ _).mono ?_
      rintro e w2 ⟨rfl, rfl⟩
      go_wp2_with fail
      go_ret
      exact ⟨rfl, rfl⟩
    · have hr : r = 1 := by rw [← H.out]; show flagP (!decide (a = 0) || !decide (b = 0)) = _; rw [decide_eq_false h1, decide_eq_false h2]; rfl
      have d1 := bne_of h1
      have d2 := bne_of h2
      clear h1 h2
      subst hr
      clear H
      go_enter Tryz.func72, Tryz.ntmps72
      go_wp2_with fail
      go_at_call 71
      refine (flag_b _ _).mono ?_
      rintro e w2 ⟨rfl, rfl⟩
      go_wp2_with fail
      go_ret
      exact ⟨rfl, rfl⟩

set_option maxHeartbeats 1000000 in
theorem bin_min (a b r : Int) (H : Hid (binP 21 a b = r)) (ha : -1048576 ≤ a) (ha' : a ≤ 1048576) (hb : -1048576 ≤ b) (hb' : b ≤ 1048576) (w : World) : Calls Tryz.prog 72 #[.int .i64 21, .int .i64 a, .int .i64 b] w fun e w' => e = .returned (.int .i64 r) ∧ w = w' := by
  have hu : True := by have := ha; have := ha'; have := hb; have := hb'; trivial
  clear hu
  have e : r = if b < a then b else a := by rw [← H.out]; show min a b = _; split <;> omega
  clear H
  by_cases h : b < a
  · rw [if_pos h] at e
    subst e
    go_enter Tryz.func72, Tryz.ntmps72
    go_wp2_with fail
    go_ret
    exact ⟨rfl, rfl⟩
  · rw [if_neg h] at e
    subst e
    go_enter Tryz.func72, Tryz.ntmps72
    go_wp2_with fail
    go_ret
    exact ⟨rfl, rfl⟩

set_option maxHeartbeats 1000000 in
theorem bin_max (a b r : Int) (H : Hid (binP 22 a b = r)) (ha : -1048576 ≤ a) (ha' : a ≤ 1048576) (hb : -1048576 ≤ b) (hb' : b ≤ 1048576) (w : World) : Calls Tryz.prog 72 #[.int .i64 22, .int .i64 a, .int .i64 b] w fun e w' => e = .returned (.int .i64 r) ∧ w = w' := by
  have hu : True := by have := ha; have := ha'; have := hb; have := hb'; trivial
  clear hu
  have e : r = if a < b then b else a := by rw [← H.out]; show max a b = _; split <;> omega
  clear H
  by_cases h : a < b
  · rw [if_pos h] at e
    subst e
    go_enter Tryz.func72, Tryz.ntmps72
    go_wp2_with fail
    go_ret
    exact ⟨rfl, rfl⟩
  · rw [if_neg h] at e
    subst e
    go_enter Tryz.func72, Tryz.ntmps72
    go_wp2_with fail
    go_ret
    exact ⟨rfl, rfl⟩

theorem binary_b (o a b r : Int) (ho : 8 ≤ o ∧ o ≤ 22) (H : Hid (binP o a b = r)) (ha : -1048576 ≤ a) (ha' : a ≤ 1048576) (hb : -1048576 ≤ b) (hb' : b ≤ 1048576) (w : World) : Calls Tryz.prog 72 #[.int .i64 o, .int .i64 a, .int .i64 b] w fun e w' => e = .returned (.int .i64 r) ∧ w = w' := by
  have hc : o = 8 ∨ o = 9 ∨ o = 10 ∨ o = 11 ∨ o = 12 ∨ o = 13 ∨ o = 14 ∨ o = 15 ∨ o = 16 ∨ o = 17 ∨ o = 18 ∨ o = 19 ∨ o = 20 ∨ o = 21 ∨ o = 22 := by omega
  rcases hc with rfl | rfl | rfl | rfl | rfl | rfl | rfl | rfl | rfl | rfl | rfl | rfl | rfl | rfl | rfl
  · exact bin_add a b r H ha ha' hb hb' w
  · exact bin_sub a b r H ha ha' hb hb' w
  · exact bin_mul a b r H ha ha' hb hb' w
  · exact bin_div a b r H ha ha' hb hb' w
  · exact bin_mod a b r H ha ha' hb hb' w
  · exact bin_eq a b r H ha ha' hb hb' w
  · exact bin_ne a b r H ha ha' hb hb' w
  · exact bin_lt a b r H ha ha' hb hb' w
  · exact bin_le a b r H ha ha' hb hb' w
  · exact bin_gt a b r H ha ha' hb hb' w
  · exact bin_ge a b r H ha ha' hb hb' w
  · exact bin_and a b r H ha ha' hb hb' w
  · exact bin_or a b r H ha ha' hb hb' w
  · exact bin_min a b r H ha ha' hb hb' w
  · exact bin_max a b r H ha ha' hb hb' w
end Go.Proofs.YtjpjmoejdkmglaaGreat
