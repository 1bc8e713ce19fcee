/-
  The walks over the reference's kids, formed and its small functions of numbers.
  The walk over the reference's span: the range of a node.
  The walks over the reference's Range and CheckTerm.
-/
import Derived.Test.YtjpjmoejdkmglaaGreatFlB
import Derived.Deep.CutRange
import Derived.Test.YtjpjmoejdkmglaaGreatFlD
import Derived.Test.YtjpjmoejdkmglaaGreatFlMm
import Derived.Deep.AppendLies
namespace Go.Proofs.YtjpjmoejdkmglaaGreat
open Go.RowKit

/-- The number of kids of an operator; -1: none, -2: from 2 to 33. -/
def rkidsP (o : Int) : Int :=
  if o = 0 ∨ o = 24 then 0 else if o = 6 ∨ o = 7 then 1 else if 8 ≤ o ∧ o ≤ 22 then 2 else if o = 23 then 3 else if o = 25 then -2 else -1
/-- Do so many kids fit? -/
def fitK (o : Int) (l : Nat) : Bool := decide (0 ≤ (kidsP o).1) && (decide ((kidsP o).1 ≤ (l : Int)) && decide ((l : Int) ≤ (kidsP o).2))
theorem fit_two (l : Nat) (k : Int) (hk : 0 ≤ k) : (decide (0 ≤ k) && (decide (k ≤ (l : Int)) && decide ((l : Int) ≤ k))) = ((l : Int) == k) := by
  rw [Bool.eq_iff_iff]
  simp only [Bool.and_eq_true, decide_eq_true_eq, beq_iff_eq]
  omega
theorem fit_cases (o : Int) (l : Nat) (k : Int) (h : rkidsP o = k) : (k = -1 ∧ fitK o l = false) ∨ (0 ≤ k ∧ k ≤ 3 ∧ fitK o l = ((l : Int) == k)) ∨ (k = -2 ∧ fitK o l = (decide (2 ≤ l) && decide (l ≤ 33))) := by
  unfold rkidsP at h
  unfold fitK kidsP
  by_cases h1 : o = 0 ∨ o = 24
  · rw [if_pos h1] at h ⊢; subst h; exact .inr (.inl ⟨by decide, by decide, fit_two l 0 (by decide)⟩)
  rw [if_neg h1] at h ⊢
  by_cases h2 : o = 6 ∨ o = 7
  · rw [if_pos h2] at h ⊢; subst h; exact .inr (.inl ⟨by decide, by decide, fit_two l 1 (by decide)⟩)
  rw [if_neg h2] at h ⊢
  by_cases h3 : 8 ≤ o ∧ o ≤ 22
  · rw [if_pos h3] at h ⊢; subst h; exact .inr (.inl ⟨by decide, by decide, fit_two l 2 (by decide)⟩)
  rw [if_neg h3] at h ⊢
  by_cases h4 : o = 23
  · rw [if_pos h4] at h ⊢; subst h; exact .inr (.inl ⟨by decide, by decide, fit_two l 3 (by decide)⟩)
  rw [if_neg h4] at h ⊢
  by_cases h5 : o = 25
  · rw [if_pos h5] at h ⊢; subst h
    refine .inr (.inr ⟨rfl, ?_⟩)
    rw [Bool.eq_iff_iff]
    simp only [Bool.and_eq_true, decide_eq_true_eq]
    omega
  · rw [if_neg h5] at h ⊢; subst h; exact .inl ⟨rfl, rfl⟩
def formedR (vs : List Vr) (inp : Bool) (o n : Int) : Bool := if o = 0 then true else if o = 24 then decide (0 ≤ n) && (decide (n < (vs.length : Int)) && !(inp && decide (((vs[n.toNat]?).map Vr.kind).getD 1 = 0))) else decide (n = 0)
theorem formedN_fit (vs : List Vr) (inp : Bool) (o n : Int) (l : Nat) : formedN vs inp o n l = (fitK o l && formedR vs inp o n) := by
  unfold formedN fitK formedR
  rw [Bool.and_assoc, Bool.and_assoc]

set_option maxHeartbeats 4000000 in
theorem rkids_b (o R : Int) (H : Hid (rkidsP o = R)) (w : World) :
    Calls Tryz.prog 98 #[.int .i64 o] w fun e w' => e = .returned (.int .i64 R) ∧ w = w' := by
  by_cases h0 : o = 0
  · subst h0
    have hR : R = 0 := by rw [← H.out]; decide
    subst hR
    clear H 
    go_enter Tryz.func98, Tryz.ntmps98
    go_wp2_with fail
    go_ret
    exact ⟨rfl, rfl⟩
  by_cases h24 : o = 24
  · subst h24
    have hR : R = 0 := by rw [← H.out]; decide
    subst hR
    clear H h0
    go_enter Tryz.func98, Tryz.ntmps98
    go_wp2_with fail
    go_ret
    exact ⟨rfl, rfl⟩
  by_cases h6 : o = 6
  · subst h6
    have hR : R = 1 := by rw [← H.out]; decide
    subst hR
    clear H h0 h24
    go_enter Tryz.func98, Tryz.ntmps98
    go_wp2_with fail
    go_ret
    exact ⟨rfl, rfl⟩
  by_cases h7 : o = 7
  · subst h7
    have hR : R = 1 := by rw [← H.out]; decide
    subst hR
    clear H h0 h24 h6
    go_enter Tryz.func98, Tryz.ntmps98
    go_wp2_with fail
    go_ret
    exact ⟨rfl, rfl⟩
  by_cases h8 : o = 8
  · subst h8
    have hR : R = 2 := by rw [← H.out]; decide
    subst hR
    clear H h0 h24 h6 h7
    go_enter Tryz.func98, Tryz.ntmps98
    go_wp2_with fail
    go_ret
    exact ⟨rfl, rfl⟩
  by_cases h9 : o = 9
  · subst h9
    have hR : R = 2 := by rw [← H.out]; decide
    subst hR
    clear H h0 h24 h6 h7 h8
    go_enter Tryz.func98, Tryz.ntmps98
    go_wp2_with fail
    go_ret
    exact ⟨rfl, rfl⟩
  by_cases h10 : o = 10
  · subst h10
    have hR : R = 2 := by rw [← H.out]; decide
    subst hR
    clear H h0 h24 h6 h7 h8 h9
    go_enter Tryz.func98, Tryz.ntmps98
    go_wp2_with fail
    go_ret
    exact ⟨rfl, rfl⟩
  by_cases h11 : o = 11
  · subst h11
    have hR : R = 2 := by rw [← H.out]; decide
    subst hR
    clear H h0 h24 h6 h7 h8 h9 h10
    go_enter Tryz.func98, Tryz.ntmps98
    go_wp2_with fail
    go_ret
    exact ⟨rfl, rfl⟩
  by_cases h12 : o = 12
  · subst h12
    have hR : R = 2 := by rw [← H.out]; decide
    subst hR
    clear H h0 h24 h6 h7 h8 h9 h10 h11
    go_enter Tryz.func98, Tryz.ntmps98
    go_wp2_with fail
    go_ret
    exact ⟨rfl, rfl⟩
  by_cases h13 : o = 13
  · subst h13
    have hR : R = 2 := by rw [← H.out]; decide
    subst hR
    clear H h0 h24 h6 h7 h8 h9 h10 h11 h12
    go_enter Tryz.func98, Tryz.ntmps98
    go_wp2_with fail
    go_ret
    exact ⟨rfl, rfl⟩
  by_cases h14 : o = 14
  · subst h14
    have hR : R = 2 := by rw [← H.out]; decide
    subst hR
    clear H h0 h24 h6 h7 h8 h9 h10 h11 h12 h13
    go_enter Tryz.func98, Tryz.ntmps98
    go_wp2_with fail
    go_ret
    exact ⟨rfl, rfl⟩
  by_cases h15 : o = 15
  · subst h15
    have hR : R = 2 := by rw [← H.out]; decide
    subst hR
    clear H h0 h24 h6 h7 h8 h9 h10 h11 h12 h13 h14
    go_enter Tryz.func98, Tryz.ntmps98
    go_wp2_with fail
    go_ret
    exact ⟨rfl, rfl⟩
  by_cases h16 : o = 16
  · subst h16
    have hR : R = 2 := by rw [← H.out]; decide
    subst hR
    clear H h0 h24 h6 h7 h8 h9 h10 h11 h12 h13 h14 h15
    go_enter Tryz.func98, Tryz.ntmps98
    go_wp2_with fail
    go_ret
    exact ⟨rfl, rfl⟩
  by_cases h17 : o = 17
  · subst h17
    have hR : R = 2 := by rw [← H.out]; decide
    subst hR
    clear H h0 h24 h6 h7 h8 h9 h10 h11 h12 h13 h14 h15 h16
    go_enter Tryz.func98, Tryz.ntmps98
    go_wp2_with fail
    go_ret
    exact ⟨rfl, rfl⟩
  by_cases h18 : o = 18
  · subst h18
    have hR : R = 2 := by rw [← H.out]; decide
    subst hR
    clear H h0 h24 h6 h7 h8 h9 h10 h11 h12 h13 h14 h15 h16 h17
    go_enter Tryz.func98, Tryz.ntmps98
    go_wp2_with fail
    go_ret
    exact ⟨rfl, rfl⟩
  by_cases h19 : o = 19
  · subst h19
    have hR : R = 2 := by rw [← H.out]; decide
    subst hR
    clear H h0 h24 h6 h7 h8 h9 h10 h11 h12 h13 h14 h15 h16 h17 h18
    go_enter Tryz.func98, Tryz.ntmps98
    go_wp2_with fail
    go_ret
    exact ⟨rfl, rfl⟩
  by_cases h20 : o = 20
  · subst h20
    have hR : R = 2 := by rw [← H.out]; decide
    subst hR
    clear H h0 h24 h6 h7 h8 h9 h10 h11 h12 h13 h14 h15 h16 h17 h18 h19
    go_enter Tryz.func98, Tryz.ntmps98
    go_wp2_with fail
    go_ret
    exact ⟨rfl, rfl⟩
  by_cases h21 : o = 21
  · subst h21
    have hR : R = 2 := by rw [← H.out]; decide
    subst hR
    clear H h0 h24 h6 h7 h8 h9 h10 h11 h12 h13 h14 h15 h16 h17 h18 h19 h20
    go_enter Tryz.func98, Tryz.ntmps98
    go_wp2_with fail
    go_ret
    exact ⟨rfl, rfl⟩
  by_cases h22 : o = 22
  · subst h22
    have hR : R = 2 := by rw [← H.out]; decide
    subst hR
    clear H h0 h24 h6 h7 h8 h9 h10 h11 h12 h13 h14 h15 h16 h17 h18 h19 h20 h21
    go_enter Tryz.func98, Tryz.ntmps98
    go_wp2_with fail
    go_ret
    exact ⟨rfl, rfl⟩
  by_cases h23 : o = 23
  · subst h23
    have hR : R = 3 := by rw [← H.out]; decide
    subst hR
    clear H h0 h24 h6 h7 h8 h9 h10 h11 h12 h13 h14 h15 h16 h17 h18 h19 h20 h21 h22
    go_enter Tryz.func98, Tryz.ntmps98
    go_wp2_with fail
    go_ret
    exact ⟨rfl, rfl⟩
  by_cases h25 : o = 25
  · subst h25
    have hR : R = -2 := by rw [← H.out]; decide
    subst hR
    clear H h0 h24 h6 h7 h8 h9 h10 h11 h12 h13 h14 h15 h16 h17 h18 h19 h20 h21 h22 h23
    go_enter Tryz.func98, Tryz.ntmps98
    go_wp2_with fail
    go_ret
    exact ⟨rfl, rfl⟩
  have hR : R = -1 := by rw [← H.out]; unfold rkidsP; rw [if_neg (by omega), if_neg (by omega), if_neg (by omega), if_neg h23, if_neg h25]
  subst hR
  have q0 := beq_of h0
  have q24 := beq_of h24
  have q6 := beq_of h6
  have q7 := beq_of h7
  have q8 := beq_of h8
  have q9 := beq_of h9
  have q10 := beq_of h10
  have q11 := beq_of h11
  have q12 := beq_of h12
  have q13 := beq_of h13
  have q14 := beq_of h14
  have q15 := beq_of h15
  have q16 := beq_of h16
  have q17 := beq_of h17
  have q18 := beq_of h18
  have q19 := beq_of h19
  have q20 := beq_of h20
  have q21 := beq_of h21
  have q22 := beq_of h22
  have q23 := beq_of h23
  have q25 := beq_of h25
  clear H h0 h24 h6 h7 h8 h9 h10 h11 h12 h13 h14 h15 h16 h17 h18 h19 h20 h21 h22 h23 h25
  go_enter Tryz.func98, Tryz.ntmps98
  go_wp2_with fail
  go_ret
  exact ⟨rfl, rfl⟩

theorem rleast_b (a b r : Int) (H : Hid (min a b = r)) (w : World) : Calls Tryz.prog 83 #[.int .i64 a, .int .i64 b] w fun e w' => e = .returned (.int .i64 r) ∧ w = w' := by
  by_cases h : a < b
  · have hr : r = a := by rw [← H.out]; omega
    subst hr
    clear H
    go_enter Tryz.func83, Tryz.ntmps83
    go_wp2_with fail
    go_ret
    exact ⟨rfl, rfl⟩
  · have hr : r = b := by rw [← H.out]; omega
    subst hr
    clear H
    go_enter Tryz.func83, Tryz.ntmps83
    go_wp2_with fail
    go_ret
    exact ⟨rfl, rfl⟩
theorem rmost_b (a b r : Int) (H : Hid (max a b = r)) (w : World) : Calls Tryz.prog 82 #[.int .i64 a, .int .i64 b] w fun e w' => e = .returned (.int .i64 r) ∧ w = w' := by
  by_cases h : b < a
  · have hr : r = a := by rw [← H.out]; omega
    subst hr
    clear H
    go_enter Tryz.func82, Tryz.ntmps82
    go_wp2_with fail
    go_ret
    exact ⟨rfl, rfl⟩
  · have hr : r = b := by rw [← H.out]; omega
    subst hr
    clear H
    go_enter Tryz.func82, Tryz.ntmps82
    go_wp2_with fail
    go_ret
    exact ⟨rfl, rfl⟩
theorem rsize_b (a r : Int) (H : Hid ((a.natAbs : Int) = r)) (ha : -9007199254740992 ≤ a) (w : World) : Calls Tryz.prog 107 #[.int .i64 a] w fun e w' => e = .returned (.int .i64 r) ∧ w = w' := by
  by_cases h : a < 0
  · have hr : r = -a := by rw [← H.out]; omega
    subst hr
    have hw : IntKind.i64.wrap (-a) = -a := IntWalk.i64_in _ (by omega)
    clear H
    go_enter Tryz.func107, Tryz.ntmps107
    go_wp2_with fail
    go_ret
    exact ⟨rfl, rfl⟩
  · have hr : r = a := by rw [← H.out]; omega
    subst hr
    clear H
    go_enter Tryz.func107, Tryz.ntmps107
    go_wp2_with fail
    go_ret
    exact ⟨rfl, rfl⟩
theorem rheld_b (n lo hi r : Int) (H : Hid ((if n < lo then lo else if hi < n then hi else n) = r)) (w : World) : Calls Tryz.prog 57 #[.int .i64 n, .int .i64 lo, .int .i64 hi] w fun e w' => e = .returned (.int .i64 r) ∧ w = w' := by
  by_cases h : n < lo
  · have hr : r = lo := by rw [← H.out, if_pos h]
    subst hr
    clear H
    go_enter Tryz.func57, Tryz.ntmps57
    go_wp2_with fail
    go_ret
    exact ⟨rfl, rfl⟩
  by_cases h2 : hi < n
  · have hr : r = hi := by rw [← H.out, if_neg h, if_pos h2]
    subst hr
    clear H
    go_enter Tryz.func57, Tryz.ntmps57
    go_wp2_with fail
    go_ret
    exact ⟨rfl, rfl⟩
  · have hr : r = n := by rw [← H.out, if_neg h, if_neg h2]
    subst hr
    clear H
    go_enter Tryz.func57, Tryz.ntmps57
    go_wp2_with fail
    go_ret
    exact ⟨rfl, rfl⟩
def modR (a b : Int) : Int × Int := (if a < 0 then min (a + 1) 0 else 0, if 0 < b then max (b - 1) 0 else 0)
set_option maxHeartbeats 1000000 in
theorem rmodSpan_b (a b : Int) (R : Int × Int) (H : Hid (modR a b = R)) (ha : -9007199254740992 ≤ a) (ha' : a ≤ 9007199254740992) (hb : -9007199254740992 ≤ b) (hb' : b ≤ 9007199254740992) (w : World) : Calls Tryz.prog 108 #[.int .i64 a, .int .i64 b] w fun e w' => e = .returned (.tuple #[.int .i64 R.1, .int .i64 R.2]) ∧ w = w' := by
  by_cases h : a < 0
  · have hx : Hid (min 0 (a + 1) = a + 1) := Lib.hid (by omega)
    by_cases h2 : 0 < b
    · have hy : Hid (max 0 (b - 1) = b - 1) := Lib.hid (by omega)
      have hr : R = (a + 1, b - 1) := by rw [← H.out]; unfold modR; rw [if_pos h, if_pos h2]; exact Prod.ext (by simp only; omega) (by simp only; omega)
      subst hr
      clear H
      go_enter Tryz.func108, Tryz.ntmps108
      go_wp2_with fail
      go_at_call 83
      refine (rleast_b 0 (a + 1) _ hx _).mono ?_
      rintro e w1 ⟨rfl, rfl⟩
      go_wp2_with fail
      go_at_call 82
      refine (rmost_b 0 (b - 1) _ hy _).mono ?_
      rintro e w1 ⟨rfl, rfl⟩
      go_wp2_with fail
      go_returns
      exact ⟨rfl, rfl⟩
    · have hr : R = (a + 1, 0) := by rw [← H.out]; unfold modR; rw [if_pos h, if_neg h2]; exact Prod.ext (by simp only; omega) rfl
      subst hr
      clear H
      go_enter Tryz.func108, Tryz.ntmps108
      go_wp2_with fail
      go_at_call 83
      refine (rleast_b 0 (a + 1) _ hx _).mono ?_
      rintro e w1 ⟨rfl, rfl⟩
      go_wp2_with fail
      go_returns
      exact ⟨rfl, rfl⟩
  · by_cases h2 : 0 < b
    · have hy : Hid (max 0 (b - 1) = b - 1) := Lib.hid (by omega)
      have hr : R = (0, b - 1) := by rw [← H.out]; unfold modR; rw [if_neg h, if_pos h2]; exact Prod.ext rfl (by simp only; omega)
      subst hr
      clear H
      go_enter Tryz.func108, Tryz.ntmps108
      go_wp2_with fail
      go_at_call 82
      refine (rmost_b 0 (b - 1) _ hy _).mono ?_
      rintro e w1 ⟨rfl, rfl⟩
      go_wp2_with fail
      go_returns
      exact ⟨rfl, rfl⟩
    · have hr : R = (0, 0) := by rw [← H.out]; unfold modR; rw [if_neg h, if_neg h2]
      subst hr
      clear H
      go_enter Tryz.func108, Tryz.ntmps108
      go_wp2_with fail
      go_returns
      exact ⟨rfl, rfl⟩

set_option maxRecDepth 100000 in
set_option maxHeartbeats 8000000 in
theorem rformed_any (vs : List Vr) (Av : Option Addr) (lv cv : Nat) (m : Nat) : ∀ (o n : Int) (ks : List Tm) (l : Nat) (A : Option Addr) (c : Nat) (inp : Bool) (w : World) (b : Bool), ks.length = l → Tm.cnt (.mk o n ks) ≤ m → TOk w A c ks → VOk w Av lv cv vs → Hid (formedB vs inp (.mk o n ks) = b) →
    Calls Tryz.prog 79 #[.slice Av lv cv, .agg #[.int .i64 o, .int .i64 n, .slice A l c], .bool inp] w fun e w' => e = .returned (.bool b) ∧ Below w.heap.size w w' := by
  induction m with
  | zero => intro o n ks l A c inp w b _ h; have := Tm.cnt_pos (.mk o n ks); omega
  | succ m ih =>
    intro o n ks l A c inp w b hl hm ht hv H
    have IH := Lib.hid ih
    have HM : Hid (Tm.cntL ks ≤ m) := by show _ ≤ _; simp only [Tm.cnt] at hm; omega
    have HL := Lib.hid hl
    have HT := Lib.hid ht
    have HV := Lib.hid hv
    have hlm : l ≤ 9223372036854775807 := by have h1 := ht.1; have h2 := ht.2.1; unfold maxLen at h2; omega
    have hlv : lv ≤ 9223372036854775807 := by have h1 := hv.cap; have h2 := hv.big; unfold maxLen at h2; omega
    have HVL := Lib.hid hv.len
    have HC := Lib.hid (Cs.new w #[.int .i64 o, .int .i64 n, .slice A l c] 53)
    have HB := Lib.hid ((Below.refl w.heap.size w).alloc (Nat.le_refl _) (.cells #[.int .i64 o, .int .i64 n, .slice A l c] 53))
    obtain ⟨kk, hkk⟩ : ∃ R, rkidsP o = R := ⟨_, rfl⟩
    have HKK := Lib.hid hkk
    have HFIT := Lib.hid (fit_cases o l kk hkk)
    obtain ⟨ft, hft⟩ : ∃ z, fitK o l = z := ⟨_, rfl⟩
    have HFT := Lib.hid hft
    clear ih hm hl ht hv hkk hft
    go_enter Tryz.func79, Tryz.ntmps79
    go_upto_region 1 with fail
    obtain ⟨w1, hw1⟩ : ∃ w1, w.alloc (.cells #[.int .i64 o, .int .i64 n, .slice A l c] 53) = w1 := ⟨_, rfl⟩
    obtain ⟨p, hp⟩ : ∃ p, w.heap.size = p := ⟨_, rfl⟩
    rw [hw1] at HB HC
    rw [hp] at HC
    rw [hw1, hp]
    clear hw1 hp
    have r0 := HC.out.at 0 _ rfl
    have r1 := HC.out.at 1 _ rfl
    have r2 := HC.out.at 2 _ rfl
    go_wp2_with fail
    go_at_call 98
    refine (rkids_b o kk HKK _).mono ?_
    rintro e w2 ⟨rfl, rfl⟩
    go_upto_region 2 with fail
    go_cut [40] from 12 to 40 (fun u wx => u = .bool (!ft) ∧ wx = w1)
    case first =>
      rcases HFIT.out with ⟨rfl, hf⟩ | ⟨g0, g3, hf⟩ | ⟨rfl, hf⟩
      · have hft : ft = false := HFT.out.symm.trans hf
        subst hft
        clear hf
        go_wp2_with fail
        go_meet
        case rel => exact ⟨rfl, rfl⟩
      · have q1 : (kk == -1) = false := beq_of (by omega)
        have q2 : (kk == -2) = false := beq_of (by omega)
        have q0 : decide (0 ≤ kk) = true := decide_eq_true g0
        by_cases e : (l : Int) = kk
        · have q3 : ((l : Int) != kk) = false := by rw [e]; exact bne_self kk
          have hft : ft = true := by rw [← HFT.out, hf, e]; simp
          subst hft
          clear hf e
          go_wp2_with fail
          go_meet
          case rel => exact ⟨rfl, rfl⟩
        · have q3 : ((l : Int) != kk) = true := bne_of e
          have hft : ft = false := by rw [← HFT.out, hf]; exact beq_of e
          subst hft
          clear hf e
          go_wp2_with fail
          go_meet
          case rel => exact ⟨rfl, rfl⟩
      · by_cases e1 : l < 2
        · have d1 : decide (l < 2) = true := decide_eq_true e1
          have d1i : decide ((l : Int) < 2) = true := decide_eq_true (by omega)
          have hft : ft = false := by rw [← HFT.out, hf, decide_eq_false (show ¬ 2 ≤ l by omega)]; rfl
          subst hft
          clear hf
          go_wp2_with fail
          go_meet
          case rel => exact ⟨rfl, rfl⟩
        · have d1 : decide (l < 2) = false := decide_eq_false e1
          have d1i : decide ((l : Int) < 2) = false := decide_eq_false (by omega)
          by_cases e2 : 33 < l
          · have d2 : decide (33 < l) = true := decide_eq_true e2
            have d2i : decide ((33 : Int) < (l : Int)) = true := decide_eq_true (by omega)
            have hft : ft = false := by rw [← HFT.out, hf, decide_eq_false (show ¬ l ≤ 33 by omega), Bool.and_false]
            subst hft
            clear hf
            go_wp2_with fail
            go_meet
            case rel => exact ⟨rfl, rfl⟩
          · have d2 : decide (33 < l) = false := decide_eq_false e2
            have d2i : decide ((33 : Int) < (l : Int)) = false := decide_eq_false (by omega)
            have hft : ft = true := by rw [← HFT.out, hf, decide_eq_true (show 2 ≤ l by omega), decide_eq_true (show l ≤ 33 by omega)]; rfl
            subst hft
            clear hf
            go_wp2_with fail
            go_meet
            case rel => exact ⟨rfl, rfl⟩
    case rest =>
    obtain ⟨rfl, rfl⟩ := hcut
    cases ft with
    | false =>
      have hb : b = false := by
        rw [← H.out, formedB, formedN_fit, HL.out, HFT.out]; simp
      subst hb
      clear H
      go_wp2_with fail
      go_ret
      exact ⟨rfl, HB.out⟩
    | true =>
    have HN0 : Hid (formedN vs inp o n ks.length = formedR vs inp o n) := by show _ = _; rw [formedN_fit, HL.out, HFT.out]; rfl
    clear HFIT HKK HFT
    by_cases h24 : o = 24
    case neg =>
      have hq24 := beq_of h24
      by_cases h0 : o = 0
      · have HN : Hid (formedN vs inp o n ks.length = true) := by show _ = _; rw [HN0.out, formedR, if_pos h0]
        subst h0
        clear h24 HN0 hq24
        go_upto_region 10 with fail
        go_loopw [8] (fun v wr => ∃ k : Nat, k ≤ l ∧ v = .int .i64 k ∧ Hid (∀ i (hi : i < ks.length), i < k → formedB vs inp ks[i] = true) ∧ Hid (Below w.heap.size w wr) ∧ Hid (Cs wr p [.int .i64 0, .int .i64 n, .slice A l c])) (fun v _ => l - (intOf v).toNat)
        case atStart => exact ⟨0, by omega, rfl, fun i _ hi => absurd hi (by omega), HB, HC⟩
        case round =>
          clear HB HC r0 r1 r2
          obtain ⟨k, hk, rfl, HK, HB, HC⟩ := hrel
          have r0 := HC.out.at 0 _ rfl
          have r1 := HC.out.at 1 _ rfl
          have r2 := HC.out.at 2 _ rfl
          by_cases hlt : k < l
          · have hkl : k < ks.length := by rw [HL.out]; exact hlt
            obtain ⟨o', n', ks', g, f, A', c', hkid, hA, hg, hok, k0, k1, k2⟩ := (HT.out.below HB.out).kid k hkl
            subst hA
            obtain ⟨l', hl'⟩ : ∃ l', ks'.length = l' := ⟨_, rfl⟩
            rw [hl'] at k2
            obtain ⟨x, hx⟩ : ∃ x, formedB vs inp (.mk o' n' ks') = x := ⟨_, rfl⟩
            have HX := Lib.hid hx
            have HKID := Lib.hid hkid
            have hcm : Tm.cnt (.mk o' n' ks') ≤ m := by have := Tm.cntL_get ks k hkl; rw [hkid] at this; exact Nat.le_trans this HM.out
            have HCM := Lib.hid hcm
            have HOK := Lib.hid hok
            have HVB := Lib.hid (HV.out.below HB.out)
            have HL' := Lib.hid hl'
            have hlt' : (k : Int) < (l : Int) := by omega
            clear hok hkid hl' hx hcm
            go_wp2_with fail
            go_at_call 79
            refine (IH.out o' n' ks' l' A' c' inp _ x HL'.out HCM.out HOK.out HVB.out HX).mono ?_
            rintro e w3 ⟨rfl, hb3⟩
            have HB3 := Lib.hid (HB.out.trans (hb3.mono HB.out.size))
            have HC3 := Lib.hid (HC.out.next hb3)
            clear hb3 HC HOK HVB HB k0 k1 k2 r0 r1 r2
            cases x with
            | true =>
              have HK' : Hid (∀ i (hi : i < ks.length), i < k + 1 → formedB vs inp ks[i] = true) := fun i hi hik => by
                by_cases hki : i = k
                · subst hki; rw [HKID.out, HX.out]
                · exact HK.out i hi (by omega)
              clear HK
              go_wp2_with fail
              go_roundw
              case rel => first | exact ⟨k + 1, by omega, by go_num, HK', HB3, HC3⟩ | ((repeat apply Exists.intro); exact ⟨⟨k + 1, by omega, by go_num, HK', HB3, HC3⟩, rfl⟩)
              case measure => simp [intOf]; omega
            | false =>
              have hb : b = false := by
                rw [← H.out, formedB, formedL_take vs inp ks k hkl (by rw [HKID.out, HX.out])]
                simp
              subst hb
              clear HK H
              go_wp2_with fail
              go_ret
              exact ⟨rfl, HB3.out⟩
          · have hb : b = true := by
              rw [← H.out, formedB, HN.out, formedL_all vs inp ks fun i hi => HK.out i hi (by have := HL.out; omega)]
              rfl
            subst hb
            clear HK H
            go_wp2_with fail
            go_ret
            exact ⟨rfl, HB.out⟩
      · have hq0 := bne_of h0
        by_cases hn : n = 0
        case neg =>
          have hdn : (n != 0) = true := bne_of hn
          have hb : b = false := by
            rw [← H.out, formedB, HN0.out, formedR, if_neg h0, if_neg h24, decide_eq_false hn]; simp
          subst hb
          clear H
          go_wp2_with fail
          go_ret
          exact ⟨rfl, HB.out⟩
        have HN : Hid (formedN vs inp o n ks.length = true) := by show _ = _; rw [HN0.out, formedR, if_neg h0, if_neg h24, decide_eq_true hn]
        subst hn
        have hq0e := beq_of h0
        clear h0 h24 HN0
        go_upto_region 10 with fail
        go_loopw [8] (fun v wr => ∃ k : Nat, k ≤ l ∧ v = .int .i64 k ∧ Hid (∀ i (hi : i < ks.length), i < k → formedB vs inp ks[i] = true) ∧ Hid (Below w.heap.size w wr) ∧ Hid (Cs wr p [.int .i64 o, .int .i64 0, .slice A l c])) (fun v _ => l - (intOf v).toNat)
        case atStart => exact ⟨0, by omega, rfl, fun i _ hi => absurd hi (by omega), HB, HC⟩
        case round =>
          clear HB HC r0 r1 r2
          obtain ⟨k, hk, rfl, HK, HB, HC⟩ := hrel
          have r0 := HC.out.at 0 _ rfl
          have r1 := HC.out.at 1 _ rfl
          have r2 := HC.out.at 2 _ rfl
          by_cases hlt : k < l
          · have hkl : k < ks.length := by rw [HL.out]; exact hlt
            obtain ⟨o', n', ks', g, f, A', c', hkid, hA, hg, hok, k0, k1, k2⟩ := (HT.out.below HB.out).kid k hkl
            subst hA
            obtain ⟨l', hl'⟩ : ∃ l', ks'.length = l' := ⟨_, rfl⟩
            rw [hl'] at k2
            obtain ⟨x, hx⟩ : ∃ x, formedB vs inp (.mk o' n' ks') = x := ⟨_, rfl⟩
            have HX := Lib.hid hx
            have HKID := Lib.hid hkid
            have hcm : Tm.cnt (.mk o' n' ks') ≤ m := by have := Tm.cntL_get ks k hkl; rw [hkid] at this; exact Nat.le_trans this HM.out
            have HCM := Lib.hid hcm
            have HOK := Lib.hid hok
            have HVB := Lib.hid (HV.out.below HB.out)
            have HL' := Lib.hid hl'
            have hlt' : (k : Int) < (l : Int) := by omega
            clear hok hkid hl' hx hcm
            go_wp2_with fail
            go_at_call 79
            refine (IH.out o' n' ks' l' A' c' inp _ x HL'.out HCM.out HOK.out HVB.out HX).mono ?_
            rintro e w3 ⟨rfl, hb3⟩
            have HB3 := Lib.hid (HB.out.trans (hb3.mono HB.out.size))
            have HC3 := Lib.hid (HC.out.next hb3)
            clear hb3 HC HOK HVB HB k0 k1 k2 r0 r1 r2
            cases x with
            | true =>
              have HK' : Hid (∀ i (hi : i < ks.length), i < k + 1 → formedB vs inp ks[i] = true) := fun i hi hik => by
                by_cases hki : i = k
                · subst hki; rw [HKID.out, HX.out]
                · exact HK.out i hi (by omega)
              clear HK
              go_wp2_with fail
              go_roundw
              case rel => first | exact ⟨k + 1, by omega, by go_num, HK', HB3, HC3⟩ | ((repeat apply Exists.intro); exact ⟨⟨k + 1, by omega, by go_num, HK', HB3, HC3⟩, rfl⟩)
              case measure => simp [intOf]; omega
            | false =>
              have hb : b = false := by
                rw [← H.out, formedB, formedL_take vs inp ks k hkl (by rw [HKID.out, HX.out])]
                simp
              subst hb
              clear HK H
              go_wp2_with fail
              go_ret
              exact ⟨rfl, HB3.out⟩
          · have hb : b = true := by
              rw [← H.out, formedB, HN.out, formedL_all vs inp ks fun i hi => HK.out i hi (by have := HL.out; omega)]
              rfl
            subst hb
            clear HK H
            go_wp2_with fail
            go_ret
            exact ⟨rfl, HB.out⟩
    have hq24 : (o == 24) = true := by rw [beq_iff_eq]; exact h24
    have HN1 : Hid (formedN vs inp o n ks.length = (decide (0 ≤ n) && (decide (n < (vs.length : Int)) && !(inp && decide (((vs[n.toNat]?).map Vr.kind).getD 1 = 0))))) := by
      show _ = _; rw [HN0.out, formedR, if_neg (by omega), if_pos h24]
    clear HN0 h24
    by_cases hn0 : n < 0
    · have hdn : decide (n < 0) = true := decide_eq_true hn0
      have hb : b = false := by
        rw [← H.out, formedB, HN1.out, decide_eq_false (show ¬ 0 ≤ n by omega)]; simp
      subst hb
      clear H
      go_wp2_with fail
      go_ret
      exact ⟨rfl, HB.out⟩
    have hdn : decide (n < 0) = false := decide_eq_false hn0
    obtain ⟨i, rfl⟩ : ∃ i : Nat, n = i := ⟨n.toNat, by omega⟩
    by_cases hni : lv ≤ i
    · have hdi : decide ((lv : Int) ≤ (i : Int)) = true := decide_eq_true (by omega)
      have hdi' : decide (lv ≤ i) = true := decide_eq_true hni
      have hb : b = false := by
        rw [← H.out, formedB, HN1.out, HVL.out, decide_eq_false (show ¬ (i : Int) < (lv : Int) by omega)]; simp
      subst hb
      clear H
      go_wp2_with fail
      go_ret
      exact ⟨rfl, HB.out⟩
    have hdi : decide ((lv : Int) ≤ (i : Int)) = false := decide_eq_false (by omega)
    have hdi' : decide (lv ≤ i) = false := decide_eq_false hni
    have hiv : i < lv := by omega
    have hiv' : (i : Int) < (lv : Int) := by omega
    cases inp with
    | false =>
      have HN : Hid (formedN vs false o i ks.length = true) := by
        show _ = _; rw [HN1.out, HVL.out, decide_eq_true (show (0 : Int) ≤ (i : Int) by omega), decide_eq_true hiv']; rfl
      clear HN1
      go_upto_region 10 with fail
      go_loopw [8] (fun v wr => ∃ k : Nat, k ≤ l ∧ v = .int .i64 k ∧ Hid (∀ i (hi : i < ks.length), i < k → formedB vs false ks[i] = true) ∧ Hid (Below w.heap.size w wr) ∧ Hid (Cs wr p [.int .i64 o, .int .i64 (i : Int), .slice A l c])) (fun v _ => l - (intOf v).toNat)
      case atStart => exact ⟨0, by omega, rfl, fun i _ hi => absurd hi (by omega), HB, HC⟩
      case round =>
        clear HB HC r0 r1 r2
        obtain ⟨k, hk, rfl, HK, HB, HC⟩ := hrel
        have r0 := HC.out.at 0 _ rfl
        have r1 := HC.out.at 1 _ rfl
        have r2 := HC.out.at 2 _ rfl
        by_cases hlt : k < l
        · have hkl : k < ks.length := by rw [HL.out]; exact hlt
          obtain ⟨o', n', ks', g, f, A', c', hkid, hA, hg, hok, k0, k1, k2⟩ := (HT.out.below HB.out).kid k hkl
          subst hA
          obtain ⟨l', hl'⟩ : ∃ l', ks'.length = l' := ⟨_, rfl⟩
          rw [hl'] at k2
          obtain ⟨x, hx⟩ : ∃ x, formedB vs false (.mk o' n' ks') = x := ⟨_, rfl⟩
          have HX := Lib.hid hx
          have HKID := Lib.hid hkid
          have hcm : Tm.cnt (.mk o' n' ks') ≤ m := by have := Tm.cntL_get ks k hkl; rw [hkid] at this; exact Nat.le_trans this HM.out
          have HCM := Lib.hid hcm
          have HOK := Lib.hid hok
          have HVB := Lib.hid (HV.out.below HB.out)
          have HL' := Lib.hid hl'
          have hlt' : (k : Int) < (l : Int) := by omega
          clear hok hkid hl' hx hcm
          go_wp2_with fail
          go_at_call 79
          refine (IH.out o' n' ks' l' A' c' false _ x HL'.out HCM.out HOK.out HVB.out HX).mono ?_
          rintro e w3 ⟨rfl, hb3⟩
          have HB3 := Lib.hid (HB.out.trans (hb3.mono HB.out.size))
          have HC3 := Lib.hid (HC.out.next hb3)
          clear hb3 HC HOK HVB HB k0 k1 k2 r0 r1 r2
          cases x with
          | true =>
            have HK' : Hid (∀ i (hi : i < ks.length), i < k + 1 → formedB vs false ks[i] = true) := fun i hi hik => by
              by_cases hki : i = k
              · subst hki; rw [HKID.out, HX.out]
              · exact HK.out i hi (by omega)
            clear HK
            go_wp2_with fail
            go_roundw
            case rel => first | exact ⟨k + 1, by omega, by go_num, HK', HB3, HC3⟩ | ((repeat apply Exists.intro); exact ⟨⟨k + 1, by omega, by go_num, HK', HB3, HC3⟩, rfl⟩)
            case measure => simp [intOf]; omega
          | false =>
            have hb : b = false := by
              rw [← H.out, formedB, formedL_take vs false ks k hkl (by rw [HKID.out, HX.out])]
              simp
            subst hb
            clear HK H
            go_wp2_with fail
            go_ret
            exact ⟨rfl, HB3.out⟩
        · have hb : b = true := by
            rw [← H.out, formedB, HN.out, formedL_all vs false ks fun i hi => HK.out i hi (by have := HL.out; omega)]
            rfl
          subst hb
          clear HK H
          go_wp2_with fail
          go_ret
          exact ⟨rfl, HB.out⟩
    | true =>
      obtain ⟨s, kd, lo, hi, ii, g, f, hvs, _, hA, hg, v0, v1, _⟩ := (HV.out.below HB.out).at i hiv
      subst hA
      have HVS := Lib.hid hvs
      clear hvs v0
      by_cases hkd : kd = 0
      · have hqk : (kd == 0) = true := by rw [beq_iff_eq]; exact hkd
        have hb : b = false := by
          rw [← H.out, formedB, HN1.out, HVL.out, Int.toNat_natCast, HVS.out, Option.map_some, Option.getD_some, decide_eq_true hkd]; simp
        subst hb
        clear H
        go_wp2_with fail
        go_ret
        exact ⟨rfl, HB.out⟩
      · have hqk := beq_of hkd
        have HN : Hid (formedN vs true o i ks.length = true) := by
          show _ = _; rw [HN1.out, HVL.out, Int.toNat_natCast, HVS.out, Option.map_some, Option.getD_some, decide_eq_false hkd, decide_eq_true (show (0 : Int) ≤ (i : Int) by omega), decide_eq_true hiv']; rfl
        clear HN1 hkd
        go_upto_region 10 with fail
        go_loopw [8] (fun v wr => ∃ k : Nat, k ≤ l ∧ v = .int .i64 k ∧ Hid (∀ i (hi : i < ks.length), i < k → formedB vs true ks[i] = true) ∧ Hid (Below w.heap.size w wr) ∧ Hid (Cs wr p [.int .i64 o, .int .i64 (i : Int), .slice A l c])) (fun v _ => l - (intOf v).toNat)
        case atStart => exact ⟨0, by omega, rfl, fun i _ hi => absurd hi (by omega), HB, HC⟩
        case round =>
          clear HB HC r0 r1 r2
          obtain ⟨k, hk, rfl, HK, HB, HC⟩ := hrel
          have r0 := HC.out.at 0 _ rfl
          have r1 := HC.out.at 1 _ rfl
          have r2 := HC.out.at 2 _ rfl
          by_cases hlt : k < l
          · have hkl : k < ks.length := by rw [HL.out]; exact hlt
            obtain ⟨o', n', ks', g, f, A', c', hkid, hA, hg, hok, k0, k1, k2⟩ := (HT.out.below HB.out).kid k hkl
            subst hA
            obtain ⟨l', hl'⟩ : ∃ l', ks'.length = l' := ⟨_, rfl⟩
            rw [hl'] at k2
            obtain ⟨x, hx⟩ : ∃ x, formedB vs true (.mk o' n' ks') = x := ⟨_, rfl⟩
            have HX := Lib.hid hx
            have HKID := Lib.hid hkid
            have hcm : Tm.cnt (.mk o' n' ks') ≤ m := by have := Tm.cntL_get ks k hkl; rw [hkid] at this; exact Nat.le_trans this HM.out
            have HCM := Lib.hid hcm
            have HOK := Lib.hid hok
            have HVB := Lib.hid (HV.out.below HB.out)
            have HL' := Lib.hid hl'
            have hlt' : (k : Int) < (l : Int) := by omega
            clear hok hkid hl' hx hcm
            go_wp2_with fail
            go_at_call 79
            refine (IH.out o' n' ks' l' A' c' true _ x HL'.out HCM.out HOK.out HVB.out HX).mono ?_
            rintro e w3 ⟨rfl, hb3⟩
            have HB3 := Lib.hid (HB.out.trans (hb3.mono HB.out.size))
            have HC3 := Lib.hid (HC.out.next hb3)
            clear hb3 HC HOK HVB HB k0 k1 k2 r0 r1 r2
            cases x with
            | true =>
              have HK' : Hid (∀ i (hi : i < ks.length), i < k + 1 → formedB vs true ks[i] = true) := fun i hi hik => by
                by_cases hki : i = k
                · subst hki; rw [HKID.out, HX.out]
                · exact HK.out i hi (by omega)
              clear HK
              go_wp2_with fail
              go_roundw
              case rel => first | exact ⟨k + 1, by omega, by go_num, HK', HB3, HC3⟩ | ((repeat apply Exists.intro); exact ⟨⟨k + 1, by omega, by go_num, HK', HB3, HC3⟩, rfl⟩)
              case measure => simp [intOf]; omega
            | false =>
              have hb : b = false := by
                rw [← H.out, formedB, formedL_take vs true ks k hkl (by rw [HKID.out, HX.out])]
                simp
              subst hb
              clear HK H
              go_wp2_with fail
              go_ret
              exact ⟨rfl, HB3.out⟩
          · have hb : b = true := by
              rw [← H.out, formedB, HN.out, formedL_all vs true ks fun i hi => HK.out i hi (by have := HL.out; omega)]
              rfl
            subst hb
            clear HK H
            go_wp2_with fail
            go_ret
            exact ⟨rfl, HB.out⟩

theorem ret_two {a b c d : Int} (h : a = c) (k : b = d) : Ending.returned (.tuple #[.int .i64 a, .int .i64 b]) = .returned (.tuple #[.int .i64 c, .int .i64 d]) := by rw [h, k]
/-- Ranges in memory, their ends apart. -/
structure Zp (W : World) (Al : Option Addr) (cl : Nat) (Ah : Option Addr) (ch l : Nat) (k : List (Int × Int)) : Prop where
  lo : Zs W Al l cl (k.map Prod.fst)
  hi : Zs W Ah l ch (k.map Prod.snd)
theorem Zp.below {W W' : World} {Al : Option Addr} {cl : Nat} {Ah : Option Addr} {ch l : Nat} {k : List (Int × Int)} (h : Zp W Al cl Ah ch l k) (hb : Below W.heap.size W W') : Zp W' Al cl Ah ch l k := ⟨h.lo.below hb, h.hi.below hb⟩
theorem map_fst (k : List (Int × Int)) (j : Nat) : (k.map Prod.fst).getD j 0 = (k.getD j (0, 0)).1 := by
  simp only [List.getD_eq_getElem?_getD, List.getElem?_map]
  cases k[j]? <;> rfl
theorem map_snd (k : List (Int × Int)) (j : Nat) : (k.map Prod.snd).getD j 0 = (k.getD j (0, 0)).2 := by
  simp only [List.getD_eq_getElem?_getD, List.getElem?_map]
  cases k[j]? <;> rfl
theorem Zp.len {W : World} {Al : Option Addr} {cl : Nat} {Ah : Option Addr} {ch l : Nat} {k : List (Int × Int)} (h : Zp W Al cl Ah ch l k) : k.length = l := by have := h.lo.len; rwa [List.length_map] at this
/-- Where the ends lie. -/
theorem Zp.at {W : World} {Al : Option Addr} {cl : Nat} {Ah : Option Addr} {ch l : Nat} {k : List (Int × Int)} (h : Zp W Al cl Ah ch l k) (h1 : 1 ≤ l) :
    ∃ g f g' f', Al = some ⟨g, f, none⟩ ∧ Ah = some ⟨g', f', none⟩ ∧ g < W.heap.size ∧ g' < W.heap.size ∧ ∀ j, j < l → W.cell? ⟨g, f + j, none⟩ = some (.int .i64 (k.getD j (0, 0)).1) ∧ W.cell? ⟨g', f' + j, none⟩ = some (.int .i64 (k.getD j (0, 0)).2) := by
  obtain ⟨g, f, e, hg, hc⟩ := h.lo.mem (by omega)
  obtain ⟨g', f', e', hg', hc'⟩ := h.hi.mem (by omega)
  refine ⟨g, f, g', f', e, e', hg, hg', fun j hj => ?_⟩
  have := hc j hj
  rw [map_fst] at this
  have t := hc' j hj
  rw [map_snd] at t
  exact ⟨this, t⟩
theorem rleast_any (a b : Int) (w : World) : Calls Tryz.prog 83 #[.int .i64 a, .int .i64 b] w fun e w' => e = .returned (.int .i64 (min a b)) ∧ w' = w := (rleast_b a b _ rfl w).mono fun _ _ h => ⟨h.1, h.2.symm⟩
theorem rmost_any (a b : Int) (w : World) : Calls Tryz.prog 82 #[.int .i64 a, .int .i64 b] w fun e w' => e = .returned (.int .i64 (max a b)) ∧ w' = w := (rmost_b a b _ rfl w).mono fun _ _ h => ⟨h.1, h.2.symm⟩
theorem rsize_any (a : Int) (ha : -9007199254740992 ≤ a) (w : World) : Calls Tryz.prog 107 #[.int .i64 a] w fun e w' => e = .returned (.int .i64 (a.natAbs : Int)) ∧ w' = w := (rsize_b a _ rfl ha w).mono fun _ _ h => ⟨h.1, h.2.symm⟩

set_option maxRecDepth 100000 in
set_option maxHeartbeats 4000000 in
theorem rspan_lit (vs : List Vr) (Av : Option Addr) (lv cv : Nat) (n : Int) (A : Option Addr) (l c : Nat) (k : List (Int × Int)) (Al : Option Addr) (cl : Nat) (Ah : Option Addr) (ch lk : Nat) (R : Int × Int) (H : Hid (ruleP vs 0 n k = R)) (h1 : -1048576 ≤ n) (h2 : n ≤ 1048576) (w : World) (hv : VOk w Av lv cv vs) (hr : Zp w Al cl Ah ch lk k) :
    Calls Tryz.prog 99 #[.slice Av lv cv, .agg #[.int .i64 0, .int .i64 n, .slice A l c], .slice Al lk cl, .slice Ah lk ch] w fun e w' => e = .returned (.tuple #[.int .i64 R.1, .int .i64 R.2]) ∧ Below w.heap.size w w' := by
  have hlk : lk ≤ 9223372036854775807 := by have h1 := hr.lo.cap; have h2 := hr.lo.big; unfold maxLen at h2; omega
  have hlv : lv ≤ 9223372036854775807 := by have h1 := hv.cap; have h2 := hv.big; unfold maxLen at h2; omega
  have hba := (Below.refl w.heap.size w).alloc (Nat.le_refl _) (.cells #[.int .i64 0, .int .i64 n, .slice A l c] 53)
  have HB := Lib.hid hba
  have HC := Lib.hid (Cs.new w #[.int .i64 0, .int .i64 n, .slice A l c] 53)
  have HV := Lib.hid (hv.below hba)
  have HK := Lib.hid (hr.below hba)
  obtain ⟨w1, hw1⟩ : ∃ w1, w.alloc (.cells #[.int .i64 0, .int .i64 n, .slice A l c] 53) = w1 := ⟨_, rfl⟩
  obtain ⟨p, hp⟩ : ∃ p, w.heap.size = p := ⟨_, rfl⟩
  rw [hw1] at HB HC HV HK
  have HP := Lib.hid hp
  rw [hp] at HC
  have HW := Lib.hid hw1
  clear hba hv hr hw1 hp
  have HR0 : Hid True := Lib.hid trivial
  have HR1 : Hid True := Lib.hid trivial
  have hR : R = (n, n) := by rw [← H.out]; unfold ruleP; rfl
  subst hR
  clear H
  have d1 : decide (n < -1048576) = false := decide_eq_false (by omega)
  have d2 : decide (1048576 < n) = false := decide_eq_false (by omega)
  have r0 := HC.out.at 0 _ rfl
  have r1 := HC.out.at 1 _ rfl
  have r2 := HC.out.at 2 _ rfl
  have hpl := HC.out.lt
  go_enter Tryz.func99, Tryz.ntmps99
  go_upto_region 1 with fail
  rw [HW.out, HP.out]
  go_upto_region 5 with fail
  go_quiet (fail)
  go_wp2_with fail
  go_returns
  exact ⟨by first | rfl | exact ret_two (by have := HR0.out; omega) (by have := HR1.out; omega), below_drewN HB.out _⟩

set_option maxRecDepth 100000 in
set_option maxHeartbeats 4000000 in
theorem rspan_far1 (vs : List Vr) (Av : Option Addr) (lv cv : Nat) (n : Int) (A : Option Addr) (l c : Nat) (k : List (Int × Int)) (Al : Option Addr) (cl : Nat) (Ah : Option Addr) (ch lk : Nat) (R : Int × Int) (hR : R = (-1048577, 1048577)) (h1 : n < -1048576) (w : World) (hv : VOk w Av lv cv vs) (hr : Zp w Al cl Ah ch lk k) :
    Calls Tryz.prog 99 #[.slice Av lv cv, .agg #[.int .i64 0, .int .i64 n, .slice A l c], .slice Al lk cl, .slice Ah lk ch] w fun e w' => e = .returned (.tuple #[.int .i64 R.1, .int .i64 R.2]) ∧ Below w.heap.size w w' := by
  have hlk : lk ≤ 9223372036854775807 := by have h1 := hr.lo.cap; have h2 := hr.lo.big; unfold maxLen at h2; omega
  have hlv : lv ≤ 9223372036854775807 := by have h1 := hv.cap; have h2 := hv.big; unfold maxLen at h2; omega
  have hba := (Below.refl w.heap.size w).alloc (Nat.le_refl _) (.cells #[.int .i64 0, .int .i64 n, .slice A l c] 53)
  have HB := Lib.hid hba
  have HC := Lib.hid (Cs.new w #[.int .i64 0, .int .i64 n, .slice A l c] 53)
  have HV := Lib.hid (hv.below hba)
  have HK := Lib.hid (hr.below hba)
  obtain ⟨w1, hw1⟩ : ∃ w1, w.alloc (.cells #[.int .i64 0, .int .i64 n, .slice A l c] 53) = w1 := ⟨_, rfl⟩
  obtain ⟨p, hp⟩ : ∃ p, w.heap.size = p := ⟨_, rfl⟩
  rw [hw1] at HB HC HV HK
  have HP := Lib.hid hp
  rw [hp] at HC
  have HW := Lib.hid hw1
  clear hba hv hr hw1 hp
  have HR0 : Hid True := Lib.hid trivial
  have HR1 : Hid True := Lib.hid trivial
  subst hR
  have d1 : decide (n < -1048576) = true := decide_eq_true h1
  have r0 := HC.out.at 0 _ rfl
  have r1 := HC.out.at 1 _ rfl
  have r2 := HC.out.at 2 _ rfl
  have hpl := HC.out.lt
  go_enter Tryz.func99, Tryz.ntmps99
  go_upto_region 1 with fail
  rw [HW.out, HP.out]
  go_wp2_with fail
  go_returns
  exact ⟨by first | rfl | exact ret_two (by have := HR0.out; omega) (by have := HR1.out; omega), HB.out⟩

set_option maxRecDepth 100000 in
set_option maxHeartbeats 4000000 in
theorem rspan_far2 (vs : List Vr) (Av : Option Addr) (lv cv : Nat) (n : Int) (A : Option Addr) (l c : Nat) (k : List (Int × Int)) (Al : Option Addr) (cl : Nat) (Ah : Option Addr) (ch lk : Nat) (R : Int × Int) (hR : R = (-1048577, 1048577)) (h1 : ¬ n < -1048576) (h2 : 1048576 < n) (w : World) (hv : VOk w Av lv cv vs) (hr : Zp w Al cl Ah ch lk k) :
    Calls Tryz.prog 99 #[.slice Av lv cv, .agg #[.int .i64 0, .int .i64 n, .slice A l c], .slice Al lk cl, .slice Ah lk ch] w fun e w' => e = .returned (.tuple #[.int .i64 R.1, .int .i64 R.2]) ∧ Below w.heap.size w w' := by
  have hlk : lk ≤ 9223372036854775807 := by have h1 := hr.lo.cap; have h2 := hr.lo.big; unfold maxLen at h2; omega
  have hlv : lv ≤ 9223372036854775807 := by have h1 := hv.cap; have h2 := hv.big; unfold maxLen at h2; omega
  have hba := (Below.refl w.heap.size w).alloc (Nat.le_refl _) (.cells #[.int .i64 0, .int .i64 n, .slice A l c] 53)
  have HB := Lib.hid hba
  have HC := Lib.hid (Cs.new w #[.int .i64 0, .int .i64 n, .slice A l c] 53)
  have HV := Lib.hid (hv.below hba)
  have HK := Lib.hid (hr.below hba)
  obtain ⟨w1, hw1⟩ : ∃ w1, w.alloc (.cells #[.int .i64 0, .int .i64 n, .slice A l c] 53) = w1 := ⟨_, rfl⟩
  obtain ⟨p, hp⟩ : ∃ p, w.heap.size = p := ⟨_, rfl⟩
  rw [hw1] at HB HC HV HK
  have HP := Lib.hid hp
  rw [hp] at HC
  have HW := Lib.hid hw1
  clear hba hv hr hw1 hp
  have HR0 : Hid True := Lib.hid trivial
  have HR1 : Hid True := Lib.hid trivial
  subst hR
  have d1 : decide (n < -1048576) = false := decide_eq_false h1
  have d2 : decide (1048576 < n) = true := decide_eq_true h2
  have r0 := HC.out.at 0 _ rfl
  have r1 := HC.out.at 1 _ rfl
  have r2 := HC.out.at 2 _ rfl
  have hpl := HC.out.lt
  go_enter Tryz.func99, Tryz.ntmps99
  go_upto_region 1 with fail
  rw [HW.out, HP.out]
  go_wp2_with fail
  go_returns
  exact ⟨by first | rfl | exact ret_two (by have := HR0.out; omega) (by have := HR1.out; omega), HB.out⟩

set_option maxRecDepth 100000 in
set_option maxHeartbeats 4000000 in
theorem rspan_ref (vs : List Vr) (Av : Option Addr) (lv cv : Nat) (n : Int) (A : Option Addr) (l c : Nat) (k : List (Int × Int)) (Al : Option Addr) (cl : Nat) (Ah : Option Addr) (ch lk : Nat) (R : Int × Int) (H : Hid (ruleP vs 24 n k = R)) (i : Nat) (hn : n = (i : Int)) (hi : i < lv) (w : World) (hv : VOk w Av lv cv vs) (hr : Zp w Al cl Ah ch lk k) :
    Calls Tryz.prog 99 #[.slice Av lv cv, .agg #[.int .i64 24, .int .i64 n, .slice A l c], .slice Al lk cl, .slice Ah lk ch] w fun e w' => e = .returned (.tuple #[.int .i64 R.1, .int .i64 R.2]) ∧ Below w.heap.size w w' := by
  have hlk : lk ≤ 9223372036854775807 := by have h1 := hr.lo.cap; have h2 := hr.lo.big; unfold maxLen at h2; omega
  have hlv : lv ≤ 9223372036854775807 := by have h1 := hv.cap; have h2 := hv.big; unfold maxLen at h2; omega
  have hba := (Below.refl w.heap.size w).alloc (Nat.le_refl _) (.cells #[.int .i64 24, .int .i64 n, .slice A l c] 53)
  have HB := Lib.hid hba
  have HC := Lib.hid (Cs.new w #[.int .i64 24, .int .i64 n, .slice A l c] 53)
  have HV := Lib.hid (hv.below hba)
  have HK := Lib.hid (hr.below hba)
  obtain ⟨w1, hw1⟩ : ∃ w1, w.alloc (.cells #[.int .i64 24, .int .i64 n, .slice A l c] 53) = w1 := ⟨_, rfl⟩
  obtain ⟨p, hp⟩ : ∃ p, w.heap.size = p := ⟨_, rfl⟩
  rw [hw1] at HB HC HV HK
  have HP := Lib.hid hp
  rw [hp] at HC
  have HW := Lib.hid hw1
  clear hba hv hr hw1 hp
  have HR0 : Hid True := Lib.hid trivial
  have HR1 : Hid True := Lib.hid trivial
  subst hn
  obtain ⟨s, kd, lo, hh, ii, g, f, hvs, _, hA, hg, v0, v1, v2, v3, v4⟩ := HV.out.at i hi
  subst hA
  have hR : R = (lo, hh) := by rw [← H.out]; unfold ruleP; rw [if_neg (by decide), if_pos rfl, Int.toNat_natCast, hvs]; rfl
  subst hR
  clear H
  have hi' : (i : Int) < (lv : Int) := by omega
  have hi0 : (0 : Int) ≤ (i : Int) := by omega
  clear hvs v0 v1 v4
  have r0 := HC.out.at 0 _ rfl
  have r1 := HC.out.at 1 _ rfl
  have r2 := HC.out.at 2 _ rfl
  have hpl := HC.out.lt
  go_enter Tryz.func99, Tryz.ntmps99
  go_upto_region 1 with fail
  rw [HW.out, HP.out]
  go_upto_region 7 with fail
  go_quiet (fail)
  go_wp2_with fail
  go_returns
  exact ⟨by first | rfl | exact ret_two (by have := HR0.out; omega) (by have := HR1.out; omega), below_drewN HB.out _⟩

set_option maxRecDepth 100000 in
set_option maxHeartbeats 4000000 in
theorem rspan_neg (vs : List Vr) (Av : Option Addr) (lv cv : Nat) (n : Int) (A : Option Addr) (l c : Nat) (k : List (Int × Int)) (Al : Option Addr) (cl : Nat) (Ah : Option Addr) (ch lk : Nat) (R : Int × Int) (H : Hid (ruleP vs 6 n k = R)) (hl : 1 ≤ lk) (hB0 : inB (k.getD 0 (0, 0))) (w : World) (hv : VOk w Av lv cv vs) (hr : Zp w Al cl Ah ch lk k) :
    Calls Tryz.prog 99 #[.slice Av lv cv, .agg #[.int .i64 6, .int .i64 n, .slice A l c], .slice Al lk cl, .slice Ah lk ch] w fun e w' => e = .returned (.tuple #[.int .i64 R.1, .int .i64 R.2]) ∧ Below w.heap.size w w' := by
  have hlk : lk ≤ 9223372036854775807 := by have h1 := hr.lo.cap; have h2 := hr.lo.big; unfold maxLen at h2; omega
  have hlv : lv ≤ 9223372036854775807 := by have h1 := hv.cap; have h2 := hv.big; unfold maxLen at h2; omega
  have hba := (Below.refl w.heap.size w).alloc (Nat.le_refl _) (.cells #[.int .i64 6, .int .i64 n, .slice A l c] 53)
  have HB := Lib.hid hba
  have HC := Lib.hid (Cs.new w #[.int .i64 6, .int .i64 n, .slice A l c] 53)
  have HV := Lib.hid (hv.below hba)
  have HK := Lib.hid (hr.below hba)
  obtain ⟨w1, hw1⟩ : ∃ w1, w.alloc (.cells #[.int .i64 6, .int .i64 n, .slice A l c] 53) = w1 := ⟨_, rfl⟩
  obtain ⟨p, hp⟩ : ∃ p, w.heap.size = p := ⟨_, rfl⟩
  rw [hw1] at HB HC HV HK
  have HP := Lib.hid hp
  rw [hp] at HC
  have HW := Lib.hid hw1
  clear hba hv hr hw1 hp
  obtain ⟨g, f, g', f', hA, hA', hg, hg', hkc⟩ := HK.out.at (by omega)
  subst hA hA'
  obtain ⟨k00, k01⟩ := hkc 0 (by omega)
  rw [Nat.add_zero] at k00 k01
  obtain ⟨⟨a0, a1⟩, ha⟩ : ∃ x, k.getD 0 (0, 0) = x := ⟨_, rfl⟩
  obtain ⟨⟨b0, b1⟩, hb⟩ : ∃ x, k.getD 1 (0, 0) = x := ⟨_, rfl⟩
  rw [ha] at k00 k01 hB0
  simp only at k00 k01
  obtain ⟨hB1, hB2, hB3, hB4⟩ := hB0
  simp only at hB1 hB2 hB3 hB4
  have HR0 : Hid True := Lib.hid trivial
  have HR1 : Hid True := Lib.hid trivial
  have hw0 : IntKind.i64.wrap (-a0) = -a0 := IntWalk.i64_in _ (by omega)
  have hw1 : IntKind.i64.wrap (-a1) = -a1 := IntWalk.i64_in _ (by omega)
  have hR : R = (-a1, -a0) := by rw [← H.out]; unfold ruleP; rw [if_neg (by decide), if_neg (by decide), if_pos rfl, ha]
  subst hR
  clear H
  clear ha hb hkc
  have r0 := HC.out.at 0 _ rfl
  have r1 := HC.out.at 1 _ rfl
  have r2 := HC.out.at 2 _ rfl
  have hpl := HC.out.lt
  go_enter Tryz.func99, Tryz.ntmps99
  go_upto_region 1 with fail
  rw [HW.out, HP.out]
  go_upto_region 9 with fail
  go_quiet (fail)
  go_wp2_with fail
  go_returns
  exact ⟨by first | rfl | exact ret_two (by have := HR0.out; omega) (by have := HR1.out; omega), below_drewN HB.out _⟩

set_option maxRecDepth 100000 in
set_option maxHeartbeats 4000000 in
theorem rspan_add (vs : List Vr) (Av : Option Addr) (lv cv : Nat) (n : Int) (A : Option Addr) (l c : Nat) (k : List (Int × Int)) (Al : Option Addr) (cl : Nat) (Ah : Option Addr) (ch lk : Nat) (R : Int × Int) (H : Hid (ruleP vs 8 n k = R)) (hl : lk = 2) (hB0 : inB (k.getD 0 (0, 0))) (hB0' : inB (k.getD 1 (0, 0))) (w : World) (hv : VOk w Av lv cv vs) (hr : Zp w Al cl Ah ch lk k) :
    Calls Tryz.prog 99 #[.slice Av lv cv, .agg #[.int .i64 8, .int .i64 n, .slice A l c], .slice Al lk cl, .slice Ah lk ch] w fun e w' => e = .returned (.tuple #[.int .i64 R.1, .int .i64 R.2]) ∧ Below w.heap.size w w' := by
  have hlk : lk ≤ 9223372036854775807 := by have h1 := hr.lo.cap; have h2 := hr.lo.big; unfold maxLen at h2; omega
  have hlv : lv ≤ 9223372036854775807 := by have h1 := hv.cap; have h2 := hv.big; unfold maxLen at h2; omega
  have hba := (Below.refl w.heap.size w).alloc (Nat.le_refl _) (.cells #[.int .i64 8, .int .i64 n, .slice A l c] 53)
  have HB := Lib.hid hba
  have HC := Lib.hid (Cs.new w #[.int .i64 8, .int .i64 n, .slice A l c] 53)
  have HV := Lib.hid (hv.below hba)
  have HK := Lib.hid (hr.below hba)
  obtain ⟨w1, hw1⟩ : ∃ w1, w.alloc (.cells #[.int .i64 8, .int .i64 n, .slice A l c] 53) = w1 := ⟨_, rfl⟩
  obtain ⟨p, hp⟩ : ∃ p, w.heap.size = p := ⟨_, rfl⟩
  rw [hw1] at HB HC HV HK
  have HP := Lib.hid hp
  rw [hp] at HC
  have HW := Lib.hid hw1
  clear hba hv hr hw1 hp
  obtain ⟨g, f, g', f', hA, hA', hg, hg', hkc⟩ := HK.out.at (by omega)
  subst hA hA'
  obtain ⟨k00, k01⟩ := hkc 0 (by omega)
  rw [Nat.add_zero] at k00 k01
  obtain ⟨⟨a0, a1⟩, ha⟩ : ∃ x, k.getD 0 (0, 0) = x := ⟨_, rfl⟩
  obtain ⟨⟨b0, b1⟩, hb⟩ : ∃ x, k.getD 1 (0, 0) = x := ⟨_, rfl⟩
  rw [ha] at k00 k01 hB0
  simp only at k00 k01
  obtain ⟨hB1, hB2, hB3, hB4⟩ := hB0
  simp only at hB1 hB2 hB3 hB4
  obtain ⟨k10, k11⟩ := hkc 1 (by omega)
  rw [hb] at k10 k11 hB0'
  simp only at k10 k11
  obtain ⟨hB5, hB6, hB7, hB8⟩ := hB0'
  simp only at hB5 hB6 hB7 hB8
  have HR0 : Hid True := Lib.hid trivial
  have HR1 : Hid True := Lib.hid trivial
  have hw0 : IntKind.i64.wrap (a0 + b0) = a0 + b0 := IntWalk.i64_in _ (by omega)
  have hw1 : IntKind.i64.wrap (a1 + b1) = a1 + b1 := IntWalk.i64_in _ (by omega)
  have hR : R = (a0 + b0, a1 + b1) := by rw [← H.out]; unfold ruleP; rw [if_neg (by decide), if_neg (by decide), if_neg (by decide), if_pos rfl, ha, hb]
  subst hR
  clear H
  clear ha hb hkc
  have r0 := HC.out.at 0 _ rfl
  have r1 := HC.out.at 1 _ rfl
  have r2 := HC.out.at 2 _ rfl
  have hpl := HC.out.lt
  go_enter Tryz.func99, Tryz.ntmps99
  go_upto_region 1 with fail
  rw [HW.out, HP.out]
  go_upto_region 11 with fail
  go_quiet (fail)
  go_wp2_with fail
  go_returns
  exact ⟨by first | rfl | exact ret_two (by have := HR0.out; omega) (by have := HR1.out; omega), below_drewN HB.out _⟩

set_option maxRecDepth 100000 in
set_option maxHeartbeats 4000000 in
theorem rspan_sub (vs : List Vr) (Av : Option Addr) (lv cv : Nat) (n : Int) (A : Option Addr) (l c : Nat) (k : List (Int × Int)) (Al : Option Addr) (cl : Nat) (Ah : Option Addr) (ch lk : Nat) (R : Int × Int) (H : Hid (ruleP vs 9 n k = R)) (hl : lk = 2) (hB0 : inB (k.getD 0 (0, 0))) (hB0' : inB (k.getD 1 (0, 0))) (w : World) (hv : VOk w Av lv cv vs) (hr : Zp w Al cl Ah ch lk k) :
    Calls Tryz.prog 99 #[.slice Av lv cv, .agg #[.int .i64 9, .int .i64 n, .slice A l c], .slice Al lk cl, .slice Ah lk ch] w fun e w' => e = .returned (.tuple #[.int .i64 R.1, .int .i64 R.2]) ∧ Below w.heap.size w w' := by
  have hlk : lk ≤ 9223372036854775807 := by have h1 := hr.lo.cap; have h2 := hr.lo.big; unfold maxLen at h2; omega
  have hlv : lv ≤ 9223372036854775807 := by have h1 := hv.cap; have h2 := hv.big; unfold maxLen at h2; omega
  have hba := (Below.refl w.heap.size w).alloc (Nat.le_refl _) (.cells #[.int .i64 9, .int .i64 n, .slice A l c] 53)
  have HB := Lib.hid hba
  have HC := Lib.hid (Cs.new w #[.int .i64 9, .int .i64 n, .slice A l c] 53)
  have HV := Lib.hid (hv.below hba)
  have HK := Lib.hid (hr.below hba)
  obtain ⟨w1, hw1⟩ : ∃ w1, w.alloc (.cells #[.int .i64 9, .int .i64 n, .slice A l c] 53) = w1 := ⟨_, rfl⟩
  obtain ⟨p, hp⟩ : ∃ p, w.heap.size = p := ⟨_, rfl⟩
  rw [hw1] at HB HC HV HK
  have HP := Lib.hid hp
  rw [hp] at HC
  have HW := Lib.hid hw1
  clear hba hv hr hw1 hp
  obtain ⟨g, f, g', f', hA, hA', hg, hg', hkc⟩ := HK.out.at (by omega)
  subst hA hA'
  obtain ⟨k00, k01⟩ := hkc 0 (by omega)
  rw [Nat.add_zero] at k00 k01
  obtain ⟨⟨a0, a1⟩, ha⟩ : ∃ x, k.getD 0 (0, 0) = x := ⟨_, rfl⟩
  obtain ⟨⟨b0, b1⟩, hb⟩ : ∃ x, k.getD 1 (0, 0) = x := ⟨_, rfl⟩
  rw [ha] at k00 k01 hB0
  simp only at k00 k01
  obtain ⟨hB1, hB2, hB3, hB4⟩ := hB0
  simp only at hB1 hB2 hB3 hB4
  obtain ⟨k10, k11⟩ := hkc 1 (by omega)
  rw [hb] at k10 k11 hB0'
  simp only at k10 k11
  obtain ⟨hB5, hB6, hB7, hB8⟩ := hB0'
  simp only at hB5 hB6 hB7 hB8
  have HR0 : Hid True := Lib.hid trivial
  have HR1 : Hid True := Lib.hid trivial
  have hw0 : IntKind.i64.wrap (a0 - b1) = a0 - b1 := IntWalk.i64_in _ (by omega)
  have hw1 : IntKind.i64.wrap (a1 - b0) = a1 - b0 := IntWalk.i64_in _ (by omega)
  have hR : R = (a0 - b1, a1 - b0) := by rw [← H.out]; unfold ruleP; rw [if_neg (by decide), if_neg (by decide), if_neg (by decide), if_neg (by decide), if_pos rfl, ha, hb]
  subst hR
  clear H
  clear ha hb hkc
  have r0 := HC.out.at 0 _ rfl
  have r1 := HC.out.at 1 _ rfl
  have r2 := HC.out.at 2 _ rfl
  have hpl := HC.out.lt
  go_enter Tryz.func99, Tryz.ntmps99
  go_upto_region 1 with fail
  rw [HW.out, HP.out]
  go_upto_region 13 with fail
  go_quiet (fail)
  go_wp2_with fail
  go_returns
  exact ⟨by first | rfl | exact ret_two (by have := HR0.out; omega) (by have := HR1.out; omega), below_drewN HB.out _⟩

set_option maxRecDepth 100000 in
set_option maxHeartbeats 4000000 in
theorem rspan_mul (vs : List Vr) (Av : Option Addr) (lv cv : Nat) (n : Int) (A : Option Addr) (l c : Nat) (k : List (Int × Int)) (Al : Option Addr) (cl : Nat) (Ah : Option Addr) (ch lk : Nat) (R : Int × Int) (H : Hid (ruleP vs 10 n k = R)) (hl : lk = 2) (hB0 : inB (k.getD 0 (0, 0))) (hB0' : inB (k.getD 1 (0, 0))) (w : World) (hv : VOk w Av lv cv vs) (hr : Zp w Al cl Ah ch lk k) :
    Calls Tryz.prog 99 #[.slice Av lv cv, .agg #[.int .i64 10, .int .i64 n, .slice A l c], .slice Al lk cl, .slice Ah lk ch] w fun e w' => e = .returned (.tuple #[.int .i64 R.1, .int .i64 R.2]) ∧ Below w.heap.size w w' := by
  have hlk : lk ≤ 9223372036854775807 := by have h1 := hr.lo.cap; have h2 := hr.lo.big; unfold maxLen at h2; omega
  have hlv : lv ≤ 9223372036854775807 := by have h1 := hv.cap; have h2 := hv.big; unfold maxLen at h2; omega
  have hba := (Below.refl w.heap.size w).alloc (Nat.le_refl _) (.cells #[.int .i64 10, .int .i64 n, .slice A l c] 53)
  have HB := Lib.hid hba
  have HC := Lib.hid (Cs.new w #[.int .i64 10, .int .i64 n, .slice A l c] 53)
  have HV := Lib.hid (hv.below hba)
  have HK := Lib.hid (hr.below hba)
  obtain ⟨w1, hw1⟩ : ∃ w1, w.alloc (.cells #[.int .i64 10, .int .i64 n, .slice A l c] 53) = w1 := ⟨_, rfl⟩
  obtain ⟨p, hp⟩ : ∃ p, w.heap.size = p := ⟨_, rfl⟩
  rw [hw1] at HB HC HV HK
  have HP := Lib.hid hp
  rw [hp] at HC
  have HW := Lib.hid hw1
  clear hba hv hr hw1 hp
  obtain ⟨g, f, g', f', hA, hA', hg, hg', hkc⟩ := HK.out.at (by omega)
  subst hA hA'
  obtain ⟨k00, k01⟩ := hkc 0 (by omega)
  rw [Nat.add_zero] at k00 k01
  obtain ⟨⟨a0, a1⟩, ha⟩ : ∃ x, k.getD 0 (0, 0) = x := ⟨_, rfl⟩
  obtain ⟨⟨b0, b1⟩, hb⟩ : ∃ x, k.getD 1 (0, 0) = x := ⟨_, rfl⟩
  rw [ha] at k00 k01 hB0
  simp only at k00 k01
  obtain ⟨hB1, hB2, hB3, hB4⟩ := hB0
  simp only at hB1 hB2 hB3 hB4
  obtain ⟨k10, k11⟩ := hkc 1 (by omega)
  rw [hb] at k10 k11 hB0'
  simp only at k10 k11
  obtain ⟨hB5, hB6, hB7, hB8⟩ := hB0'
  simp only at hB5 hB6 hB7 hB8
  have hE : R = mulR a0 a1 b0 b1 := by rw [← H.out]; unfold ruleP; rw [if_neg (by decide), if_neg (by decide), if_neg (by decide), if_neg (by decide), if_neg (by decide), if_pos rfl, ha, hb]
  have m1 := Int.natAbs_mul a0 b0
  have m2 := Int.natAbs_mul a0 b1
  have m3 := Int.natAbs_mul a1 b0
  have m4 := Int.natAbs_mul a1 b1
  have g1 : a0.natAbs * b0.natAbs ≤ 1048576 * 1048576 := Nat.mul_le_mul (by omega) (by omega)
  have g2 : a0.natAbs * b1.natAbs ≤ 1048576 * 1048576 := Nat.mul_le_mul (by omega) (by omega)
  have g3 : a1.natAbs * b0.natAbs ≤ 1048576 * 1048576 := Nat.mul_le_mul (by omega) (by omega)
  have g4 : a1.natAbs * b1.natAbs ≤ 1048576 * 1048576 := Nat.mul_le_mul (by omega) (by omega)
  rw [← m1] at g1
  rw [← m2] at g2
  rw [← m3] at g3
  rw [← m4] at g4
  obtain ⟨p1, hp1⟩ : ∃ z, a0 * b0 = z := ⟨_, rfl⟩
  obtain ⟨p2, hp2⟩ : ∃ z, a0 * b1 = z := ⟨_, rfl⟩
  obtain ⟨p3, hp3⟩ : ∃ z, a1 * b0 = z := ⟨_, rfl⟩
  obtain ⟨p4, hp4⟩ : ∃ z, a1 * b1 = z := ⟨_, rfl⟩
  unfold mulR at hE
  rw [hp1, hp2, hp3, hp4] at hE
  rw [hp1] at g1
  rw [hp2] at g2
  rw [hp3] at g3
  rw [hp4] at g4
  have hw1 : IntKind.i64.wrap (a0 * b0) = p1 := by rw [hp1]; exact IntWalk.i64_in _ (by omega)
  have hw2 : IntKind.i64.wrap (a0 * b1) = p2 := by rw [hp2]; exact IntWalk.i64_in _ (by omega)
  have hw3 : IntKind.i64.wrap (a1 * b0) = p3 := by rw [hp3]; exact IntWalk.i64_in _ (by omega)
  have hw4 : IntKind.i64.wrap (a1 * b1) = p4 := by rw [hp4]; exact IntWalk.i64_in _ (by omega)
  obtain ⟨R0, R1⟩ := R
  obtain ⟨hE0, hE1⟩ := Prod.mk.inj hE
  have HR0 : Hid (R0 = min (min p1 p2) (min p3 p4)) := Lib.hid (by omega)
  have HR1 : Hid (R1 = max (max p1 p2) (max p3 p4)) := Lib.hid (by omega)
  clear ha hb hkc H hE hE0 hE1 m1 m2 m3 m4 hp1 hp2 hp3 hp4 g1 g2 g3 g4
  have r0 := HC.out.at 0 _ rfl
  have r1 := HC.out.at 1 _ rfl
  have r2 := HC.out.at 2 _ rfl
  have hpl := HC.out.lt
  go_enter Tryz.func99, Tryz.ntmps99
  go_upto_region 1 with fail
  rw [HW.out, HP.out]
  go_upto_region 15 with fail
  go_quiet (fail)
  clear hw1 hw2 hw3 hw4
  go_wp2_with fail
  go_at_call 83
  refine (rleast_any p1 p2 _).mono ?_
  rintro e wy ⟨rfl, rfl⟩
  go_wp2_with fail
  go_at_call 83
  refine (rleast_any p3 p4 _).mono ?_
  rintro e wy ⟨rfl, rfl⟩
  go_wp2_with fail
  go_at_call 83
  refine (rleast_any (min p1 p2) (min p3 p4) _).mono ?_
  rintro e wy ⟨rfl, rfl⟩
  go_wp2_with fail
  go_at_call 82
  refine (rmost_any p1 p2 _).mono ?_
  rintro e wy ⟨rfl, rfl⟩
  go_wp2_with fail
  go_at_call 82
  refine (rmost_any p3 p4 _).mono ?_
  rintro e wy ⟨rfl, rfl⟩
  go_wp2_with fail
  go_at_call 82
  refine (rmost_any (max p1 p2) (max p3 p4) _).mono ?_
  rintro e wy ⟨rfl, rfl⟩
  go_wp2_with fail
  go_returns
  exact ⟨by first | rfl | exact ret_two (by have := HR0.out; omega) (by have := HR1.out; omega), below_drewN HB.out _⟩

def okQ (r : Int × Int) : Prop := r.1 ≤ r.2
theorem rsize_abs (a r : Int) (H : Hid ((a.natAbs : Int) = r)) (ha : -9007199254740992 ≤ a) (w : World) : Calls Tryz.prog 107 #[.int .i64 a] w fun e w' => e = .returned (.int .i64 r) ∧ w' = w := (rsize_b a r H ha w).mono fun _ _ h => ⟨h.1, h.2.symm⟩
theorem rmost_eq (a b r : Int) (H : Hid (max a b = r)) (w : World) : Calls Tryz.prog 82 #[.int .i64 a, .int .i64 b] w fun e w' => e = .returned (.int .i64 r) ∧ w' = w := (rmost_b a b r H w).mono fun _ _ h => ⟨h.1, h.2.symm⟩

set_option maxRecDepth 100000 in
set_option maxHeartbeats 4000000 in
theorem rspan_div (vs : List Vr) (Av : Option Addr) (lv cv : Nat) (n : Int) (A : Option Addr) (l c : Nat) (k : List (Int × Int)) (Al : Option Addr) (cl : Nat) (Ah : Option Addr) (ch lk : Nat) (R : Int × Int) (H : Hid (ruleP vs 11 n k = R)) (hl : lk = 2) (hB0 : inB (k.getD 0 (0, 0))) (hB0' : inB (k.getD 1 (0, 0))) (hok : okQ (k.getD 0 (0, 0))) (w : World) (hv : VOk w Av lv cv vs) (hr : Zp w Al cl Ah ch lk k) :
    Calls Tryz.prog 99 #[.slice Av lv cv, .agg #[.int .i64 11, .int .i64 n, .slice A l c], .slice Al lk cl, .slice Ah lk ch] w fun e w' => e = .returned (.tuple #[.int .i64 R.1, .int .i64 R.2]) ∧ Below w.heap.size w w' := by
  have hlk : lk ≤ 9223372036854775807 := by have h1 := hr.lo.cap; have h2 := hr.lo.big; unfold maxLen at h2; omega
  have hlv : lv ≤ 9223372036854775807 := by have h1 := hv.cap; have h2 := hv.big; unfold maxLen at h2; omega
  have hba := (Below.refl w.heap.size w).alloc (Nat.le_refl _) (.cells #[.int .i64 11, .int .i64 n, .slice A l c] 53)
  have HB := Lib.hid hba
  have HC := Lib.hid (Cs.new w #[.int .i64 11, .int .i64 n, .slice A l c] 53)
  have HV := Lib.hid (hv.below hba)
  have HK := Lib.hid (hr.below hba)
  obtain ⟨w1, hw1⟩ : ∃ w1, w.alloc (.cells #[.int .i64 11, .int .i64 n, .slice A l c] 53) = w1 := ⟨_, rfl⟩
  obtain ⟨p, hp⟩ : ∃ p, w.heap.size = p := ⟨_, rfl⟩
  rw [hw1] at HB HC HV HK
  have HP := Lib.hid hp
  rw [hp] at HC
  have HW := Lib.hid hw1
  clear hba hv hr hw1 hp
  obtain ⟨g, f, g', f', hA, hA', hg, hg', hkc⟩ := HK.out.at (by omega)
  subst hA hA'
  obtain ⟨k00, k01⟩ := hkc 0 (by omega)
  rw [Nat.add_zero] at k00 k01
  obtain ⟨⟨a0, a1⟩, ha⟩ : ∃ x, k.getD 0 (0, 0) = x := ⟨_, rfl⟩
  obtain ⟨⟨b0, b1⟩, hb⟩ : ∃ x, k.getD 1 (0, 0) = x := ⟨_, rfl⟩
  rw [ha] at k00 k01 hB0
  simp only at k00 k01
  obtain ⟨hB1, hB2, hB3, hB4⟩ := hB0
  simp only at hB1 hB2 hB3 hB4
  obtain ⟨k10, k11⟩ := hkc 1 (by omega)
  rw [hb] at k10 k11 hB0'
  simp only at k10 k11
  obtain ⟨hB5, hB6, hB7, hB8⟩ := hB0'
  simp only at hB5 hB6 hB7 hB8
  have hRR : R = (if 0 ≤ a0 ∧ 0 ≤ b0 then ((0 : Int), max a1 (-a0)) else (-max a1 (-a0), max a1 (-a0))) := by rw [← H.out]; unfold ruleP; rw [if_neg (by decide), if_neg (by decide), if_neg (by decide), if_neg (by decide), if_neg (by decide), if_neg (by decide), if_pos rfl, ha, hb]
  have hmm : max a1 (-a0) = max (a0.natAbs : Int) (a1.natAbs : Int) := by have := hok; rw [ha] at this; unfold okQ at this; simp only at this; omega
  rw [hmm] at hRR
  obtain ⟨m, hm⟩ : ∃ m, max (a0.natAbs : Int) (a1.natAbs : Int) = m := ⟨_, rfl⟩
  rw [hm] at hRR
  have hm6 : 0 ≤ m ∧ m ≤ 1048576 := by omega
  obtain ⟨hm0, hm6⟩ := hm6
  have hwm : IntKind.i64.wrap (-m) = -m := IntWalk.i64_in _ (by omega)
  have HMM := Lib.hid hm
  have HRR := Lib.hid hRR
  clear ha hb hkc H hm hmm hRR hok
  obtain ⟨n0, hn0⟩ : ∃ z, (a0.natAbs : Int) = z := ⟨_, rfl⟩
  obtain ⟨n1, hn1⟩ : ∃ z, (a1.natAbs : Int) = z := ⟨_, rfl⟩
  rw [hn0, hn1] at HMM
  have HN0 := Lib.hid hn0
  have HN1 := Lib.hid hn1
  clear hn0 hn1
  have TK : Hid True := Lib.hid trivial
  have HR0 : Hid True := Lib.hid trivial
  have HR1 : Hid True := Lib.hid trivial
  have r0 := HC.out.at 0 _ rfl
  have r1 := HC.out.at 1 _ rfl
  have r2 := HC.out.at 2 _ rfl
  have hpl := HC.out.lt
  by_cases h0 : 0 ≤ a0
  · by_cases h1 : 0 ≤ b0
    · have hR : R = (0, m) := by rw [HRR.out, if_pos ⟨h0, h1⟩]
      have d0 : decide (0 ≤ a0) = true := decide_eq_true h0
      have d1 : decide (0 ≤ b0) = true := decide_eq_true h1
      subst hR
      go_enter Tryz.func99, Tryz.ntmps99
      go_upto_region 1 with fail
      rw [HW.out, HP.out]
      go_upto_region 18 with fail
      go_quiet (first | ((go_at_call 107; exact Calls.quiet_of_same (rsize_abs _ _ (by first | exact HN0 | exact HN1) (by omega) _))) | ((go_at_call 82; exact Calls.quiet_of_same (rmost_eq _ _ m HMM _))))
      go_wp2_with fail
      go_returns
      exact ⟨by first | rfl | exact ret_two (by have := HR0.out; omega) (by have := HR1.out; omega), below_drewN HB.out _⟩
    · have hR : R = (-m, m) := by rw [HRR.out, if_neg (fun h => h1 h.2)]
      have d0 : decide (0 ≤ a0) = true := decide_eq_true h0
      have d1 : decide (0 ≤ b0) = false := decide_eq_false h1
      subst hR
      go_enter Tryz.func99, Tryz.ntmps99
      go_upto_region 1 with fail
      rw [HW.out, HP.out]
      go_upto_region 18 with fail
      go_quiet (first | ((go_at_call 107; exact Calls.quiet_of_same (rsize_abs _ _ (by first | exact HN0 | exact HN1) (by omega) _))) | ((go_at_call 82; exact Calls.quiet_of_same (rmost_eq _ _ m HMM _))))
      go_wp2_with fail
      go_returns
      exact ⟨by first | rfl | exact ret_two (by have := HR0.out; omega) (by have := HR1.out; omega), below_drewN HB.out _⟩
  · have hR : R = (-m, m) := by rw [HRR.out, if_neg (fun h => h0 h.1)]
    have d0 : decide (0 ≤ a0) = false := decide_eq_false h0
    subst hR
    go_enter Tryz.func99, Tryz.ntmps99
    go_upto_region 1 with fail
    rw [HW.out, HP.out]
    go_upto_region 18 with fail
    go_quiet (first | ((go_at_call 107; exact Calls.quiet_of_same (rsize_abs _ _ (by first | exact HN0 | exact HN1) (by omega) _))) | ((go_at_call 82; exact Calls.quiet_of_same (rmost_eq _ _ m HMM _))))
    go_wp2_with fail
    go_returns
    exact ⟨by first | rfl | exact ret_two (by have := HR0.out; omega) (by have := HR1.out; omega), below_drewN HB.out _⟩

set_option maxRecDepth 100000 in
set_option maxHeartbeats 4000000 in
theorem rspan_mod (vs : List Vr) (Av : Option Addr) (lv cv : Nat) (n : Int) (A : Option Addr) (l c : Nat) (k : List (Int × Int)) (Al : Option Addr) (cl : Nat) (Ah : Option Addr) (ch lk : Nat) (R : Int × Int) (H : Hid (ruleP vs 12 n k = R)) (hl : lk = 2) (hB0 : inB (k.getD 0 (0, 0))) (hB0' : inB (k.getD 1 (0, 0))) (w : World) (hv : VOk w Av lv cv vs) (hr : Zp w Al cl Ah ch lk k) :
    Calls Tryz.prog 99 #[.slice Av lv cv, .agg #[.int .i64 12, .int .i64 n, .slice A l c], .slice Al lk cl, .slice Ah lk ch] w fun e w' => e = .returned (.tuple #[.int .i64 R.1, .int .i64 R.2]) ∧ Below w.heap.size w w' := by
  have hlk : lk ≤ 9223372036854775807 := by have h1 := hr.lo.cap; have h2 := hr.lo.big; unfold maxLen at h2; omega
  have hlv : lv ≤ 9223372036854775807 := by have h1 := hv.cap; have h2 := hv.big; unfold maxLen at h2; omega
  have hba := (Below.refl w.heap.size w).alloc (Nat.le_refl _) (.cells #[.int .i64 12, .int .i64 n, .slice A l c] 53)
  have HB := Lib.hid hba
  have HC := Lib.hid (Cs.new w #[.int .i64 12, .int .i64 n, .slice A l c] 53)
  have HV := Lib.hid (hv.below hba)
  have HK := Lib.hid (hr.below hba)
  obtain ⟨w1, hw1⟩ : ∃ w1, w.alloc (.cells #[.int .i64 12, .int .i64 n, .slice A l c] 53) = w1 := ⟨_, rfl⟩
  obtain ⟨p, hp⟩ : ∃ p, w.heap.size = p := ⟨_, rfl⟩
  rw [hw1] at HB HC HV HK
  have HP := Lib.hid hp
  rw [hp] at HC
  have HW := Lib.hid hw1
  clear hba hv hr hw1 hp
  obtain ⟨g, f, g', f', hA, hA', hg, hg', hkc⟩ := HK.out.at (by omega)
  subst hA hA'
  obtain ⟨k00, k01⟩ := hkc 0 (by omega)
  rw [Nat.add_zero] at k00 k01
  obtain ⟨⟨a0, a1⟩, ha⟩ : ∃ x, k.getD 0 (0, 0) = x := ⟨_, rfl⟩
  obtain ⟨⟨b0, b1⟩, hb⟩ : ∃ x, k.getD 1 (0, 0) = x := ⟨_, rfl⟩
  rw [ha] at k00 k01 hB0
  simp only at k00 k01
  obtain ⟨hB1, hB2, hB3, hB4⟩ := hB0
  simp only at hB1 hB2 hB3 hB4
  obtain ⟨k10, k11⟩ := hkc 1 (by omega)
  rw [hb] at k10 k11 hB0'
  simp only at k10 k11
  obtain ⟨hB5, hB6, hB7, hB8⟩ := hB0'
  simp only at hB5 hB6 hB7 hB8
  have hE : modR b0 b1 = R := by rw [← H.out]; unfold ruleP; rw [if_neg (by decide), if_neg (by decide), if_neg (by decide), if_neg (by decide), if_neg (by decide), if_neg (by decide), if_neg (by decide), if_pos rfl, hb]; rfl
  have HE := Lib.hid hE
  clear ha hb hkc H hE
  have HR0 : Hid True := Lib.hid trivial
  have HR1 : Hid True := Lib.hid trivial
  have r0 := HC.out.at 0 _ rfl
  have r1 := HC.out.at 1 _ rfl
  have r2 := HC.out.at 2 _ rfl
  have hpl := HC.out.lt
  go_enter Tryz.func99, Tryz.ntmps99
  go_upto_region 1 with fail
  rw [HW.out, HP.out]
  go_upto_region 23 with fail
  go_quiet ((go_at_call 108; exact Calls.quiet_of_same ((rmodSpan_b b0 b1 R HE (by omega) (by omega) (by omega) (by omega) _).mono fun _ _ h => ⟨h.1, h.2.symm⟩)))
  go_wp2_with fail
  go_returns
  exact ⟨by first | rfl | exact ret_two (by have := HR0.out; omega) (by have := HR1.out; omega), below_drewN HB.out _⟩

set_option maxRecDepth 100000 in
set_option maxHeartbeats 4000000 in
theorem rspan_min (vs : List Vr) (Av : Option Addr) (lv cv : Nat) (n : Int) (A : Option Addr) (l c : Nat) (k : List (Int × Int)) (Al : Option Addr) (cl : Nat) (Ah : Option Addr) (ch lk : Nat) (R : Int × Int) (H : Hid (ruleP vs 21 n k = R)) (hl : lk = 2) (hB0 : inB (k.getD 0 (0, 0))) (hB0' : inB (k.getD 1 (0, 0))) (w : World) (hv : VOk w Av lv cv vs) (hr : Zp w Al cl Ah ch lk k) :
    Calls Tryz.prog 99 #[.slice Av lv cv, .agg #[.int .i64 21, .int .i64 n, .slice A l c], .slice Al lk cl, .slice Ah lk ch] w fun e w' => e = .returned (.tuple #[.int .i64 R.1, .int .i64 R.2]) ∧ Below w.heap.size w w' := by
  have hlk : lk ≤ 9223372036854775807 := by have h1 := hr.lo.cap; have h2 := hr.lo.big; unfold maxLen at h2; omega
  have hlv : lv ≤ 9223372036854775807 := by have h1 := hv.cap; have h2 := hv.big; unfold maxLen at h2; omega
  have hba := (Below.refl w.heap.size w).alloc (Nat.le_refl _) (.cells #[.int .i64 21, .int .i64 n, .slice A l c] 53)
  have HB := Lib.hid hba
  have HC := Lib.hid (Cs.new w #[.int .i64 21, .int .i64 n, .slice A l c] 53)
  have HV := Lib.hid (hv.below hba)
  have HK := Lib.hid (hr.below hba)
  obtain ⟨w1, hw1⟩ : ∃ w1, w.alloc (.cells #[.int .i64 21, .int .i64 n, .slice A l c] 53) = w1 := ⟨_, rfl⟩
  obtain ⟨p, hp⟩ : ∃ p, w.heap.size = p := ⟨_, rfl⟩
  rw [hw1] at HB HC HV HK
  have HP := Lib.hid hp
  rw [hp] at HC
  have HW := Lib.hid hw1
  clear hba hv hr hw1 hp
  obtain ⟨g, f, g', f', hA, hA', hg, hg', hkc⟩ := HK.out.at (by omega)
  subst hA hA'
  obtain ⟨k00, k01⟩ := hkc 0 (by omega)
  rw [Nat.add_zero] at k00 k01
  obtain ⟨⟨a0, a1⟩, ha⟩ : ∃ x, k.getD 0 (0, 0) = x := ⟨_, rfl⟩
  obtain ⟨⟨b0, b1⟩, hb⟩ : ∃ x, k.getD 1 (0, 0) = x := ⟨_, rfl⟩
  rw [ha] at k00 k01 hB0
  simp only at k00 k01
  obtain ⟨hB1, hB2, hB3, hB4⟩ := hB0
  simp only at hB1 hB2 hB3 hB4
  obtain ⟨k10, k11⟩ := hkc 1 (by omega)
  rw [hb] at k10 k11 hB0'
  simp only at k10 k11
  obtain ⟨hB5, hB6, hB7, hB8⟩ := hB0'
  simp only at hB5 hB6 hB7 hB8
  have hE : R = (min a0 b0, min a1 b1) := by rw [← H.out]; unfold ruleP; rw [if_neg (by decide), if_neg (by decide), if_neg (by decide), if_neg (by decide), if_neg (by decide), if_neg (by decide), if_neg (by decide), if_neg (by decide), if_pos rfl, ha, hb]
  subst hE
  clear ha hb hkc H
  have HR0 : Hid True := Lib.hid trivial
  have HR1 : Hid True := Lib.hid trivial
  have r0 := HC.out.at 0 _ rfl
  have r1 := HC.out.at 1 _ rfl
  have r2 := HC.out.at 2 _ rfl
  have hpl := HC.out.lt
  go_enter Tryz.func99, Tryz.ntmps99
  go_upto_region 1 with fail
  rw [HW.out, HP.out]
  go_upto_region 25 with fail
  go_quiet ((go_at_call 83; exact Calls.quiet_of_same (rleast_any _ _ _)))
  go_wp2_with fail
  go_returns
  exact ⟨by first | rfl | exact ret_two (by have := HR0.out; omega) (by have := HR1.out; omega), below_drewN HB.out _⟩

set_option maxRecDepth 100000 in
set_option maxHeartbeats 4000000 in
theorem rspan_max (vs : List Vr) (Av : Option Addr) (lv cv : Nat) (n : Int) (A : Option Addr) (l c : Nat) (k : List (Int × Int)) (Al : Option Addr) (cl : Nat) (Ah : Option Addr) (ch lk : Nat) (R : Int × Int) (H : Hid (ruleP vs 22 n k = R)) (hl : lk = 2) (hB0 : inB (k.getD 0 (0, 0))) (hB0' : inB (k.getD 1 (0, 0))) (w : World) (hv : VOk w Av lv cv vs) (hr : Zp w Al cl Ah ch lk k) :
    Calls Tryz.prog 99 #[.slice Av lv cv, .agg #[.int .i64 22, .int .i64 n, .slice A l c], .slice Al lk cl, .slice Ah lk ch] w fun e w' => e = .returned (.tuple #[.int .i64 R.1, .int .i64 R.2]) ∧ Below w.heap.size w w' := by
  have hlk : lk ≤ 9223372036854775807 := by have h1 := hr.lo.cap; have h2 := hr.lo.big; unfold maxLen at h2; omega
  have hlv : lv ≤ 9223372036854775807 := by have h1 := hv.cap; have h2 := hv.big; unfold maxLen at h2; omega
  have hba := (Below.refl w.heap.size w).alloc (Nat.le_refl _) (.cells #[.int .i64 22, .int .i64 n, .slice A l c] 53)
  have HB := Lib.hid hba
  have HC := Lib.hid (Cs.new w #[.int .i64 22, .int .i64 n, .slice A l c] 53)
  have HV := Lib.hid (hv.below hba)
  have HK := Lib.hid (hr.below hba)
  obtain ⟨w1, hw1⟩ : ∃ w1, w.alloc (.cells #[.int .i64 22, .int .i64 n, .slice A l c] 53) = w1 := ⟨_, rfl⟩
  obtain ⟨p, hp⟩ : ∃ p, w.heap.size = p := ⟨_, rfl⟩
  rw [hw1] at HB HC HV HK
  have HP := Lib.hid hp
  rw [hp] at HC
  have HW := Lib.hid hw1
  clear hba hv hr hw1 hp
  obtain ⟨g, f, g', f', hA, hA', hg, hg', hkc⟩ := HK.out.at (by omega)
  subst hA hA'
  obtain ⟨k00, k01⟩ := hkc 0 (by omega)
  rw [Nat.add_zero] at k00 k01
  obtain ⟨⟨a0, a1⟩, ha⟩ : ∃ x, k.getD 0 (0, 0) = x := ⟨_, rfl⟩
  obtain ⟨⟨b0, b1⟩, hb⟩ : ∃ x, k.getD 1 (0, 0) = x := ⟨_, rfl⟩
  rw [ha] at k00 k01 hB0
  simp only at k00 k01
  obtain ⟨hB1, hB2, hB3, hB4⟩ := hB0
  simp only at hB1 hB2 hB3 hB4
  obtain ⟨k10, k11⟩ := hkc 1 (by omega)
  rw [hb] at k10 k11 hB0'
  simp only at k10 k11
  obtain ⟨hB5, hB6, hB7, hB8⟩ := hB0'
  simp only at hB5 hB6 hB7 hB8
  have hE : R = (max a0 b0, max a1 b1) := by rw [← H.out]; unfold ruleP; rw [if_neg (by decide), if_neg (by decide), if_neg (by decide), if_neg (by decide), if_neg (by decide), if_neg (by decide), if_neg (by decide), if_neg (by decide), if_neg (by decide), if_pos rfl, ha, hb]
  subst hE
  clear ha hb hkc H
  have HR0 : Hid True := Lib.hid trivial
  have HR1 : Hid True := Lib.hid trivial
  have r0 := HC.out.at 0 _ rfl
  have r1 := HC.out.at 1 _ rfl
  have r2 := HC.out.at 2 _ rfl
  have hpl := HC.out.lt
  go_enter Tryz.func99, Tryz.ntmps99
  go_upto_region 1 with fail
  rw [HW.out, HP.out]
  go_upto_region 27 with fail
  go_quiet ((go_at_call 82; exact Calls.quiet_of_same (rmost_any _ _ _)))
  go_wp2_with fail
  go_returns
  exact ⟨by first | rfl | exact ret_two (by have := HR0.out; omega) (by have := HR1.out; omega), below_drewN HB.out _⟩

set_option maxRecDepth 100000 in
set_option maxHeartbeats 4000000 in
theorem rspan_cond (vs : List Vr) (Av : Option Addr) (lv cv : Nat) (n : Int) (A : Option Addr) (l c : Nat) (k : List (Int × Int)) (Al : Option Addr) (cl : Nat) (Ah : Option Addr) (ch lk : Nat) (R : Int × Int) (H : Hid (ruleP vs 23 n k = R)) (hl : 2 ≤ lk) (w : World) (hv : VOk w Av lv cv vs) (hr : Zp w Al cl Ah ch lk k) :
    Calls Tryz.prog 99 #[.slice Av lv cv, .agg #[.int .i64 23, .int .i64 n, .slice A l c], .slice Al lk cl, .slice Ah lk ch] w fun e w' => e = .returned (.tuple #[.int .i64 R.1, .int .i64 R.2]) ∧ Below w.heap.size w w' := by
  have hlk : lk ≤ 9223372036854775807 := by have h1 := hr.lo.cap; have h2 := hr.lo.big; unfold maxLen at h2; omega
  have hlv : lv ≤ 9223372036854775807 := by have h1 := hv.cap; have h2 := hv.big; unfold maxLen at h2; omega
  have hba := (Below.refl w.heap.size w).alloc (Nat.le_refl _) (.cells #[.int .i64 23, .int .i64 n, .slice A l c] 53)
  have HB := Lib.hid hba
  have HC := Lib.hid (Cs.new w #[.int .i64 23, .int .i64 n, .slice A l c] 53)
  have HV := Lib.hid (hv.below hba)
  have HK := Lib.hid (hr.below hba)
  obtain ⟨w1, hw1⟩ : ∃ w1, w.alloc (.cells #[.int .i64 23, .int .i64 n, .slice A l c] 53) = w1 := ⟨_, rfl⟩
  obtain ⟨p, hp⟩ : ∃ p, w.heap.size = p := ⟨_, rfl⟩
  rw [hw1] at HB HC HV HK
  have HP := Lib.hid hp
  rw [hp] at HC
  have HW := Lib.hid hw1
  clear hba hv hr hw1 hp
  obtain ⟨g, f, g', f', hA, hA', hg, hg', hkc⟩ := HK.out.at (by omega)
  subst hA hA'
  obtain ⟨k10, k11⟩ := hkc 1 (by omega)
  have hE : (k.drop 2).foldl hullR (k.getD 1 (0, 0)) = R := by rw [← H.out]; unfold ruleP; rw [if_neg (by decide), if_neg (by decide), if_neg (by decide), if_neg (by decide), if_neg (by decide), if_neg (by decide), if_neg (by decide), if_neg (by decide), if_neg (by decide), if_neg (by decide), if_pos (by decide)]
  obtain ⟨⟨b0, b1⟩, hb⟩ : ∃ x, k.getD 1 (0, 0) = x := ⟨_, rfl⟩
  rw [hb] at k10 k11 hE
  simp only at k10 k11
  have HE := Lib.hid hE
  have HKC := Lib.hid hkc
  have HKL := Lib.hid HK.out.len
  have hl1 : (1 : Int) < (lk : Int) := by omega
  have hl0 : (1 : Int) ≤ (lk : Int) := by omega
  clear hb hkc hE H
  have r0 := HC.out.at 0 _ rfl
  have r1 := HC.out.at 1 _ rfl
  have r2 := HC.out.at 2 _ rfl
  have hpl := HC.out.lt
  go_enter Tryz.func99, Tryz.ntmps99
  go_upto_region 1 with fail
  rw [HW.out, HP.out]
  go_upto_region 30 with fail
  go_quiet (fail)
  go_wp2_with fail
  go_loopw [15, 16, 17] (fun u v t wr => ∃ (i : Nat) (a b : Int), 2 ≤ i ∧ i ≤ lk ∧ u = .int .i64 a ∧ v = .int .i64 b ∧ t = .int .i64 i ∧ Hid ((k.drop i).foldl hullR (a, b) = R) ∧ Hid (Below w1.heap.size w1 wr)) (fun _ _ t _ => lk - (intOf t).toNat)
  case atStart => exact ⟨2, b0, b1, by omega, by omega, rfl, rfl, rfl, HE, Lib.hid (below_drewN (Below.refl _ _) _)⟩
  case round =>
    clear HE k10 k11 r0 r1 r2
    obtain ⟨i, a, b, hi2, hil, rfl, rfl, rfl, HE, HBr⟩ := hrel
    by_cases hlt : i < lk
    · have hlt' : (i : Int) < (lk : Int) := by omega
      have hi0 : (0 : Int) ≤ (i : Int) := by omega
      obtain ⟨k20, k21⟩ := HKC.out i hlt
      have q0 := (HBr.out.cell (p := ⟨g, f + i, none⟩) hg).trans k20
      have q1 := (HBr.out.cell (p := ⟨g', f' + i, none⟩) hg').trans k21
      have hgr : g < wr.heap.size := Nat.lt_of_lt_of_le hg HBr.out.size
      have hgr' : g' < wr.heap.size := Nat.lt_of_lt_of_le hg' HBr.out.size
      obtain ⟨⟨z0, z1⟩, hz⟩ : ∃ x, k.getD i (0, 0) = x := ⟨_, rfl⟩
      rw [hz] at q0 q1
      simp only at q0 q1
      have HE' : Hid ((k.drop (i + 1)).foldl hullR (min a z0, max b z1) = R) := by
        show _ = _
        have := HE.out
        have hki : i < k.length := by rw [HKL.out]; exact hlt
        rw [List.drop_eq_getElem_cons hki, List.foldl_cons] at this
        rw [List.getD_eq_getElem?_getD, List.getElem?_eq_getElem hki, Option.getD_some] at hz
        rw [hz] at this
        exact this
      have HBZ := Lib.hid HBr.out
      clear hz HE k20 k21
      go_upto_region 34 with fail
      go_quiet (first | ((go_at_call 83; exact Calls.quiet_of_same (rleast_any _ _ _))) | ((go_at_call 82; exact Calls.quiet_of_same (rmost_any _ _ _))))
      clear q0 q1
      go_wp2_with fail
      go_roundw
      case rel => exact ⟨i + 1, min a z0, max b z1, by omega, by omega, rfl, rfl, by go_num, HE', Lib.hid (below_drewN HBZ.out _)⟩
      case measure => simp [intOf]; omega
    · obtain rfl : i = lk := by omega
      have hR : (a, b) = R := by rw [← HE.out, List.drop_of_length_le (by rw [HKL.out]; exact Nat.le_refl _)]; rfl
      subst hR
      clear HE
      go_wp2_with fail
      go_returns
      exact ⟨rfl, HB.out.trans (HBr.out.mono HB.out.size)⟩

set_option maxRecDepth 100000 in
set_option maxHeartbeats 4000000 in
theorem rspan_sel (vs : List Vr) (Av : Option Addr) (lv cv : Nat) (n : Int) (A : Option Addr) (l c : Nat) (k : List (Int × Int)) (Al : Option Addr) (cl : Nat) (Ah : Option Addr) (ch lk : Nat) (R : Int × Int) (H : Hid (ruleP vs 25 n k = R)) (hl : 2 ≤ lk) (w : World) (hv : VOk w Av lv cv vs) (hr : Zp w Al cl Ah ch lk k) :
    Calls Tryz.prog 99 #[.slice Av lv cv, .agg #[.int .i64 25, .int .i64 n, .slice A l c], .slice Al lk cl, .slice Ah lk ch] w fun e w' => e = .returned (.tuple #[.int .i64 R.1, .int .i64 R.2]) ∧ Below w.heap.size w w' := by
  have hlk : lk ≤ 9223372036854775807 := by have h1 := hr.lo.cap; have h2 := hr.lo.big; unfold maxLen at h2; omega
  have hlv : lv ≤ 9223372036854775807 := by have h1 := hv.cap; have h2 := hv.big; unfold maxLen at h2; omega
  have hba := (Below.refl w.heap.size w).alloc (Nat.le_refl _) (.cells #[.int .i64 25, .int .i64 n, .slice A l c] 53)
  have HB := Lib.hid hba
  have HC := Lib.hid (Cs.new w #[.int .i64 25, .int .i64 n, .slice A l c] 53)
  have HV := Lib.hid (hv.below hba)
  have HK := Lib.hid (hr.below hba)
  obtain ⟨w1, hw1⟩ : ∃ w1, w.alloc (.cells #[.int .i64 25, .int .i64 n, .slice A l c] 53) = w1 := ⟨_, rfl⟩
  obtain ⟨p, hp⟩ : ∃ p, w.heap.size = p := ⟨_, rfl⟩
  rw [hw1] at HB HC HV HK
  have HP := Lib.hid hp
  rw [hp] at HC
  have HW := Lib.hid hw1
  clear hba hv hr hw1 hp
  obtain ⟨g, f, g', f', hA, hA', hg, hg', hkc⟩ := HK.out.at (by omega)
  subst hA hA'
  obtain ⟨k10, k11⟩ := hkc 1 (by omega)
  have hE : (k.drop 2).foldl hullR (k.getD 1 (0, 0)) = R := by rw [← H.out]; unfold ruleP; rw [if_neg (by decide), if_neg (by decide), if_neg (by decide), if_neg (by decide), if_neg (by decide), if_neg (by decide), if_neg (by decide), if_neg (by decide), if_neg (by decide), if_neg (by decide), if_pos (by decide)]
  obtain ⟨⟨b0, b1⟩, hb⟩ : ∃ x, k.getD 1 (0, 0) = x := ⟨_, rfl⟩
  rw [hb] at k10 k11 hE
  simp only at k10 k11
  have HE := Lib.hid hE
  have HKC := Lib.hid hkc
  have HKL := Lib.hid HK.out.len
  have hl1 : (1 : Int) < (lk : Int) := by omega
  have hl0 : (1 : Int) ≤ (lk : Int) := by omega
  clear hb hkc hE H
  have r0 := HC.out.at 0 _ rfl
  have r1 := HC.out.at 1 _ rfl
  have r2 := HC.out.at 2 _ rfl
  have hpl := HC.out.lt
  go_enter Tryz.func99, Tryz.ntmps99
  go_upto_region 1 with fail
  rw [HW.out, HP.out]
  go_upto_region 30 with fail
  go_quiet (fail)
  go_wp2_with fail
  go_loopw [15, 16, 17] (fun u v t wr => ∃ (i : Nat) (a b : Int), 2 ≤ i ∧ i ≤ lk ∧ u = .int .i64 a ∧ v = .int .i64 b ∧ t = .int .i64 i ∧ Hid ((k.drop i).foldl hullR (a, b) = R) ∧ Hid (Below w1.heap.size w1 wr)) (fun _ _ t _ => lk - (intOf t).toNat)
  case atStart => exact ⟨2, b0, b1, by omega, by omega, rfl, rfl, rfl, HE, Lib.hid (below_drewN (Below.refl _ _) _)⟩
  case round =>
    clear HE k10 k11 r0 r1 r2
    obtain ⟨i, a, b, hi2, hil, rfl, rfl, rfl, HE, HBr⟩ := hrel
    by_cases hlt : i < lk
    · have hlt' : (i : Int) < (lk : Int) := by omega
      have hi0 : (0 : Int) ≤ (i : Int) := by omega
      obtain ⟨k20, k21⟩ := HKC.out i hlt
      have q0 := (HBr.out.cell (p := ⟨g, f + i, none⟩) hg).trans k20
      have q1 := (HBr.out.cell (p := ⟨g', f' + i, none⟩) hg').trans k21
      have hgr : g < wr.heap.size := Nat.lt_of_lt_of_le hg HBr.out.size
      have hgr' : g' < wr.heap.size := Nat.lt_of_lt_of_le hg' HBr.out.size
      obtain ⟨⟨z0, z1⟩, hz⟩ : ∃ x, k.getD i (0, 0) = x := ⟨_, rfl⟩
      rw [hz] at q0 q1
      simp only at q0 q1
      have HE' : Hid ((k.drop (i + 1)).foldl hullR (min a z0, max b z1) = R) := by
        show _ = _
        have := HE.out
        have hki : i < k.length := by rw [HKL.out]; exact hlt
        rw [List.drop_eq_getElem_cons hki, List.foldl_cons] at this
        rw [List.getD_eq_getElem?_getD, List.getElem?_eq_getElem hki, Option.getD_some] at hz
        rw [hz] at this
        exact this
      have HBZ := Lib.hid HBr.out
      clear hz HE k20 k21
      go_upto_region 34 with fail
      go_quiet (first | ((go_at_call 83; exact Calls.quiet_of_same (rleast_any _ _ _))) | ((go_at_call 82; exact Calls.quiet_of_same (rmost_any _ _ _))))
      clear q0 q1
      go_wp2_with fail
      go_roundw
      case rel => exact ⟨i + 1, min a z0, max b z1, by omega, by omega, rfl, rfl, by go_num, HE', Lib.hid (below_drewN HBZ.out _)⟩
      case measure => simp [intOf]; omega
    · obtain rfl : i = lk := by omega
      have hR : (a, b) = R := by rw [← HE.out, List.drop_of_length_le (by rw [HKL.out]; exact Nat.le_refl _)]; rfl
      subst hR
      clear HE
      go_wp2_with fail
      go_returns
      exact ⟨rfl, HB.out.trans (HBr.out.mono HB.out.size)⟩

set_option maxRecDepth 100000 in
set_option maxHeartbeats 4000000 in
theorem rspan_else (vs : List Vr) (Av : Option Addr) (lv cv : Nat) (o : Int) (n : Int) (A : Option Addr) (l c : Nat) (k : List (Int × Int)) (Al : Option Addr) (cl : Nat) (Ah : Option Addr) (ch lk : Nat) (R : Int × Int) (H : Hid (ruleP vs o n k = R)) (h0 : o ≠ 0) (h24 : o ≠ 24) (h6 : o ≠ 6) (h8 : o ≠ 8) (h9 : o ≠ 9) (h10 : o ≠ 10) (h11 : o ≠ 11) (h12 : o ≠ 12) (h21 : o ≠ 21) (h22 : o ≠ 22) (h23 : o ≠ 23) (h25 : o ≠ 25)  (w : World) (hv : VOk w Av lv cv vs) (hr : Zp w Al cl Ah ch lk k) :
    Calls Tryz.prog 99 #[.slice Av lv cv, .agg #[.int .i64 o, .int .i64 n, .slice A l c], .slice Al lk cl, .slice Ah lk ch] w fun e w' => e = .returned (.tuple #[.int .i64 R.1, .int .i64 R.2]) ∧ Below w.heap.size w w' := by
  have hlk : lk ≤ 9223372036854775807 := by have h1 := hr.lo.cap; have h2 := hr.lo.big; unfold maxLen at h2; omega
  have hlv : lv ≤ 9223372036854775807 := by have h1 := hv.cap; have h2 := hv.big; unfold maxLen at h2; omega
  have hba := (Below.refl w.heap.size w).alloc (Nat.le_refl _) (.cells #[.int .i64 o, .int .i64 n, .slice A l c] 53)
  have HB := Lib.hid hba
  have HC := Lib.hid (Cs.new w #[.int .i64 o, .int .i64 n, .slice A l c] 53)
  have HV := Lib.hid (hv.below hba)
  have HK := Lib.hid (hr.below hba)
  obtain ⟨w1, hw1⟩ : ∃ w1, w.alloc (.cells #[.int .i64 o, .int .i64 n, .slice A l c] 53) = w1 := ⟨_, rfl⟩
  obtain ⟨p, hp⟩ : ∃ p, w.heap.size = p := ⟨_, rfl⟩
  rw [hw1] at HB HC HV HK
  have HP := Lib.hid hp
  rw [hp] at HC
  have HW := Lib.hid hw1
  clear hba hv hr hw1 hp
  obtain rfl : R = (0, 1) := by
    rw [← H.out]; unfold ruleP
    rw [if_neg h0, if_neg h24, if_neg h6, if_neg h8, if_neg h9, if_neg h10, if_neg h11, if_neg h12, if_neg h21, if_neg h22, if_neg (by rintro (e | e); exact h23 e; exact h25 e)]
  have hq0 := beq_of h0
  have hq24 := beq_of h24
  have hq6 := beq_of h6
  have hq8 := beq_of h8
  have hq9 := beq_of h9
  have hq10 := beq_of h10
  have hq11 := beq_of h11
  have hq12 := beq_of h12
  have hq21 := beq_of h21
  have hq22 := beq_of h22
  have hq23 := beq_of h23
  have hq25 := beq_of h25
  clear H h0 h24 h6 h8 h9 h10 h11 h12 h21 h22 h23 h25
  have HR0 : Hid True := Lib.hid trivial
  have HR1 : Hid True := Lib.hid trivial
  have r0 := HC.out.at 0 _ rfl
  have r1 := HC.out.at 1 _ rfl
  have r2 := HC.out.at 2 _ rfl
  have hpl := HC.out.lt
  go_enter Tryz.func99, Tryz.ntmps99
  go_upto_region 1 with fail
  rw [HW.out, HP.out]
  go_wp2_with fail
  go_returns
  exact ⟨by first | rfl | exact ret_two (by have := HR0.out; omega) (by have := HR1.out; omega), HB.out⟩

/-- The range of a node, a literal beyond the limit told apart. -/
def spanV (vs : List Vr) (o n : Int) (k : List (Int × Int)) : Int × Int := if o = 0 ∧ (n < -1048576 ∨ 1048576 < n) then (-1048577, 1048577) else ruleP vs o n k
theorem spanV_ok (vs : List Vr) (o n : Int) (k : List (Int × Int)) : okR (spanV vs o n k) = okR (ruleP vs o n k) ∧ (okR (ruleP vs o n k) = true → spanV vs o n k = ruleP vs o n k) := by
  unfold spanV
  by_cases h : o = 0 ∧ (n < -1048576 ∨ 1048576 < n)
  · rw [if_pos h]
    obtain ⟨rfl, h⟩ := h
    have e : okR (ruleP vs 0 n k) = false := by
      unfold ruleP okR
      rw [if_pos rfl]
      simp only [Bool.and_eq_false_iff, decide_eq_false_iff_not]
      omega
    rw [e]
    exact ⟨rfl, fun h => by cases h⟩
  · rw [if_neg h]; exact ⟨rfl, fun _ => rfl⟩
theorem spanV_else {vs : List Vr} {o n : Int} {k : List (Int × Int)} {R : Int × Int} (H : Hid (spanV vs o n k = R)) (h : o ≠ 0) : Hid (ruleP vs o n k = R) := by
  show _ = _
  rw [← H.out, spanV, if_neg (fun e => h e.1)]
theorem rspan_b (vs : List Vr) (Av : Option Addr) (lv cv : Nat) (inp : Bool) (o n : Int) (A : Option Addr) (l c : Nat) (k : List (Int × Int)) (Al : Option Addr) (cl : Nat) (Ah : Option Addr) (ch lk : Nat) (R : Int × Int) (H : Hid (spanV vs o n k = R)) (HF : Hid (formedN vs inp o n lk = true)) (HI : Hid (∀ j, j < lk → inB (k.getD j (0, 0)) ∧ okQ (k.getD j (0, 0)))) (w : World) (hv : VOk w Av lv cv vs) (hr : Zp w Al cl Ah ch lk k) :
    Calls Tryz.prog 99 #[.slice Av lv cv, .agg #[.int .i64 o, .int .i64 n, .slice A l c], .slice Al lk cl, .slice Ah lk ch] w fun e w' => e = .returned (.tuple #[.int .i64 R.1, .int .i64 R.2]) ∧ Below w.heap.size w w' := by
  obtain ⟨h1, h2, h3, h4⟩ := formedN_kids HF.out
  have hvl := hv.len
  rcases kids_cases h1 with rfl | rfl | rfl | rfl | h | rfl | rfl
  · by_cases g1 : n < -1048576
    · exact rspan_far1 vs Av lv cv n A l c k Al cl Ah ch lk R (by rw [← H.out, spanV, if_pos ⟨rfl, .inl g1⟩]) g1 w hv hr
    by_cases g2 : 1048576 < n
    · exact rspan_far2 vs Av lv cv n A l c k Al cl Ah ch lk R (by rw [← H.out, spanV, if_pos ⟨rfl, .inr g2⟩]) g1 g2 w hv hr
    · exact rspan_lit vs Av lv cv n A l c k Al cl Ah ch lk R (show _ = _ by rw [← H.out, spanV, if_neg (fun e => by omega)]) (by omega) (by omega) w hv hr
  · have h5 := h4 rfl
    have H := spanV_else H (by decide)
    exact rspan_ref vs Av lv cv n A l c k Al cl Ah ch lk R H n.toNat (by omega) (by omega) w hv hr
  · have e : (kidsP 6) = (1, 1) := by decide
    have H := spanV_else H (by decide)
    rw [e] at h2
    simp only at h2
    exact rspan_neg vs Av lv cv n A l c k Al cl Ah ch lk R H (by omega) (HI.out 0 (by omega)).1 w hv hr
  · have H := spanV_else H (by decide)
    exact rspan_else vs Av lv cv 7 n A l c k Al cl Ah ch lk R H (by decide) (by decide) (by decide) (by decide) (by decide) (by decide) (by decide) (by decide) (by decide) (by decide) (by decide) (by decide) w hv hr
  · have e := kids_two h
    have H := spanV_else H (by omega)
    rw [e] at h2 h3
    simp only at h2 h3
    have hl2 : lk = 2 := by omega
    have i0 := HI.out 0 (by omega)
    have i1 := HI.out 1 (by omega)
    by_cases q8 : o = 8
    · subst q8; exact rspan_add vs Av lv cv n A l c k Al cl Ah ch lk R H hl2 i0.1 i1.1 w hv hr
    by_cases q9 : o = 9
    · subst q9; exact rspan_sub vs Av lv cv n A l c k Al cl Ah ch lk R H hl2 i0.1 i1.1 w hv hr
    by_cases q10 : o = 10
    · subst q10; exact rspan_mul vs Av lv cv n A l c k Al cl Ah ch lk R H hl2 i0.1 i1.1 w hv hr
    by_cases q11 : o = 11
    · subst q11; exact rspan_div vs Av lv cv n A l c k Al cl Ah ch lk R H hl2 i0.1 i1.1 i0.2 w hv hr
    by_cases q12 : o = 12
    · subst q12; exact rspan_mod vs Av lv cv n A l c k Al cl Ah ch lk R H hl2 i0.1 i1.1 w hv hr
    by_cases q21 : o = 21
    · subst q21; exact rspan_min vs Av lv cv n A l c k Al cl Ah ch lk R H hl2 i0.1 i1.1 w hv hr
    by_cases q22 : o = 22
    · subst q22; exact rspan_max vs Av lv cv n A l c k Al cl Ah ch lk R H hl2 i0.1 i1.1 w hv hr
    exact rspan_else vs Av lv cv o n A l c k Al cl Ah ch lk R H (by omega) (by omega) (by omega) q8 q9 q10 q11 q12 q21 q22 (by omega) (by omega) w hv hr
  · have e : (kidsP 23) = (3, 3) := by decide
    have H := spanV_else H (by decide)
    rw [e] at h2
    simp only at h2
    exact rspan_cond vs Av lv cv n A l c k Al cl Ah ch lk R H (by omega) w hv hr
  · have e : (kidsP 25) = (2, 33) := by decide
    have H := spanV_else H (by decide)
    rw [e] at h2
    simp only at h2
    exact rspan_sel vs Av lv cv n A l c k Al cl Ah ch lk R H (by omega) w hv hr
theorem infoJ : (Tryz.prog.info? 3).map (fun i => (i.zero, i.size, i.bytes)) = some (some (.int .i64 0), 1, 8) := by kernel_rfl
theorem iv_snoc_fst (rs : List (Int × Int)) (a b : Int) : iv ((rs ++ [(a, b)]).map Prod.fst) = iv (rs.map Prod.fst) ++ [.int .i64 a] := by rw [List.map_append]; exact iv_app _ _
theorem iv_snoc_snd (rs : List (Int × Int)) (a b : Int) : iv ((rs ++ [(a, b)]).map Prod.snd) = iv (rs.map Prod.snd) ++ [.int .i64 b] := by rw [List.map_append]; exact iv_app _ _
/-- What Range returns. -/
def Rng (x : Option (Int × Int)) (w : World) (e : Ending) (w' : World) : Prop := ∃ a b, e = .returned (.tuple #[.int .i64 a, .int .i64 b, .bool x.isSome]) ∧ (∀ r, x = some r → r = (a, b)) ∧ Below w.heap.size w w'

set_option maxRecDepth 100000 in
set_option maxHeartbeats 8000000 in
theorem rrange_any (vs : List Vr) (hvb : vB vs) (Av : Option Addr) (lv cv : Nat) (inp : Bool) (m : Nat) : ∀ (o n : Int) (ks : List Tm) (l : Nat) (A : Option Addr) (c : Nat) (w : World) (x : Option (Int × Int)), ks.length = l → Tm.cnt (.mk o n ks) ≤ m → TOk w A c ks → VOk w Av lv cv vs → Hid (formedB vs inp (.mk o n ks) = true) → Hid (rangedP vs (.mk o n ks) = x) →
    Calls Tryz.prog 80 #[.slice Av lv cv, .agg #[.int .i64 o, .int .i64 n, .slice A l c]] w (Rng x w) := by
  induction m with
  | zero => intro o n ks l A c w x _ h; have := Tm.cnt_pos (.mk o n ks); omega
  | succ m ih =>
    intro o n ks l A c w x hl hm ht hv HFB H
    have IH := Lib.hid ih
    have HM : Hid (Tm.cntL ks ≤ m) := by show _ ≤ _; simp only [Tm.cnt] at hm; omega
    have HL := Lib.hid hl
    have HT := Lib.hid ht
    have HV := Lib.hid hv
    have HVB := Lib.hid hvb
    have hff : formedN vs inp o n ks.length = true ∧ formedL vs inp ks = true := by
      have := HFB.out
      rw [formedB, Bool.and_eq_true] at this
      exact this
    have HFN : Hid (formedN vs inp o n l = true) := by show _ = _; rw [← hl]; exact hff.1
    have HFL : Hid (∀ i (hi : i < ks.length), formedB vs inp ks[i] = true) := fun i hi => by
      cases hc : formedB vs inp ks[i]
      · rw [formedL_take vs inp ks i hi hc] at hff; cases hff.2
      · rfl
    have hl33 : l ≤ 33 := by
      rcases fit_cases o l _ rfl with ⟨_, e⟩ | ⟨g0, g3, e⟩ | ⟨_, e⟩
      · have := HFN.out; rw [formedN_fit, e] at this; simp at this
      · have := HFN.out; rw [formedN_fit, e] at this; simp at this; omega
      · have := HFN.out; rw [formedN_fit, e] at this; simp at this; omega
    have hb0 := (Below.refl w.heap.size w).alloc (Nat.le_refl _) (.cells #[.int .i64 o, .int .i64 n, .slice A l c] 53)
    have hb1 := hb0.alloc hb0.size (.cells #[] 3)
    have HB := Lib.hid (hb1.alloc hb1.size (.cells #[] 3))
    have HC := Lib.hid (((Cs.new w #[.int .i64 o, .int .i64 n, .slice A l c] 53).alloc (.cells #[] 3)).alloc (.cells #[] 3))
    obtain ⟨i0, hi, hi0, hi1, hi2⟩ := info_parts (P := Tryz.prog) (e := 3) (z := .int .i64 0) (size := 1) (bytes := 8) infoJ
    have HIN := Lib.hid (And.intro hi (And.intro hi0 (And.intro hi1 hi2)))
    have HO1 : Hid (World.ownsRow (((w.alloc (.cells #[.int .i64 o, .int .i64 n, .slice A l c] 53)).alloc (.cells #[] 3)).alloc (.cells #[] 3)) (w.heap.size + 1) 3 1 (.slice (some ⟨w.heap.size + 1, 0, none⟩) 0 0) 0 (iv (([] : List (Int × Int)).map Prod.fst))) := by
      have := (World.ownsRow_made (base := w.heap.size + 1) (e := 3) (size := 1) (w.alloc (.cells #[.int .i64 o, .int .i64 n, .slice A l c] 53)) #[] 0 (by simp) (Nat.zero_le _) rfl).alloc (.cells #[] 3)
      rw [show (w.alloc (.cells #[.int .i64 o, .int .i64 n, .slice A l c] 53)).heap.size = w.heap.size + 1 by simp] at this
      exact this
    have HO2 : Hid (World.ownsRow (((w.alloc (.cells #[.int .i64 o, .int .i64 n, .slice A l c] 53)).alloc (.cells #[] 3)).alloc (.cells #[] 3)) (w.heap.size + 1) 3 1 (.slice (some ⟨w.heap.size + 2, 0, none⟩) 0 0) 0 (iv (([] : List (Int × Int)).map Prod.snd))) := by
      have := (World.ownsRow_made (base := w.heap.size + 1) (e := 3) (size := 1) ((w.alloc (.cells #[.int .i64 o, .int .i64 n, .slice A l c] 53)).alloc (.cells #[] 3)) #[] 0 (by simp) (Nat.zero_le _) rfl)
      rw [show ((w.alloc (.cells #[.int .i64 o, .int .i64 n, .slice A l c] 53)).alloc (.cells #[] 3)).heap.size = w.heap.size + 2 by simp] at this
      exact this
    have HNE : Hid (w.heap.size + 1 ≠ w.heap.size + 2) := Lib.hid (by omega)
    clear ih hm hl ht hv hff hvb hb0 hb1 hi hi0 hi1 hi2
    go_enter Tryz.func80, Tryz.ntmps80
    go_upto_region 4 with fail
    go_loopw [7, 8, 9] (fun u v t wr => ∃ (k g1 c1 g2 c2 : Nat) (rs : List (Int × Int)), k ≤ l ∧ u = .slice (some ⟨g1, 0, none⟩) k c1 ∧ v = .slice (some ⟨g2, 0, none⟩) k c2 ∧ t = .int .i64 k ∧ Hid (g1 ≠ g2) ∧ Hid (rs.length = k) ∧ Hid (∀ i (hi : i < ks.length), i < k → rangedP vs ks[i] = some (rs.getD i (0, 0))) ∧ Hid (wr.ownsRow (w.heap.size + 1) 3 1 (.slice (some ⟨g1, 0, none⟩) k c1) k (iv (rs.map Prod.fst))) ∧ Hid (wr.ownsRow (w.heap.size + 1) 3 1 (.slice (some ⟨g2, 0, none⟩) k c2) k (iv (rs.map Prod.snd))) ∧ Hid (Cs wr w.heap.size [.int .i64 o, .int .i64 n, .slice A l c]) ∧ Hid (Below w.heap.size w wr)) (fun _ _ t _ => l - (intOf t).toNat)
    case atStart => exact ⟨0, w.heap.size + 1, 0, w.heap.size + 2, 0, [], by omega, rfl, rfl, rfl, HNE, rfl, fun i _ hi => absurd hi (by omega), HO1, HO2, HC, HB⟩
    case round =>
      clear HC HB HO1 HO2 HNE
      obtain ⟨k, g1, c1, g2, c2, rs, hk, rfl, rfl, rfl, HNE, HRL, HRK, HO1, HO2, HC, HB⟩ := hrel
      have r0 := HC.out.at 0 _ rfl
      have r1 := HC.out.at 1 _ rfl
      have r2 := HC.out.at 2 _ rfl
      by_cases hlt : k < l
      · have hkl : k < ks.length := by rw [HL.out]; exact hlt
        obtain ⟨o', n', ks', g, f, A', c', hkid, hA, hg, hok, k0, k1, k2⟩ := (HT.out.below HB.out).kid k hkl
        subst hA
        obtain ⟨l', hl'⟩ : ∃ l', ks'.length = l' := ⟨_, rfl⟩
        rw [hl'] at k2
        obtain ⟨y, hy⟩ : ∃ y, rangedP vs (.mk o' n' ks') = y := ⟨_, rfl⟩
        have HY := Lib.hid hy
        have HKID := Lib.hid hkid
        have HFK : Hid (formedB vs inp (.mk o' n' ks') = true) := by have := HFL.out k hkl; rw [hkid] at this; exact this
        have hcm : Tm.cnt (.mk o' n' ks') ≤ m := by have := Tm.cntL_get ks k hkl; rw [hkid] at this; exact Nat.le_trans this HM.out
        have HCM := Lib.hid hcm
        have HOK := Lib.hid hok
        have HVK := Lib.hid (HV.out.below HB.out)
        have HL' := Lib.hid hl'
        have hlt' : (k : Int) < (l : Int) := by omega
        clear hok hkid hl' hy hcm
        go_wp2_with fail
        go_at_call 80
        refine (IH.out o' n' ks' l' A' c' _ y HL'.out HCM.out HOK.out HVK.out HFK HY).mono ?_
        rintro e w3 ⟨a, b, rfl, hab, hb3⟩
        have HC3 := Lib.hid (HC.out.next hb3)
        have HO13 := Lib.hid (own_below HO1.out hb3)
        have HO23 := Lib.hid (own_below HO2.out hb3)
        have HB3 := Lib.hid (HB.out.trans (hb3.mono HB.out.size))
        have HAB := Lib.hid hab
        clear hb3 HOK HVK HB HC HO1 HO2 k0 k1 k2 r0 r1 r2 hab
        cases y with
        | none =>
          have hx : x = none := by
            rw [← H.out, rangedP, rangedL_none vs ks k hkl (by rw [HKID.out]; exact HY.out)]
          subst hx
          clear H HRK
          simp only [Option.isSome_none]
          go_wp2_with fail
          go_returns
          exact ⟨0, 0, rfl, (fun r hr => by cases hr), HB3.out⟩
        | some r =>
          obtain rfl := HAB.out r rfl
          have HRK' : Hid (∀ i (hi : i < ks.length), i < k + 1 → rangedP vs ks[i] = some ((rs ++ [(a, b)]).getD i (0, 0))) := fun i hi hik => by
            by_cases hki : i = k
            · subst hki
              rw [HKID.out, HY.out, List.getD_eq_getElem?_getD, List.getElem?_append_right (by rw [HRL.out]; exact Nat.le_refl _), HRL.out, Nat.sub_self]
              rfl
            · rw [HRK.out i hi (by omega), List.getD_eq_getElem?_getD, List.getD_eq_getElem?_getD, List.getElem?_append_left (by rw [HRL.out]; omega)]
          have HRL' : Hid ((rs ++ [(a, b)]).length = k + 1) := by show _ = _; rw [List.length_append, HRL.out]; rfl
          have hba := (Below.refl w3.heap.size w3).alloc (Nat.le_refl _) (.cells #[.int .i64 a] 3)
          have HC4 := Lib.hid (HC3.out.next hba)
          have HO14 := Lib.hid (own_below HO13.out hba)
          have HO24 := Lib.hid (own_below HO23.out hba)
          have HB4 := Lib.hid (HB3.out.trans (hba.mono HB3.out.size))
          have hpl : w.heap.size < w3.heap.size := HC3.out.lt
          clear hba HRK HRL HAB HC3 HO13 HO23 HB3
          simp only [Option.isSome_some]
          go_upto_region 10 with (at_builtin; (refine wpList_append_lies _ rfl _ _ 27 rfl (w.heap.size + 1) 3 i0 (.int .i64 0) 1 8 Tryz.underlying27 HIN.out.1 HIN.out.2.1 HIN.out.2.2.1 HIN.out.2.2.2 rfl (by decide) _ k (iv (rs.map Prod.fst)) rfl HO14.out ⟨w3.heap.size, 0, none⟩ 1 1 [.int .i64 a] rfl rfl (World.news_of_block (cs := #[.int .i64 a]) (t := 3) (fr := (0, 0)) (heap_alloc_new w3 _)) (by simp [Value.oneCell']) (by decide) (by unfold maxLen; omega) (by omega) (by simp; omega) (w3.heap.size + 1) (by simp) ?_; intro gg cap w5 hown hgrow hat hlt5; have HHA : Hid (some g1 = some gg ∨ gg = w3.heap.size + 1) := hat; have HGR : Hid ((w3.alloc (.cells #[.int .i64 a] 3)).grownBy w5 (some g1)) := hgrow; have HOW := Lib.hid hown; clear hown hgrow hat))
          have hg2l : g2 < w3.heap.size + 1 := by have := (HO24.out.lt g2 rfl).2; simpa using this
          have hbel : Below (w.heap.size + 1) (w3.alloc (.cells #[.int .i64 a] 3)) w5 := (Below.refl _ _).grown HGR.out (by simp; omega) (fun q hq => (HO14.out.lt q hq).1)
          have HNE5 : Hid (gg ≠ g2) := Lib.hid (by
            rcases HHA.out with h | h
            · injection h with h; rw [← h]; exact HNE.out
            · omega)
          have HO25 := Lib.hid (HO24.out.kept HGR.out (.inr (show some g2 ≠ some g1 from fun h => HNE.out (by injection h with h; exact h.symm))))
          have HO15 : Hid (w5.ownsRow (w.heap.size + 1) 3 1 (.slice (some ⟨gg, 0, none⟩) (k + 1) cap) (k + 1) (iv ((rs ++ [(a, b)]).map Prod.fst))) := by show World.ownsRow _ _ _ _ _ _ _; rw [iv_snoc_fst]; exact HOW.out
          have HC5 := Lib.hid (cs_low HC4.out hbel (by omega))
          have HB5 := Lib.hid (HB4.out.trans (hbel.mono (by omega)))
          have hba := (Below.refl w5.heap.size w5).alloc (Nat.le_refl _) (.cells #[.int .i64 b] 3)
          have HC6 := Lib.hid (HC5.out.next hba)
          have HO16 := Lib.hid (own_below HO15.out hba)
          have HO26 := Lib.hid (own_below HO25.out hba)
          have HB6 := Lib.hid (HB5.out.trans (hba.mono HB5.out.size))
          have hpl5 : w.heap.size < w5.heap.size := HC5.out.lt
          clear hba hbel HC4 HO14 HO24 HB4 HHA HGR HOW HNE HC5 HO15 HO25 HB5 hg2l
          go_wp2_with (at_builtin; (refine wpList_append_lies _ rfl _ _ 27 rfl (w.heap.size + 1) 3 i0 (.int .i64 0) 1 8 Tryz.underlying27 HIN.out.1 HIN.out.2.1 HIN.out.2.2.1 HIN.out.2.2.2 rfl (by decide) _ k (iv (rs.map Prod.snd)) rfl HO26.out ⟨w5.heap.size, 0, none⟩ 1 1 [.int .i64 b] rfl rfl (World.news_of_block (cs := #[.int .i64 b]) (t := 3) (fr := (0, 0)) (heap_alloc_new w5 _)) (by simp [Value.oneCell']) (by decide) (by unfold maxLen; omega) (by omega) (by simp; omega) (w5.heap.size + 1) (by simp) ?_; intro hh cap2 w7 hown hgrow hat hlt7; have HHA : Hid (some g2 = some hh ∨ hh = w5.heap.size + 1) := hat; have HGR : Hid ((w5.alloc (.cells #[.int .i64 b] 3)).grownBy w7 (some g2)) := hgrow; have HOW := Lib.hid hown; clear hown hgrow hat))
          have hggl : gg < w5.heap.size + 1 := by have := (HO16.out.lt gg rfl).2; simpa using this
          have hbel : Below (w.heap.size + 1) (w5.alloc (.cells #[.int .i64 b] 3)) w7 := (Below.refl _ _).grown HGR.out (by simp; omega) (fun q hq => (HO26.out.lt q hq).1)
          have HNE7 : Hid (gg ≠ hh) := Lib.hid (by
            rcases HHA.out with h | h
            · injection h with h; rw [← h]; exact HNE5.out
            · omega)
          have HO17 := Lib.hid (HO16.out.kept HGR.out (.inr (show some gg ≠ some g2 from fun h => HNE5.out (by injection h))))
          have HO27 : Hid (w7.ownsRow (w.heap.size + 1) 3 1 (.slice (some ⟨hh, 0, none⟩) (k + 1) cap2) (k + 1) (iv ((rs ++ [(a, b)]).map Prod.snd))) := by show World.ownsRow _ _ _ _ _ _ _; rw [iv_snoc_snd]; exact HOW.out
          have HC7 := Lib.hid (cs_low HC6.out hbel (by omega))
          have HB7 := Lib.hid (HB6.out.trans (hbel.mono (by omega)))
          clear hbel HC6 HO16 HO26 HB6 HHA HGR HOW HNE5
          go_wp2_with fail
          go_roundw
          case rel => exact ⟨k + 1, gg, cap, hh, cap2, rs ++ [(a, b)], by omega, rfl, rfl, by go_num, HNE7, HRL', HRK', HO17, HO27, HC7, HB7⟩
          case measure => simp [intOf]; omega
      · obtain rfl : k = l := by omega
        have hrall : rangedL vs ks = some rs := rangedL_all vs ks rs (by rw [HRL.out, HL.out]) fun i hi => HRK.out i hi (by have := HL.out; omega)
        have HI : Hid (∀ j, j < k → inB (rs.getD j (0, 0)) ∧ okQ (rs.getD j (0, 0))) := fun j hj => by
          have hjk : j < ks.length := by rw [HL.out]; exact hj
          have := ranged_ok HVB.out _ ks[j] (Nat.le_refl _) _ (HRK.out j hjk hj)
          exact ⟨this.2, this.1⟩
        obtain ⟨⟨R1, R2⟩, hRR⟩ : ∃ R, spanV vs o n rs = R := ⟨_, rfl⟩
        have HRR := Lib.hid hRR
        have hsv := spanV_ok vs o n rs
        rw [hRR] at hsv
        have hx : x = if okR (R1, R2) = true then some (R1, R2) else none := by
          rw [← H.out, rangedP, hrall]
          simp only
          rw [hsv.1]
          by_cases e : okR (ruleP vs o n rs) = true
          · rw [if_pos e, if_pos e, hsv.2 e]
          · rw [if_neg e, if_neg e]
        have HX := Lib.hid hx
        have HZP : Hid (Zp wr (some ⟨g1, 0, none⟩) c1 (some ⟨g2, 0, none⟩) c2 k rs) := by
          have h1 := HO1.out
          have h2 := HO2.out
          have hl1 : (rs.map Prod.fst).length = k := by rw [List.length_map]; exact HRL.out
          have hl2 : (rs.map Prod.snd).length = k := by rw [List.length_map]; exact HRL.out
          have q1 : wr.ownsRow (w.heap.size + 1) 3 1 (.slice (some ⟨g1, 0, none⟩) k c1) (rs.map Prod.fst).length (iv (rs.map Prod.fst)) := by rw [hl1]; exact h1
          have q2 : wr.ownsRow (w.heap.size + 1) 3 1 (.slice (some ⟨g2, 0, none⟩) k c2) (rs.map Prod.snd).length (iv (rs.map Prod.snd)) := by rw [hl2]; exact h2
          exact ⟨Zs.of_row q1, Zs.of_row q2⟩
        clear hrall hRR hx HRK hsv
        go_wp2_with fail
        go_at_call 99
        refine (rspan_b vs Av lv cv inp o n A k c rs (some ⟨g1, 0, none⟩) c1 (some ⟨g2, 0, none⟩) c2 k (R1, R2) HRR HFN HI _ (HV.out.below HB.out) HZP.out).mono ?_
        rintro e w6 ⟨rfl, hb6⟩
        have HB7 := Lib.hid (HB.out.trans (hb6.mono HB.out.size))
        clear hb6 HC HB HO1 HO2 HZP r0 r1 r2
        by_cases hg1 : -1048576 ≤ R1
        · have hd1 : decide (-1048576 ≤ R1) = true := decide_eq_true hg1
          by_cases hg2 : R2 ≤ 1048576
          · have hd2 : decide (R2 ≤ 1048576) = true := decide_eq_true hg2
            have hx : x = some (R1, R2) := by rw [HX.out, if_pos]; unfold okR; rw [hd1, hd2]; rfl
            subst hx
            go_wp2_with fail
            go_returns
            exact ⟨R1, R2, rfl, (fun r hr => (Option.some.inj hr).symm), HB7.out⟩
          · have hd2 : decide (R2 ≤ 1048576) = false := decide_eq_false hg2
            have hx : x = none := by rw [HX.out, if_neg]; unfold okR; rw [hd1, hd2]; simp
            subst hx
            go_wp2_with fail
            go_returns
            exact ⟨R1, R2, rfl, (fun r hr => by cases hr), HB7.out⟩
        · have hd1 : decide (-1048576 ≤ R1) = false := decide_eq_false hg1
          have hx : x = none := by rw [HX.out, if_neg]; unfold okR; rw [hd1]; simp
          subst hx
          go_wp2_with fail
          go_returns
          exact ⟨R1, R2, rfl, (fun r hr => by cases hr), HB7.out⟩

set_option maxRecDepth 100000 in
set_option maxHeartbeats 4000000 in
theorem rcheckTerm_b (vs : List Vr) (hvb : vB vs) (Av : Option Addr) (lv cv : Nat) (inp : Bool) (o n : Int) (ks : List Tm) (l : Nat) (A : Option Addr) (c : Nat) (w : World) (r : Int) (hl : ks.length = l) (ht : TOk w A c ks) (hv : VOk w Av lv cv vs) (H : Hid (termC vs inp (.mk o n ks) = r)) :
    Calls Tryz.prog 49 #[.slice Av lv cv, .agg #[.int .i64 o, .int .i64 n, .slice A l c], .bool inp] w fun e w' => e = .returned (.int .i64 r) ∧ Below w.heap.size w w' := by
  have hba := (Below.refl w.heap.size w).alloc (Nat.le_refl _) (.cells #[.int .i64 o, .int .i64 n, .slice A l c] 53)
  have HB := Lib.hid hba
  have HC := Lib.hid (Cs.new w #[.int .i64 o, .int .i64 n, .slice A l c] 53)
  have HT := Lib.hid (ht.below hba)
  have HV := Lib.hid (hv.below hba)
  have HL := Lib.hid hl
  obtain ⟨b, hb⟩ : ∃ z, formedB vs inp (.mk o n ks) = z := ⟨_, rfl⟩
  obtain ⟨x, hx⟩ : ∃ z, rangedP vs (.mk o n ks) = z := ⟨_, rfl⟩
  have HS : Hid ((if b = false then 1 else if x.isSome = false then 3 else 0) = r) := by show _ = _; rw [← H.out, termC, hb, hx]
  have HFB := Lib.hid hb
  have HX := Lib.hid hx
  clear hba ht hv hl hb hx H
  go_enter Tryz.func49, Tryz.ntmps49
  go_upto_region 1 with fail
  obtain ⟨w1, hw1⟩ : ∃ w1, w.alloc (.cells #[.int .i64 o, .int .i64 n, .slice A l c] 53) = w1 := ⟨_, rfl⟩
  obtain ⟨p, hp⟩ : ∃ p, w.heap.size = p := ⟨_, rfl⟩
  rw [hw1] at HB HC HT HV
  rw [hp] at HC
  rw [hw1, hp]
  clear hw1 hp
  have r0 := HC.out.at 0 _ rfl
  have r1 := HC.out.at 1 _ rfl
  have r2 := HC.out.at 2 _ rfl
  go_wp2_with fail
  go_at_call 79
  refine (rformed_any vs Av lv cv (Tm.cnt (.mk o n ks)) o n ks l A c inp _ b HL.out (Nat.le_refl _) HT.out HV.out HFB).mono ?_
  rintro e w2 ⟨rfl, hb2⟩
  have HB2 := Lib.hid (HB.out.trans (hb2.mono HB.out.size))
  have HC2 := Lib.hid (HC.out.next hb2)
  have HT2 := Lib.hid (HT.out.below hb2)
  have HV2 := Lib.hid (HV.out.below hb2)
  clear hb2 HB HC HT HV r0 r1 r2
  have r0 := HC2.out.at 0 _ rfl
  have r1 := HC2.out.at 1 _ rfl
  have r2 := HC2.out.at 2 _ rfl
  cases b with
  | false =>
    have hr : r = 1 := by have := HS.out; simpa using this.symm
    subst hr
    clear HS
    go_wp2_with fail
    go_ret
    exact ⟨rfl, HB2.out⟩
  | true =>
    go_wp2_with fail
    go_at_call 80
    refine (rrange_any vs hvb Av lv cv inp (Tm.cnt (.mk o n ks)) o n ks l A c _ x HL.out (Nat.le_refl _) HT2.out HV2.out HFB HX).mono ?_
    rintro e w3 ⟨a, b, rfl, hab, hb3⟩
    have HB3 := Lib.hid (HB2.out.trans (hb3.mono HB2.out.size))
    clear hb3 HB2 HC2 HT2 HV2 r0 r1 r2 hab HX
    cases x with
    | none =>
      have hr : r = 3 := by have := HS.out; simpa using this.symm
      subst hr
      clear HS
      simp only [Option.isSome_none]
      go_wp2_with fail
      go_ret
      exact ⟨rfl, HB3.out⟩
    | some rr =>
      have hr : r = 0 := by have := HS.out; simpa using this.symm
      subst hr
      clear HS
      simp only [Option.isSome_some]
      go_wp2_with fail
      go_ret
      exact ⟨rfl, HB3.out⟩
end Go.Proofs.YtjpjmoejdkmglaaGreat
