/-
  The walks over the comparisons of numbers, of lists of numbers and of observations, the program's and the reference's.
-/
import Derived.Test.YtjpjmoejdkmglaaJD
import Derived.Test.YtjpjmoejdkmglaaFlOp
namespace Go.Proofs.Ytjpjmoejdkmglaa
open Go.RowKit

theorem nan_b (a : Int) (w : World) : Calls Try.prog 121 #[.int .i64 a] w fun e w' => e = .returned (.bool false) ∧ w = w' := by
  have h := bne_self a
  go_enter Try.func121, Try.ntmps121
  go_wp2_with fail
  go_ret
  exact ⟨rfl, rfl⟩
theorem rflag_b (b : Bool) (w : World) : Calls Try.prog 100 #[.bool b] w fun e w' => e = .returned (.int .i64 (flagP b)) ∧ w = w' := by
  cases b
  all_goals
    go_enter Try.func100, Try.ntmps100
    go_wp2_with fail
    go_ret
    exact ⟨rfl, rfl⟩

theorem ccmp_b (a b r : Int) (H : Hid (cmpZ a b = r)) (w : World) : Calls Try.prog 99 #[.int .i64 a, .int .i64 b] w fun e w' => e = .returned (.int .i64 r) ∧ w = w' := by
  have hr : r = cmpZ a b := H.out.symm
  rcases cmpZ_cases a b with ⟨hz, h⟩ | ⟨hz, h⟩ | ⟨hz, h⟩
  · rw [hz] at hr
    subst hr
    have d1 : decide (a < b) = true := decide_eq_true h
    clear H hz
    go_enter Try.func99, Try.ntmps99
    go_wp2_with fail
    go_at_call 121
    refine (nan_b _ _).mono ?_
    rintro e w1 ⟨rfl, rfl⟩
    go_wp2_with fail
    go_at_call 121
    refine (nan_b _ _).mono ?_
    rintro e w2 ⟨rfl, rfl⟩
    go_wp2_with fail
    go_ret
    exact ⟨rfl, rfl⟩
  · rw [hz] at hr
    subst hr h
    have d1 : decide (a < a) = false := decide_eq_false (by omega)
    clear H hz
    go_enter Try.func99, Try.ntmps99
    go_wp2_with fail
    go_at_call 121
    refine (nan_b _ _).mono ?_
    rintro e w1 ⟨rfl, rfl⟩
    go_wp2_with fail
    go_at_call 121
    refine (nan_b _ _).mono ?_
    rintro e w2 ⟨rfl, rfl⟩
    go_wp2_with fail
    go_ret
    exact ⟨rfl, rfl⟩
  · rw [hz] at hr
    subst hr
    have d1 : decide (a < b) = false := decide_eq_false (by omega)
    have d2 : decide (b < a) = true := decide_eq_true h
    clear H hz
    go_enter Try.func99, Try.ntmps99
    go_wp2_with fail
    go_at_call 121
    refine (nan_b _ _).mono ?_
    rintro e w1 ⟨rfl, rfl⟩
    go_wp2_with fail
    go_at_call 121
    refine (nan_b _ _).mono ?_
    rintro e w2 ⟨rfl, rfl⟩
    go_wp2_with fail
    go_ret
    exact ⟨rfl, rfl⟩

theorem rorder_b (a b r : Int) (H : Hid (cmpZ a b = r)) (w : World) : Calls Try.prog 62 #[.int .i64 a, .int .i64 b] w fun e w' => e = .returned (.int .i64 r) ∧ w = w' := by
  have hr : r = cmpZ a b := H.out.symm
  rcases cmpZ_cases a b with ⟨hz, h⟩ | ⟨hz, h⟩ | ⟨hz, h⟩
  · rw [hz] at hr
    subst hr
    have d1 : decide (a < b) = true := decide_eq_true h
    clear H hz
    go_enter Try.func62, Try.ntmps62
    go_wp2_with fail
    go_ret
    exact ⟨rfl, rfl⟩
  · rw [hz] at hr
    subst hr h
    have d1 : decide (a < a) = false := decide_eq_false (by omega)
    clear H hz
    go_enter Try.func62, Try.ntmps62
    go_wp2_with fail
    go_at_call 100
    refine (rflag_b false _).mono ?_
    rintro e w1 ⟨rfl, rfl⟩
    go_wp2_with fail
    go_ret
    exact ⟨rfl, rfl⟩
  · rw [hz] at hr
    subst hr
    have d1 : decide (a < b) = false := decide_eq_false (by omega)
    have d2 : decide (b < a) = true := decide_eq_true h
    clear H hz
    go_enter Try.func62, Try.ntmps62
    go_wp2_with fail
    go_at_call 100
    refine (rflag_b true _).mono ?_
    rintro e w1 ⟨rfl, rfl⟩
    go_wp2_with fail
    go_ret
    exact ⟨rfl, rfl⟩

set_option maxHeartbeats 4000000 in
theorem reqInts_b (bs bs' : List Int) (A A' : Option Addr) (l c l' c' : Nat) (b : Bool) (H : Hid ((bs == bs') = b)) (w : World) (hz : Zs w A l c bs) (hz' : Zs w A' l' c' bs') :
    Calls Try.prog 56 #[.slice A l c, .slice A' l' c'] w fun e w' => e = .returned (.bool b) ∧ Below w.heap.size w w' := by
  have HZ := Lib.hid hz
  have HZ' := Lib.hid hz'
  have HL := Lib.hid hz.len
  have HL' := Lib.hid hz'.len
  have hlm : l ≤ 9223372036854775807 := by have h1 := hz.cap; have h2 := hz.big; unfold maxLen at h2; omega
  by_cases hll : l = l'
  case neg =>
    have hne : ((l : Int) != (l' : Int)) = true := bne_of (by omega)
    have hne2 : (l != l') = true := by simpa using hll
    have hb : b = false := by rw [← H.out]; exact beqL_len (by rw [hz.len, hz'.len]; exact hll)
    subst hb
    clear hz hz' H hll
    go_enter Try.func56, Try.ntmps56
    go_wp2_with fail
    go_ret
    exact ⟨rfl, Below.refl _ _⟩
  subst hll
  clear hz hz'
  go_enter Try.func56, Try.ntmps56
  go_wp2_with fail
  go_loopw [5] (fun v wr => ∃ k : Nat, k ≤ l ∧ v = .int .i64 k ∧ Hid (∀ j, j < k → bs.getD j 0 = bs'.getD j 0) ∧ Hid (Below w.heap.size w wr)) (fun v _ => l - (intOf v).toNat)
  case atStart => exact ⟨0, by omega, rfl, Lib.hid (fun j h => absurd h (by omega)), Lib.hid (Below.refl _ _)⟩
  case round =>
    obtain ⟨k, hk, rfl, HK, HB⟩ := hrel
    by_cases hlt : k < l
    · obtain ⟨g, f, hA, hg, hc⟩ := (HZ.out.below HB.out).mem (by omega)
      obtain ⟨g', f', hA', hg', hc'⟩ := (HZ'.out.below HB.out).mem (by omega)
      subst hA hA'
      have hlt' : (k : Int) < (l : Int) := by omega
      have hk0 : (0 : Int) ≤ (k : Int) := by omega
      have ck := hc k hlt
      have ck' := hc' k hlt
      obtain ⟨x, hx⟩ : ∃ x, bs.getD k 0 = x := ⟨_, rfl⟩
      obtain ⟨x', hx'⟩ : ∃ x, bs'.getD k 0 = x := ⟨_, rfl⟩
      rw [hx] at ck
      rw [hx'] at ck'
      have HX := Lib.hid hx
      have HX' := Lib.hid hx'
      clear hc hc' hx hx'
      by_cases hxx : x = x'
      · subst hxx
        have HK' : Hid (∀ j, j < k + 1 → bs.getD j 0 = bs'.getD j 0) := fun j hj => by
          by_cases e : j = k
          · subst e; rw [HX.out, HX'.out]
          · exact HK.out j (by omega)
        clear HK
        go_wp2_with fail
        go_quiet (fail)
        go_wp2_with fail
        go_roundw
        case rel => exact ⟨k + 1, by omega, by go_num, HK', Lib.hid (below_drewN HB.out _)⟩
        case measure => simp [intOf]; omega
      · have hb : b = false := by rw [← H.out]; exact beqL_get (i := k) (by rw [HX.out, HX'.out]; exact hxx)
        subst hb
        have hne := bne_of hxx
        clear H HK hxx
        go_wp2_with fail
        go_quiet (fail)
        go_wp2_with fail
        go_ret
        exact ⟨rfl, below_drewN HB.out _⟩
    · obtain rfl : k = l := by omega
      have hb : b = true := by rw [← H.out]; exact beqL_all (by rw [HL.out, HL'.out]) fun i h => HK.out i (by rw [← HL.out]; exact h)
      subst hb
      clear H HK
      go_wp2_with fail
      go_ret
      exact ⟨rfl, HB.out⟩

set_option maxHeartbeats 4000000 in
theorem scmp_b (bs bs' : List Int) (A A' : Option Addr) (l c l' c' : Nat) (r : Int) (H : Hid (cmpL bs bs' = r)) (w : World) (hz : Zs w A l c bs) (hz' : Zs w A' l' c' bs') :
    Calls Try.prog 61 #[.slice A l c, .slice A' l' c'] w fun e w' => e = .returned (.int .i64 r) ∧ w = w' := by
  have HZ := Lib.hid hz
  have HZ' := Lib.hid hz'
  have HL := Lib.hid hz.len
  have HL' := Lib.hid hz'.len
  have hlm : l ≤ 9223372036854775807 := by have h1 := hz.cap; have h2 := hz.big; unfold maxLen at h2; omega
  clear hz hz'
  go_enter Try.func61, Try.ntmps61
  go_wp2_with fail
  go_loop [11] (fun v => ∃ k : Nat, k ≤ l ∧ k ≤ l' ∧ v = .int .i64 k ∧ Hid (∀ j, j < k → bs.getD j 0 = bs'.getD j 0)) (fun v => l - (intOf v).toNat)
  case atStart => exact ⟨0, by omega, by omega, rfl, Lib.hid (fun j h => absurd h (by omega))⟩
  case round =>
    obtain ⟨k, hk, hk', rfl, HK⟩ := hrel
    by_cases hlt : k < l
    · obtain ⟨g, f, hA, hg, hc⟩ := HZ.out.mem (by omega)
      have hlt' : (k : Int) < (l : Int) := by omega
      have ck := hc k hlt
      subst hA
      obtain ⟨x, hx⟩ : ∃ x, bs.getD k 0 = x := ⟨_, rfl⟩
      rw [hx] at ck
      have HX := Lib.hid hx
      clear hc hx
      by_cases hge : l' ≤ k
      · have d1 : decide (l' ≤ k) = true := decide_eq_true hge
        have d2 : decide ((l' : Int) ≤ (k : Int)) = true := decide_eq_true (by omega)
        have hr : r = 1 := by
          rw [← H.out, cmpL_pre bs bs' (fun j h1 h2 => HK.out j (by rw [HL'.out] at h2; omega)), HL.out, HL'.out]
          unfold cmpZ; rw [if_neg (by omega), if_pos (by omega)]
        subst hr
        clear H HK
        go_wp2_with fail
        go_ret
        exact ⟨rfl, rfl⟩
      · have d1 : decide (l' ≤ k) = false := decide_eq_false hge
        have d2 : decide ((l' : Int) ≤ (k : Int)) = false := decide_eq_false (by omega)
        have hl2 : (k : Int) < (l' : Int) := by omega
        obtain ⟨g', f', hA', hg', hc'⟩ := HZ'.out.mem (by omega)
        subst hA'
        have ck' := hc' k (by omega)
        obtain ⟨x', hx'⟩ : ∃ x, bs'.getD k 0 = x := ⟨_, rfl⟩
        rw [hx'] at ck'
        have HX' := Lib.hid hx'
        obtain ⟨z, hz⟩ : ∃ z, cmpZ x x' = z := ⟨_, rfl⟩
        have HZZ := Lib.hid hz
        clear hc' hx' hz
        go_wp2_with fail
        go_at_call 99
        refine (ccmp_b x x' z HZZ _).mono ?_
        rintro e w1 ⟨rfl, rfl⟩
        by_cases h0 : z = 0
        · have hb : (z != 0) = false := by rw [h0]; rfl
          have HK' : Hid (∀ j, j < k + 1 → bs.getD j 0 = bs'.getD j 0) := fun j hj => by
            by_cases e : j = k
            · subst e
              rw [HX.out, HX'.out]
              have := HZZ.out
              rcases cmpZ_cases x x' with ⟨h1, h2⟩ | ⟨h1, h2⟩ | ⟨h1, h2⟩ <;> first | exact h2 | omega
            · exact HK.out j (by omega)
          clear HK h0
          go_wp2_with fail
          go_round
          case rel => exact ⟨k + 1, by omega, by omega, by go_num, HK'⟩
          case measure => simp [intOf]; omega
        · have hb := bne_of h0
          have hr : r = z := by
            rw [← H.out, cmpL_at bs bs' k (by rw [HL.out]; exact hlt) (by rw [HL'.out]; omega) HK.out (by rw [HX.out, HX'.out]; intro e; apply h0; rw [← HZZ.out, e]; unfold cmpZ; rw [if_neg (by omega), if_neg (by omega)]), HX.out, HX'.out]
            exact HZZ.out
          subst hr
          clear H HK h0
          go_wp2_with fail
          go_ret
          exact ⟨rfl, rfl⟩
    · obtain rfl : k = l := by omega
      have hr : r = cmpZ k l' := by
        rw [← H.out, cmpL_pre bs bs' (fun j h1 h2 => HK.out j (by rw [HL.out] at h1; omega)), HL.out, HL'.out]
      clear H HK
      by_cases hl2 : k < l'
      · have hl3 : (k : Int) < (l' : Int) := by omega
        have hr2 : r = -1 := by rw [hr]; unfold cmpZ; rw [if_pos (by omega)]
        subst hr2
        clear hr
        go_wp2_with fail
        go_ret
        exact ⟨rfl, rfl⟩
      · have hl3 : ¬ (k : Int) < (l' : Int) := by omega
        have hr2 : r = 0 := by rw [hr]; unfold cmpZ; rw [if_neg (by omega), if_neg (by omega)]
        subst hr2
        clear hr
        go_wp2_with fail
        go_ret
        exact ⟨rfl, rfl⟩

set_option maxRecDepth 100000 in
set_option maxHeartbeats 4000000 in
theorem Compare_b (bs bs' : List Int) (s t : Int) (A A' : Option Addr) (l c l' c' : Nat) (r : Int) (H : Hid (cmpO bs bs' s t = r)) (w : World) (hz : Zs w A l c bs) (hz' : Zs w A' l' c' bs') :
    Calls Try.prog 23 #[.agg #[.slice A l c, .int .i64 s], .agg #[.slice A' l' c', .int .i64 t]] w fun e w' => e = .returned (.int .i64 r) ∧ Below w.heap.size w w' := by
  have hb1 := (Below.refl w.heap.size w).alloc (Nat.le_refl _) (.cells #[.slice A l c, .int .i64 s] 36)
  have hb2 := hb1.alloc hb1.size (.cells #[.slice A' l' c', .int .i64 t] 36)
  have HB := Lib.hid hb2
  have HN := Lib.hid ((Cs.new w #[.slice A l c, .int .i64 s] 36).alloc (.cells #[.slice A' l' c', .int .i64 t] 36))
  have HM := Lib.hid (Cs.new1 w (.cells #[.slice A l c, .int .i64 s] 36) #[.slice A' l' c', .int .i64 t] 36)
  have HZ := Lib.hid (hz.below hb2)
  have HZ' := Lib.hid (hz'.below hb2)
  clear hb1 hb2 hz hz'
  go_enter Try.func23, Try.ntmps23
  go_upto_region 1 with fail
  obtain ⟨w1, hw1⟩ : ∃ w1, (w.alloc (.cells #[.slice A l c, .int .i64 s] 36)).alloc (.cells #[.slice A' l' c', .int .i64 t] 36) = w1 := ⟨_, rfl⟩
  rw [hw1] at HB HN HM HZ HZ'
  rw [hw1]
  clear hw1
  have n0 := HN.out.at 0 _ rfl
  have n1 := HN.out.at 1 _ rfl
  have m0 := HM.out.at 0 _ rfl
  have m1 := HM.out.at 1 _ rfl
  obtain ⟨z, hzz⟩ : ∃ z, cmpL bs bs' = z := ⟨_, rfl⟩
  have HZZ := Lib.hid hzz
  have hsum : (if z ≠ 0 then z else cmpZ s t) = r := by rw [← H.out, cmpO, hzz]
  have HSUM := Lib.hid hsum
  clear hzz hsum H
  go_wp2_with fail
  go_at_call 61
  refine (scmp_b bs bs' A A' l c l' c' z HZZ _ HZ.out HZ'.out).mono ?_
  rintro e w2 ⟨rfl, rfl⟩
  by_cases h0 : z = 0
  case neg =>
    have hb := bne_of h0
    have hr : r = z := by rw [← HSUM.out, if_pos h0]
    subst hr
    clear HSUM h0
    go_wp2_with fail
    go_ret
    exact ⟨rfl, HB.out⟩
  have hb : (z != 0) = false := by rw [h0]; rfl
  have hr : r = cmpZ s t := by rw [← HSUM.out, if_neg (by simpa using h0)]
  clear HSUM h0
  rcases cmpZ_cases s t with ⟨hz, h⟩ | ⟨hz, h⟩ | ⟨hz, h⟩
  · rw [hz] at hr
    subst hr
    have d1 : decide (s < t) = true := decide_eq_true h
    clear hz
    go_wp2_with fail
    go_ret
    exact ⟨rfl, HB.out⟩
  · rw [hz] at hr
    subst hr h
    have d1 : decide (s < s) = false := decide_eq_false (by omega)
    clear hz
    go_wp2_with fail
    go_ret
    exact ⟨rfl, HB.out⟩
  · rw [hz] at hr
    subst hr
    have d1 : decide (s < t) = false := decide_eq_false (by omega)
    have d2 : decide (t < s) = true := decide_eq_true h
    clear hz
    go_wp2_with fail
    go_ret
    exact ⟨rfl, HB.out⟩

set_option maxRecDepth 100000 in
set_option maxHeartbeats 4000000 in
theorem Same_b (bs bs' : List Int) (s t : Int) (A A' : Option Addr) (l c l' c' : Nat) (b : Bool) (H : Hid (((s == t) && (bs == bs')) = b)) (w : World) (hz : Zs w A l c bs) (hz' : Zs w A' l' c' bs') :
    Calls Try.prog 16 #[.agg #[.slice A l c, .int .i64 s], .agg #[.slice A' l' c', .int .i64 t]] w fun e w' => e = .returned (.bool b) ∧ Below w.heap.size w w' := by
  have hb1 := (Below.refl w.heap.size w).alloc (Nat.le_refl _) (.cells #[.slice A l c, .int .i64 s] 36)
  have hb2 := hb1.alloc hb1.size (.cells #[.slice A' l' c', .int .i64 t] 36)
  have HB := Lib.hid hb2
  have HN := Lib.hid ((Cs.new w #[.slice A l c, .int .i64 s] 36).alloc (.cells #[.slice A' l' c', .int .i64 t] 36))
  have HM := Lib.hid (Cs.new1 w (.cells #[.slice A l c, .int .i64 s] 36) #[.slice A' l' c', .int .i64 t] 36)
  have HZ := Lib.hid (hz.below hb2)
  have HZ' := Lib.hid (hz'.below hb2)
  clear hb1 hb2 hz hz'
  go_enter Try.func16, Try.ntmps16
  go_upto_region 1 with fail
  obtain ⟨w1, hw1⟩ : ∃ w1, (w.alloc (.cells #[.slice A l c, .int .i64 s] 36)).alloc (.cells #[.slice A' l' c', .int .i64 t] 36) = w1 := ⟨_, rfl⟩
  rw [hw1] at HB HN HM HZ HZ'
  rw [hw1]
  clear hw1
  have n0 := HN.out.at 0 _ rfl
  have n1 := HN.out.at 1 _ rfl
  have m0 := HM.out.at 0 _ rfl
  have m1 := HM.out.at 1 _ rfl
  obtain ⟨z, hzz⟩ : ∃ z, (bs == bs') = z := ⟨_, rfl⟩
  have HZZ := Lib.hid hzz
  have hsum : ((s == t) && z) = b := by rw [← H.out, hzz]
  have HSUM := Lib.hid hsum
  clear hzz hsum H
  by_cases hst : s = t
  case neg =>
    have he := beq_of hst
    have hb : b = false := by rw [← HSUM.out, he]; rfl
    subst hb
    clear HSUM hst
    go_wp2_with fail
    go_ret
    exact ⟨rfl, HB.out⟩
  subst hst
  have hb : z = b := by have := HSUM.out; simpa using this
  subst hb
  clear HSUM
  go_wp2_with fail
  go_at_call 56
  refine (reqInts_b bs bs' A A' l c l' c' z HZZ _ HZ.out HZ'.out).mono ?_
  rintro e w2 ⟨rfl, hb⟩
  have HB6 := Lib.hid (HB.out.trans (hb.mono HB.out.size))
  clear hb
  go_wp2_with fail
  go_ret
  exact ⟨rfl, HB6.out⟩
end Go.Proofs.Ytjpjmoejdkmglaa
