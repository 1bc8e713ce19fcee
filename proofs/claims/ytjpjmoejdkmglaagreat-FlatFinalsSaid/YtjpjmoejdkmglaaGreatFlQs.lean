/-
  The walks over the comparisons of lists of numbers and of observations that the reference and the law make.
-/
import Derived.Test.YtjpjmoejdkmglaaGreatJD
namespace Go.Proofs.YtjpjmoejdkmglaaGreat
open Go.RowKit

theorem rflag_b (b : Bool) (w : World) : Calls Tryz.prog 84 #[.bool b] w fun e w' => e = .returned (.int .i64 (flagP b)) ∧ w = w' := by
  cases b
  all_goals
    go_enter Tryz.func84, Tryz.ntmps84
    go_wp2_with fail
    go_ret
    exact ⟨rfl, rfl⟩

set_option maxHeartbeats 4000000 in
theorem reqInts_b (bs bs' : List Int) (A A' : Option Addr) (l c l' c' : Nat) (b : Bool) (H : Hid ((bs == bs') = b)) (w : World) (hz : Zs w A l c bs) (hz' : Zs w A' l' c' bs') :
    Calls Tryz.prog 12 #[.slice A l c, .slice A' l' c'] w fun e w' => e = .returned (.bool b) ∧ Below w.heap.size w w' := by
  have HZ := Lib.hid hz
  have HZ' := Lib.hid hz'
  have HL := Lib.hid hz.len
  have HL' := Lib.hid hz'.len
  have hlm : l ≤ 9223372036854775807 := by have h1 := hz.cap; have h2 := hz.big; unfold maxLen at h2; omega
  by_cases hll : l = l'
  case neg =>
    have hne : ((l : Int) != (l' : Int)) = true := bne_of (by omega)
    have hne2 : (l != l') = true := by simpa using hll
    have hb : b = false := by rw [← H.out]; exact beqL_len (by rw [hz.len, hz'.len]; exact hll)
    subst hb
    clear hz hz' H hll
    go_enter Tryz.func12, Tryz.ntmps12
    go_wp2_with fail
    go_ret
    exact ⟨rfl, Below.refl _ _⟩
  subst hll
  clear hz hz'
  go_enter Tryz.func12, Tryz.ntmps12
  go_wp2_with fail
  go_loopw [5] (fun v wr => ∃ k : Nat, k ≤ l ∧ v = .int .i64 k ∧ Hid (∀ j, j < k → bs.getD j 0 = bs'.getD j 0) ∧ Hid (Below w.heap.size w wr)) (fun v _ => l - (intOf v).toNat)
  case atStart => exact ⟨0, by omega, rfl, Lib.hid (fun j h => absurd h (by omega)), Lib.hid (Below.refl _ _)⟩
  case round =>
    obtain ⟨k, hk, rfl, HK, HB⟩ := hrel
    by_cases hlt : k < l
    · obtain ⟨g, f, hA, hg, hc⟩ := (HZ.out.below HB.out).mem (by omega)
      obtain ⟨g', f', hA', hg', hc'⟩ := (HZ'.out.below HB.out).mem (by omega)
      subst hA hA'
      have hlt' : (k : Int) < (l : Int) := by omega
      have hk0 : (0 : Int) ≤ (k : Int) := by omega
      have ck := hc k hlt
      have ck' := hc' k hlt
      obtain ⟨x, hx⟩ : ∃ x, bs.getD k 0 = x := ⟨_, rfl⟩
      obtain ⟨x', hx'⟩ : ∃ x, bs'.getD k 0 = x := ⟨_, rfl⟩
      rw [hx] at ck
      rw [hx'] at ck'
      have HX := Lib.hid hx
      have HX' := Lib.hid hx'
      clear hc hc' hx hx'
      by_cases hxx : x = x'
      · subst hxx
        have HK' : Hid (∀ j, j < k + 1 → bs.getD j 0 = bs'.getD j 0) := fun j hj => by
          by_cases e : j = k
          · subst e; rw [HX.out, HX'.out]
          · exact HK.out j (by omega)
        clear HK
        go_wp2_with fail
        go_quiet (fail)
        go_wp2_with fail
        go_roundw
        case rel => exact ⟨k + 1, by omega, by go_num, HK', Lib.hid (below_drewN HB.out _)⟩
        case measure => simp [intOf]; omega
      · have hb : b = false := by rw [← H.out]; exact beqL_get (i := k) (by rw [HX.out, HX'.out]; exact hxx)
        subst hb
        have hne := bne_of hxx
        clear H HK hxx
        go_wp2_with fail
        go_quiet (fail)
        go_wp2_with fail
        go_ret
        exact ⟨rfl, below_drewN HB.out _⟩
    · obtain rfl : k = l := by omega
      have hb : b = true := by rw [← H.out]; exact beqL_all (by rw [HL.out, HL'.out]) fun i h => HK.out i (by rw [← HL.out]; exact h)
      subst hb
      clear H HK
      go_wp2_with fail
      go_ret
      exact ⟨rfl, HB.out⟩

set_option maxRecDepth 100000 in
set_option maxHeartbeats 4000000 in
theorem Same_b (bs bs' : List Int) (s t : Int) (A A' : Option Addr) (l c l' c' : Nat) (b : Bool) (H : Hid (((s == t) && (bs == bs')) = b)) (w : World) (hz : Zs w A l c bs) (hz' : Zs w A' l' c' bs') :
    Calls Tryz.prog 9 #[.agg #[.slice A l c, .int .i64 s], .agg #[.slice A' l' c', .int .i64 t]] w fun e w' => e = .returned (.bool b) ∧ Below w.heap.size w w' := by
  have hb1 := (Below.refl w.heap.size w).alloc (Nat.le_refl _) (.cells #[.slice A l c, .int .i64 s] 33)
  have hb2 := hb1.alloc hb1.size (.cells #[.slice A' l' c', .int .i64 t] 33)
  have HB := Lib.hid hb2
  have HN := Lib.hid ((Cs.new w #[.slice A l c, .int .i64 s] 33).alloc (.cells #[.slice A' l' c', .int .i64 t] 33))
  have HM := Lib.hid (Cs.new1 w (.cells #[.slice A l c, .int .i64 s] 33) #[.slice A' l' c', .int .i64 t] 33)
  have HZ := Lib.hid (hz.below hb2)
  have HZ' := Lib.hid (hz'.below hb2)
  clear hb1 hb2 hz hz'
  go_enter Tryz.func9, Tryz.ntmps9
  go_upto_region 1 with fail
  obtain ⟨w1, hw1⟩ : ∃ w1, (w.alloc (.cells #[.slice A l c, .int .i64 s] 33)).alloc (.cells #[.slice A' l' c', .int .i64 t] 33) = w1 := ⟨_, rfl⟩
  rw [hw1] at HB HN HM HZ HZ'
  rw [hw1]
  clear hw1
  have n0 := HN.out.at 0 _ rfl
  have n1 := HN.out.at 1 _ rfl
  have m0 := HM.out.at 0 _ rfl
  have m1 := HM.out.at 1 _ rfl
  obtain ⟨z, hzz⟩ : ∃ z, (bs == bs') = z := ⟨_, rfl⟩
  have HZZ := Lib.hid hzz
  have hsum : ((s == t) && z) = b := by rw [← H.out, hzz]
  have HSUM := Lib.hid hsum
  clear hzz hsum H
  by_cases hst : s = t
  case neg =>
    have he := beq_of hst
    have hb : b = false := by rw [← HSUM.out, he]; rfl
    subst hb
    clear HSUM hst
    go_wp2_with fail
    go_ret
    exact ⟨rfl, HB.out⟩
  subst hst
  have hb : z = b := by have := HSUM.out; simpa using this
  subst hb
  clear HSUM
  go_wp2_with fail
  go_at_call 12
  refine (reqInts_b bs bs' A A' l c l' c' z HZZ _ HZ.out HZ'.out).mono ?_
  rintro e w2 ⟨rfl, hb⟩
  have HB6 := Lib.hid (HB.out.trans (hb.mono HB.out.size))
  clear hb
  go_wp2_with fail
  go_ret
  exact ⟨rfl, HB6.out⟩
end Go.Proofs.YtjpjmoejdkmglaaGreat
