/-
  The walks over Subset, Count, Next and Least.
-/
import Derived.Test.YtpapbpekihgnlaaDoorBsK
namespace Go.Proofs.YtpapbpekihgnlaaDoor
open Go.RowKit

theorem sub_zero {x y : Nat} (hy : y < 2 ^ 64) : x &&& (18446744073709551615 - y) = 0 ↔ ∀ k, k < 64 → x.testBit k = true → y.testBit k = true := by
  constructor
  · intro h k hk hb
    have e : (x &&& (18446744073709551615 - y)).testBit k = false := by rw [h]; simp
    rw [Nat.testBit_and, Bs.not_bit hy, hb] at e
    simpa [hk] using e
  · intro h
    refine Nat.eq_of_testBit_eq fun k => ?_
    rw [Nat.testBit_and, Bs.not_bit hy, Nat.zero_testBit]
    by_cases hk : k < 64
    · cases hb : x.testBit k
      · simp
      · simp [h k hk hb]
    · simp [hk]
/-- What Subset returns. -/
def subR (n : Int) (ws : List Nat) (n' : Int) (ws' : List Nat) : Bool := decide (pairR n ws n' ws' = 0) && (List.range n.toNat).all fun i => !Bs.bit ws i || Bs.bit ws' i
theorem getD_bit (ws : List Nat) (k j : Nat) (hj : j < 64) : (ws.getD k 0).testBit j = Bs.bit ws (64 * k + j) := by
  unfold Bs.bit
  rw [show (64 * k + j) / 64 = k by omega, show (64 * k + j) % 64 = j by omega]

set_option maxHeartbeats 1000000 in
theorem subset_b (n : Int) (A : Option Addr) (l c : Nat) (ws : List Nat) (n' : Int) (A' : Option Addr) (l' c' : Nat) (ws' : List Nat) (b : Bool) (H : Hid (subR n ws n' ws' = b)) (w : World) (hw : Wd w A l c ws) (hw' : Wd w A' l' c' ws') :
    Calls Tryd.prog 28 #[.agg #[.int .i64 n, .slice A l c], .agg #[.int .i64 n', .slice A' l' c']] w fun e w' => e = .returned (.bool b) ∧ Below w.heap.size w w' := by
  have HW := Lib.hid hw
  have HW' := Lib.hid hw'
  clear hw hw'
  obtain ⟨p, hp⟩ : ∃ p, pairR n ws n' ws' = p := ⟨_, rfl⟩
  have HP := Lib.hid hp
  have HT := Lib.hid (boxT_cs w n A l c n' A' l' c')
  have HTB := Lib.hid (boxT_below w n A l c n' A' l' c')
  go_enter Tryd.func28, Tryd.ntmps28
  go_wp2_with fail
  go_at_call 53
  refine (pair_b n A l c ws n' A' l' c' ws' p HP _ (HW.out.below HTB.out) (HW'.out.below HTB.out)).mono ?_
  rintro e w2 ⟨rfl, hb⟩
  have HC := Lib.hid (HT.out.1.next hb)
  have HC' := Lib.hid (HT.out.2.next hb)
  have HB := Lib.hid (HTB.out.trans (hb.mono HTB.out.size))
  clear hb HT HTB HP
  have c0 := HC.out.at 0 _ rfl
  have c1 := HC.out.at 1 _ rfl
  have d0 := HC'.out.at 0 _ rfl
  have d1 := HC'.out.at 1 _ rfl
  by_cases hp0 : p = 0
  · subst hp0
    obtain ⟨hv, hv', hnn⟩ := pairR_zero hp
    subst hnn
    obtain ⟨m, rfl⟩ : ∃ m : Nat, n = m := ⟨n.toNat, by have := (Bs.vld_iff.1 hv).1; omega⟩
    have hlen := Bs.vld_len hv
    have hlen' := Bs.vld_len hv'
    have hn := Bs.vld_le hv
    have hll := HW.out.len
    have hll' := HW'.out.len
    obtain rfl : l' = l := by omega
    have HV := Lib.hid hv
    have HLL := Lib.hid (hll.symm.trans hlen)
    have hbb : ((List.range m).all fun i => !Bs.bit ws i || Bs.bit ws' i) = b := by rw [← H.out]; unfold subR; rw [hp, Int.toNat_natCast]; rfl
    have HBB := Lib.hid hbb
    have hl6 : l' ≤ 1000000 := by omega
    clear H hp hbb hlen hlen' hn hll hll' hv hv'
    go_wp2_with fail
    go_loopw [14] (fun v wr => ∃ k : Nat, k ≤ l' ∧ v = .int .i64 k ∧ Hid (∀ i, i < 64 * k → Bs.bit ws i = true → Bs.bit ws' i = true) ∧ Hid (wr = w2)) (fun v _ => l' - (intOf v).toNat)
    case atStart => exact ⟨0, by omega, rfl, fun j hj => absurd hj (by omega), rfl⟩
    case round =>
      obtain ⟨k, hk, rfl, HK, HWR⟩ := hrel
      have hwr := HWR.out
      subst hwr
      by_cases hlt : k < l'
      · obtain ⟨g, f, hA, hg, hc⟩ := (HW.out.below HB.out).mem (by omega)
        subst hA
        obtain ⟨g', f', hA', hg', hc'⟩ := (HW'.out.below HB.out).mem (by omega)
        subst hA'
        have hcell := hc k hlt
        have hcell' := hc' k hlt
        have hxl := HW.out.fits k
        have hyl := HW'.out.fits k
        obtain ⟨x, hx⟩ : ∃ x, ws.getD k 0 = x := ⟨_, rfl⟩
        obtain ⟨y, hy⟩ : ∃ y, ws'.getD k 0 = y := ⟨_, rfl⟩
        rw [hx] at hcell hxl
        rw [hy] at hcell' hyl
        have hlt' : (k : Int) < (l' : Int) := by omega
        clear hc hc'
        have hz := sub_zero (x := x) hyl
        have hZ := u64_andNot_nat x y hxl hyl
        obtain ⟨z, hzz⟩ : ∃ z, x &&& (18446744073709551615 - y) = z := ⟨_, rfl⟩
        rw [hzz] at hz hZ
        by_cases hz0 : z = 0
        · have HK' : Hid (∀ i, i < 64 * (k + 1) → Bs.bit ws i = true → Bs.bit ws' i = true) := fun i hi hbi => by
            by_cases hik : i < 64 * k
            · exact HK.out i hik hbi
            · have h1 := hz.1 hz0 (i - 64 * k) (by omega)
              rw [← hx, ← hy, getD_bit _ _ _ (by omega), getD_bit _ _ _ (by omega), show 64 * k + (i - 64 * k) = i by omega] at h1
              exact h1 hbi
          have hd : (bits .andNot .u64 (x : Int) (y : Int) != 0) = false := by rw [hZ, hz0]; rfl
          clear HK hx hy hz hZ hzz
          go_wp2_with fail
          go_roundw
          case rel => exact ⟨k + 1, by omega, by go_num, HK', trivial⟩
          case measure => simp [intOf]; omega
        · have hb : b = false := by
            rw [← HBB.out, Bool.eq_false_iff]
            intro e
            apply hz0
            rw [hz]
            intro j hj hbj
            rw [← hx, getD_bit _ _ _ hj] at hbj
            rw [← hy, getD_bit _ _ _ hj]
            have hlm : 64 * k + j < m := by
              rcases Nat.lt_or_ge (64 * k + j) m with h | h
              · exact h
              · rw [Bs.vld_bit HV.out _ (by omega)] at hbj; cases hbj
            have := List.all_eq_true.1 e _ (List.mem_range.2 hlm)
            rw [hbj] at this
            simpa using this
          subst hb
          have hd : (bits .andNot .u64 (x : Int) (y : Int) != 0) = true := by rw [hZ]; simp; omega
          clear HK hx hy hz hZ hzz HBB
          go_wp2_with fail
          go_ret
          exact ⟨rfl, HB.out⟩
      · have hb : b = true := by
          rw [← HBB.out, List.all_eq_true]
          intro i hi
          have := List.mem_range.1 hi
          have h2 := HK.out i (by have := HLL.out; omega)
          cases hbi : Bs.bit ws i
          · rfl
          · simp [h2 hbi]
        subst hb
        clear HK HBB
        go_wp2_with fail
        go_ret
        exact ⟨rfl, HB.out⟩
  · have hb : b = false := by rw [← H.out]; unfold subR; rw [hp, decide_eq_false hp0]; rfl
    subst hb
    have hd : (p != 0) = true := by simp [hp0]
    clear H hp
    go_wp2_with fail
    go_ret
    exact ⟨rfl, HB.out⟩

/-- The members of a valid set. -/
def membR (n : Int) (ws : List Nat) : List Nat := if Bs.vld n ws = true then Bs.upto ws n.toNat else []

set_option maxHeartbeats 1000000 in
theorem count_b (n : Int) (A : Option Addr) (l c : Nat) (ws : List Nat) (r : Nat) (H : Hid ((membR n ws).length = r)) (w : World) (hw : Wd w A l c ws) :
    Calls Tryd.prog 37 #[.agg #[.int .i64 n, .slice A l c]] w fun e w' => e = .returned (.int .i64 r) ∧ Below w.heap.size w w' := by
  have HW := Lib.hid hw
  clear hw
  obtain ⟨v, hv⟩ : ∃ v, Bs.vld n ws = v := ⟨_, rfl⟩
  have HV := Lib.hid hv
  go_enter Tryd.func37, Tryd.ntmps37
  go_wp2_with fail
  go_at_call 18
  refine (valid_b n A l c ws v HV _ (HW.out.below (boxS_below w n A l c))).mono ?_
  rintro e w2 ⟨rfl, hb⟩
  have HC := Lib.hid ((boxS_cs w n A l c).next hb)
  have HB := Lib.hid ((boxS_below w n A l c).trans (hb.mono (by simp [boxS])))
  clear hb HV
  have c0 := HC.out.at 0 _ rfl
  have c1 := HC.out.at 1 _ rfl
  cases v with
  | false =>
    have hr : r = 0 := by rw [← H.out]; unfold membR; rw [if_neg (by rw [hv]; simp)]; rfl
    subst hr
    clear H hv
    go_wp2_with fail
    go_ret
    exact ⟨rfl, HB.out⟩
  | true =>
    obtain ⟨m, rfl⟩ : ∃ m : Nat, n = m := ⟨n.toNat, by have := (Bs.vld_iff.1 hv).1; omega⟩
    have hlen := Bs.vld_len hv
    have hn := Bs.vld_le hv
    have hll := HW.out.len
    have hl6 : l ≤ 64 := by omega
    have hr : (Bs.upto ws (64 * l)).length = r := by
      rw [← H.out]; unfold membR; rw [if_pos hv, Int.toNat_natCast, ← hll, Bs.upto_vld hv]
    have HR := Lib.hid hr
    clear H hv hr hlen hll
    go_wp2_with fail
    go_loopw [3, 12] (fun a v wr => ∃ k t : Nat, k ≤ l ∧ v = .int .i64 k ∧ a = .int .i64 t ∧ Hid ((Bs.upto ws (64 * k)).length = t) ∧ t ≤ 64 * k ∧ Hid (wr = w2)) (fun _ v _ => l - (intOf v).toNat)
    case atStart => exact ⟨0, 0, by omega, rfl, rfl, rfl, by omega, rfl⟩
    case round =>
      obtain ⟨k, t, hk, rfl, rfl, HK, htk, HWR⟩ := hrel
      have hwr := HWR.out
      subst hwr
      by_cases hlt : k < l
      · obtain ⟨g, f, hA, hg, hc⟩ := (HW.out.below HB.out).mem (by omega)
        subst hA
        have hcell := hc k hlt
        have hxl := HW.out.fits k
        obtain ⟨x, hx⟩ : ∃ x, ws.getD k 0 = x := ⟨_, rfl⟩
        rw [hx] at hcell hxl
        have hlt' : (k : Int) < (l : Int) := by omega
        have hpl := Bs.pc_le 64 x
        obtain ⟨q, hq⟩ : ∃ q, Bs.pc 64 x = q := ⟨_, rfl⟩
        have HK' : Hid ((Bs.upto ws (64 * (k + 1))).length = t + q) := by
          show _ = _
          rw [Bs.upto_word, List.length_append, HK.out, List.length_map, Bs.bl_len, hx, hq]
        have HQ := Lib.hid hq
        rw [hq] at hpl
        clear hc HK hq
        go_wp2_with fail
        go_at_call 56
        refine (ones_b x hxl _).mono ?_
        rw [HQ.out]
        rintro e w3 ⟨rfl, rfl⟩
        go_wp2_with fail
        go_roundw
        case rel => exact ⟨k + 1, t + q, by omega, by go_num, by go_num, HK', by omega, trivial⟩
        case measure => simp [intOf]; omega
      · obtain rfl : k = l := by omega
        have hr : r = t := by rw [← HR.out, HK.out]
        subst hr
        clear HK HR
        go_wp2_with fail
        go_ret
        exact ⟨rfl, HB.out⟩

/-- What Next returns. -/
def nextR (n : Int) (ws : List Nat) (i : Int) : Int := match (membR n ws).find? fun (k : Nat) => decide (i < (k : Int)) with
  | some k => k
  | none => -1
theorem nextR_none {m : Nat} {ws : List Nat} {i : Int} (h : ∀ k : Nat, k < m → i < k → Bs.bit ws k = false) : nextR m ws i = -1 := by
  have e : (membR m ws).find? (fun (k : Nat) => decide (i < (k : Int))) = none := by
    rw [List.find?_eq_none]
    intro k hk
    unfold membR at hk
    split at hk
    · rw [Int.toNat_natCast] at hk
      obtain ⟨h1, h2⟩ := List.mem_filter.1 hk
      rw [decide_eq_true_iff]
      intro hik
      rw [h k (List.mem_range.1 h1) hik] at h2
      cases h2
    · cases hk
  unfold nextR
  rw [e]
theorem nextR_some {m k : Nat} {ws : List Nat} {i : Int} (hv : Bs.vld m ws = true) (hk : k < m) (hik : i < k) (hb : Bs.bit ws k = true) (h : ∀ j : Nat, j < k → i < j → Bs.bit ws j = false) : nextR m ws i = k := by
  have e : (membR m ws).find? (fun (k : Nat) => decide (i < (k : Int))) = some k := by
    unfold membR
    rw [if_pos hv, Int.toNat_natCast]
    unfold Bs.upto
    rw [List.find?_filter, List.find?_range_eq_some]
    refine ⟨by simp [hb, hik], List.mem_range.2 hk, fun j hj => ?_⟩
    by_cases hij : i < j
    · simp [h j hj hij]
    · simp [hij]
  unfold nextR
  rw [e]

set_option maxHeartbeats 1000000 in
theorem next_b (n : Int) (A : Option Addr) (l c : Nat) (ws : List Nat) (i : Int) (r : Int) (H : Hid (nextR n ws i = r)) (w : World) (hw : Wd w A l c ws) :
    Calls Tryd.prog 42 #[.agg #[.int .i64 n, .slice A l c], .int .i64 i] w fun e w' => e = .returned (.int .i64 r) ∧ Below w.heap.size w w' := by
  have HW := Lib.hid hw
  clear hw
  obtain ⟨v, hv⟩ : ∃ v, Bs.vld n ws = v := ⟨_, rfl⟩
  have HV := Lib.hid hv
  go_enter Tryd.func42, Tryd.ntmps42
  go_wp2_with fail
  go_at_call 18
  refine (valid_b n A l c ws v HV _ (HW.out.below (boxS_below w n A l c))).mono ?_
  rintro e w2 ⟨rfl, hb⟩
  have HC := Lib.hid ((boxS_cs w n A l c).next hb)
  have HB := Lib.hid ((boxS_below w n A l c).trans (hb.mono (by simp [boxS])))
  clear hb HV
  have c0 := HC.out.at 0 _ rfl
  have c1 := HC.out.at 1 _ rfl
  cases v with
  | false =>
    have hr : r = -1 := by rw [← H.out]; unfold nextR membR; rw [if_neg (by rw [hv]; simp)]; rfl
    subst hr
    clear H hv
    go_wp2_with fail
    go_ret
    exact ⟨rfl, HB.out⟩
  | true =>
    obtain ⟨m, rfl⟩ : ∃ m : Nat, n = m := ⟨n.toNat, by have := (Bs.vld_iff.1 hv).1; omega⟩
    by_cases him : (m : Int) ≤ i
    · have hr : r = -1 := by rw [← H.out]; exact nextR_none fun k h1 h2 => by omega
      subst hr
      clear H hv
      go_wp2_with fail
      go_ret
      exact ⟨rfl, HB.out⟩
    · have hlen := Bs.vld_len hv
      have hn := Bs.vld_le hv
      have hll := HW.out.len
      have HLL := Lib.hid (hll.symm.trans hlen)
      have HV := Lib.hid hv
      have him' : i < (m : Int) := by omega
      have hd : decide ((m : Int) ≤ i) = false := decide_eq_false him
      clear hv hlen hll
      go_wp2_with fail
      all_goals
        go_loopw [5] (fun v wr => ∃ k : Nat, k ≤ m ∧ v = .int .i64 k ∧ i < k ∧ Hid (∀ j : Nat, j < k → i < j → Bs.bit ws j = false) ∧ Hid (wr = w2)) (fun v _ => m - (intOf v).toNat)
        case atStart => exact ⟨(i + 1).toNat, by omega, congrArg (Value.int .i64) (by omega), by omega, fun j h1 h2 => by omega, rfl⟩
        case round =>
          obtain ⟨k, hk, rfl, hik, HK, HWR⟩ := hrel
          have hwr := HWR.out
          subst hwr
          by_cases hlt : k < m
          · have hix : k / 64 < l := by have := HLL.out; omega
            have hix' : (k : Int) / 64 < (l : Int) := by omega
            have hlt' : (k : Int) < (m : Int) := by omega
            obtain ⟨g, f, hA, hg, hc⟩ := (HW.out.below HB.out).mem (by omega)
            subst hA
            have hcell := hc (k / 64) hix
            have hx := HW.out.fits (k / 64)
            obtain ⟨x, hxx⟩ : ∃ x, ws.getD (k / 64) 0 = x := ⟨_, rfl⟩
            rw [hxx] at hcell hx
            have hbx : Bs.bit ws k = decide (x / 2 ^ (k % 64) % 2 = 1) := by rw [Bs.bit_div, hxx]
            have hw1 := bit_word x (k % 64) hx
            rw [← hbx] at hw1
            clear hc hbx
            by_cases hbk : Bs.bit ws k = true
            · have hr : r = k := by rw [← H.out]; exact nextR_some HV.out hlt hik hbk HK.out
              subst hr
              rw [hbk] at hw1
              clear HK H
              go_wp2_with fail
              go_ret
              exact ⟨rfl, HB.out⟩
            · have HK' : Hid (∀ j : Nat, j < k + 1 → i < j → Bs.bit ws j = false) := fun j h1 h2 => by
                by_cases hjk : j = k
                · rw [hjk]; simpa using hbk
                · exact HK.out j (by omega) h2
              rw [Bool.eq_false_iff.2 hbk] at hw1
              clear HK
              go_wp2_with fail
              go_roundw
              case rel => exact ⟨k + 1, by omega, by go_num, by omega, HK', trivial⟩
              case measure => simp [intOf]; omega
          · obtain rfl : k = m := by omega
            have hr : r = -1 := by rw [← H.out]; exact nextR_none HK.out
            subst hr
            clear HK H
            go_wp2_with fail
            go_ret
            exact ⟨rfl, HB.out⟩

set_option maxHeartbeats 1000000 in
theorem least_b (n : Int) (A : Option Addr) (l c : Nat) (ws : List Nat) (r : Int) (H : Hid (nextR n ws (-1) = r)) (w : World) (hw : Wd w A l c ws) :
    Calls Tryd.prog 40 #[.agg #[.int .i64 n, .slice A l c]] w fun e w' => e = .returned (.int .i64 r) ∧ Below w.heap.size w w' := by
  have HW := Lib.hid hw
  clear hw
  go_enter Tryd.func40, Tryd.ntmps40
  go_wp2_with fail
  go_at_call 42
  refine (next_b n A l c ws (-1) r H _ (HW.out.below (boxS_below w n A l c))).mono ?_
  rintro e w2 ⟨rfl, hb⟩
  have HB := Lib.hid ((boxS_below w n A l c).trans (hb.mono (by simp [boxS])))
  clear hb
  go_wp2_with fail
  go_ret
  exact ⟨rfl, HB.out⟩
end Go.Proofs.YtpapbpekihgnlaaDoor
