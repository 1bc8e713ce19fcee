/-
  The walk over varsCode.
-/
import Derived.Test.YtjpjmoejdkmglaaGreatFlO
namespace Go.Proofs.YtjpjmoejdkmglaaGreat
open Go.RowKit

set_option maxRecDepth 100000 in
set_option maxHeartbeats 4000000 in
theorem varsCode_b (vs : List Vr) (Av : Option Addr) (lv cv : Nat) (w : World) (hv : VOk w Av lv cv vs) (hl6 : lv ≤ 1000) (r : Int) (H : Hid (varsC vs = r)) :
    Calls Tryz.prog 29 #[.slice Av lv cv] w fun e w' => e = .returned (.int .i64 r) ∧ Below w.heap.size w w' := by
  have HV := Lib.hid hv
  have HVL := Lib.hid hv.len
  have HL6 := Lib.hid hl6
  have hlv : lv ≤ 9223372036854775807 := by omega
  clear hv hl6
  go_enter Tryz.func29, Tryz.ntmps29
  go_upto_region 2 with fail
  go_loopw [12] (fun v wr => ∃ k : Nat, k ≤ lv ∧ v = .int .i64 k ∧ Hid (∀ j, j < k → varAt vs j = 0) ∧ Hid (Below w.heap.size w wr)) (fun v _ => lv - (intOf v).toNat)
  case atStart => exact ⟨0, by omega, rfl, Lib.hid (fun j h => absurd h (by omega)), Lib.hid (Below.refl _ _)⟩
  case round =>
    obtain ⟨k, hk, rfl, HK, HB⟩ := hrel
    by_cases hlt : k < lv
    · have hlt' : (k : Int) < (lv : Int) := by omega
      have HVT := Lib.hid ((HV.out.below HB.out).take k (by omega))
      obtain ⟨s, kd, lo, hi, ii, g, f, hvs, hs, hA, hg, k0, k1, k2, k3, k4⟩ := (HV.out.below HB.out).at k hlt
      subst hA
      have hcap := HV.out.cap
      have hbig := HV.out.big
      have hcm : cv ≤ 9223372036854775807 := by unfold maxLen at hbig; omega
      clear hbig
      obtain ⟨y, hy⟩ : ∃ y, varC (vs.take k) ⟨s, kd, lo, hi, ii⟩ = y := ⟨_, rfl⟩
      have hat : varAt vs k = y := by unfold varAt; rw [hvs]; exact hy
      have HAT := Lib.hid hat
      have HR : Hid (y ≠ 0 → r = y) := fun hne => by
        rw [← H.out]
        unfold varsC
        rw [fstC_hit vs.length k (varAt vs) (by rw [HVL.out]; exact hlt) HK.out (by rw [hat]; exact hne), hat, if_pos hne]
      have hba := (Below.refl wr.heap.size wr).alloc (Nat.le_refl _) (.cells #[.string s, .int .i64 kd, .int .i64 lo, .int .i64 hi, .int .i64 ii] 48)
      have HB4 := Lib.hid (HB.out.trans (hba.mono HB.out.size))
      have HN4 := Lib.hid (Cs.new wr #[.string s, .int .i64 kd, .int .i64 lo, .int .i64 hi, .int .i64 ii] 48)
      have HVT4 := Lib.hid (HVT.out.below hba)
      have HHS := Lib.hid hs
      obtain ⟨b1, hb1⟩ : ∃ b, nameB s = b := ⟨_, rfl⟩
      obtain ⟨b2, hb2⟩ : ∃ b, dupB (vs.take k) s = b := ⟨_, rfl⟩
      obtain ⟨b4, hb4⟩ : ∃ b, boundB lo hi = b := ⟨_, rfl⟩
      unfold varC at hy
      simp only [hb1, hb2, hb4] at hy
      have HB1 := Lib.hid hb1
      have HB2 := Lib.hid hb2
      have HBB4 := Lib.hid hb4
      clear hba hvs hat hs hb1 hb2 hb4 HVT
      go_upto_region 4 with fail
      obtain ⟨w4, hw4⟩ : ∃ w4, wr.alloc (.cells #[.string s, .int .i64 kd, .int .i64 lo, .int .i64 hi, .int .i64 ii] 48) = w4 := ⟨_, rfl⟩
      obtain ⟨b, hb⟩ : ∃ b, wr.heap.size = b := ⟨_, rfl⟩
      rw [hw4] at HB4 HN4 HVT4
      rw [hb] at HN4
      rw [hw4, hb]
      clear hw4 hb k0 k1 k2 k3 k4
      have n0 := HN4.out.at 0 _ rfl
      have n1 := HN4.out.at 1 _ rfl
      have n2 := HN4.out.at 2 _ rfl
      have n3 := HN4.out.at 3 _ rfl
      have n4 := HN4.out.at 4 _ rfl
      go_wp2_with fail
      go_at_call 59
      refine (isName_b s b1 HB1 HHS.out _).mono ?_
      rintro e w5 ⟨rfl, rfl⟩
      cases b1 with
      | false =>
        simp only [if_pos] at hy
        have hr := HR.out (by omega)
        rw [← hy] at hr
        subst hr
        clear HR hy
        go_wp2_with fail
        go_ret
        exact ⟨rfl, HB4.out⟩
      | true =>
        rw [if_neg (by decide)] at hy
        go_wp2_with fail
        go_at_call 60
        refine (vcontains_b (vs.take k) s _ k cv b b2 HB2 _ HVT4.out n0 HN4.out.lt).mono ?_
        rintro e w6 ⟨rfl, hb6⟩
        have HN6 := Lib.hid (HN4.out.next hb6)
        have HB6 := Lib.hid (HB4.out.trans (hb6.mono HB4.out.size))
        clear hb6 n0 n1 n2 n3 n4 HN4 HB4 HVT4
        have n0 := HN6.out.at 0 _ rfl
        have n1 := HN6.out.at 1 _ rfl
        have n2 := HN6.out.at 2 _ rfl
        have n3 := HN6.out.at 3 _ rfl
        have n4 := HN6.out.at 4 _ rfl
        cases b2 with
        | true =>
          simp only [if_pos] at hy
          have hr := HR.out (by omega)
          rw [← hy] at hr
          subst hr
          clear HR hy
          go_wp2_with fail
          go_ret
          exact ⟨rfl, HB6.out⟩
        | false =>
          rw [if_neg (by decide)] at hy
          by_cases hk1 : kd < 0
          · rw [if_pos (.inl hk1)] at hy
            have hr := HR.out (by omega)
            rw [← hy] at hr
            subst hr
            have hd : decide (kd < 0) = true := decide_eq_true hk1
            clear HR hy
            go_wp2_with fail
            go_ret
            exact ⟨rfl, HB6.out⟩
          have hd1 : decide (kd < 0) = false := decide_eq_false hk1
          by_cases hk3 : 3 < kd
          · rw [if_pos (.inr hk3)] at hy
            have hr := HR.out (by omega)
            rw [← hy] at hr
            subst hr
            have hd : decide (3 < kd) = true := decide_eq_true hk3
            clear HR hy
            go_wp2_with fail
            go_ret
            exact ⟨rfl, HB6.out⟩
          have hd3 : decide (3 < kd) = false := decide_eq_false hk3
          rw [if_neg (by omega)] at hy
          cases b4 with
          | false =>
            simp only [if_pos] at hy
            have hr := HR.out (by omega)
            rw [← hy] at hr
            subst hr
            clear HR hy
            go_wp2_with fail
            go_at_call 61
            refine (bounded_b lo hi false HBB4 _).mono ?_
            rintro e w7 ⟨rfl, rfl⟩
            go_wp2_with fail
            go_ret
            exact ⟨rfl, HB6.out⟩
          | true =>
            rw [if_neg (by decide)] at hy
            by_cases hk0 : kd = 0
            · subst hk0
              rw [if_neg (fun h => h.1 rfl)] at hy
              by_cases hi1 : ii < lo
              · have hd1 : decide (ii < lo) = true := decide_eq_true hi1
                rw [if_pos ⟨rfl, .inl hi1⟩] at hy
                have hr := HR.out (by omega)
                rw [← hy] at hr
                subst hr
                clear HR hy
                go_wp2_with fail
                go_at_call 61
                refine (bounded_b lo hi true HBB4 _).mono ?_
                rintro e w7 ⟨rfl, rfl⟩
                go_wp2_with fail
                go_ret
                exact ⟨rfl, HB6.out⟩
              have hd1 : decide (ii < lo) = false := decide_eq_false hi1
              by_cases hi2 : hi < ii
              · have hd2 : decide (hi < ii) = true := decide_eq_true hi2
                rw [if_pos ⟨rfl, .inr hi2⟩] at hy
                have hr := HR.out (by omega)
                rw [← hy] at hr
                subst hr
                clear HR hy
                go_wp2_with fail
                go_at_call 61
                refine (bounded_b lo hi true HBB4 _).mono ?_
                rintro e w7 ⟨rfl, rfl⟩
                go_wp2_with fail
                go_ret
                exact ⟨rfl, HB6.out⟩
              have hd2 : decide (hi < ii) = false := decide_eq_false hi2
              rw [if_neg (by omega)] at hy
              have HK' : Hid (∀ j, j < k + 1 → varAt vs j = 0) := fun j hj => by
                by_cases hjk : j = k
                · subst hjk; rw [HAT.out, hy]
                · exact HK.out j (by omega)
              clear HR hy HK
              go_wp2_with fail
              go_at_call 61
              refine (bounded_b lo hi true HBB4 _).mono ?_
              rintro e w7 ⟨rfl, rfl⟩
              go_wp2_with fail
              go_roundw
              case rel => exact ⟨k + 1, by omega, by go_num, HK', HB6⟩
              case measure => simp [intOf]; omega
            · have hkb := bne_of hk0
              have hkb2 := beq_of hk0
              by_cases hi0 : ii = 0
              · subst hi0
                rw [if_neg (fun h => h.2 rfl), if_neg (fun h => hk0 h.1)] at hy
                have HK' : Hid (∀ j, j < k + 1 → varAt vs j = 0) := fun j hj => by
                  by_cases hjk : j = k
                  · subst hjk; rw [HAT.out, hy]
                  · exact HK.out j (by omega)
                clear HR hy HK
                go_wp2_with fail
                go_at_call 61
                refine (bounded_b lo hi true HBB4 _).mono ?_
                rintro e w7 ⟨rfl, rfl⟩
                go_wp2_with fail
                go_roundw
                case rel => exact ⟨k + 1, by omega, by go_num, HK', HB6⟩
                case measure => simp [intOf]; omega
              · have hib := bne_of hi0
                rw [if_pos ⟨hk0, hi0⟩] at hy
                have hr := HR.out (by omega)
                rw [← hy] at hr
                subst hr
                clear HR hy
                go_wp2_with fail
                go_at_call 61
                refine (bounded_b lo hi true HBB4 _).mono ?_
                rintro e w7 ⟨rfl, rfl⟩
                go_wp2_with fail
                go_ret
                exact ⟨rfl, HB6.out⟩
    · obtain rfl : k = lv := by omega
      have hvb : vB vs := vars_B fun j hj => HK.out j (by have := HVL.out; omega)
      have HVB := Lib.hid hvb
      have HR : Hid (fstC 3 (fun i => spaceC vs (i + 1)) = r) := by
        show _ = _
        rw [← H.out]
        unfold varsC
        rw [fstC_none vs.length (varAt vs) fun j hj => HK.out j (by have := HVL.out; omega), if_neg (fun h => h rfl)]
      clear HK H hvb
      obtain ⟨w8, hw8⟩ : ∃ w8, w8 = wr := ⟨_, rfl⟩
      rw [← hw8] at HB ⊢
      clear hw8
      have HV8 := Lib.hid (HV.out.below HB.out)
      go_upto_region 17 with fail
      have HC0 := Lib.hid (Cs.new w8 #[.int .i64 1, .int .i64 2, .int .i64 3] 46)
      have hb0 := (Below.refl w8.heap.size w8).alloc (Nat.le_refl _) (.cells #[.int .i64 1, .int .i64 2, .int .i64 3] 46)
      obtain ⟨w9, hw9⟩ : ∃ w9, w8.alloc (.cells #[.int .i64 1, .int .i64 2, .int .i64 3] 46) = w9 := ⟨_, rfl⟩
      obtain ⟨b, hb⟩ : ∃ b, w8.heap.size = b := ⟨_, rfl⟩
      have HB9 := Lib.hid (HB.out.trans (hb0.mono HB.out.size))
      have HV9 := Lib.hid (HV8.out.below hb0)
      rw [hw9] at HC0 HB9 HV9
      rw [hb] at HC0
      rw [hw9, hb]
      clear hw9 hb hb0 HB HV8
      go_loopw [73] (fun v wr => ∃ k2 : Nat, k2 ≤ 3 ∧ v = .int .i64 k2 ∧ Hid (∀ j, j < k2 → spaceC vs ((j : Int) + 1) = 0) ∧ Hid (Below w9.heap.size w9 wr)) (fun v _ => 3 - (intOf v).toNat)
      case atStart => exact ⟨0, by omega, rfl, Lib.hid (fun j h => absurd h (by omega)), Lib.hid (Below.refl _ _)⟩
      case round =>
        obtain ⟨k2, hk2, rfl, HK, HBr⟩ := hrel
        have HCr := Lib.hid (HC0.out.next (HBr.out.mono (Nat.le_refl _)))
        have HVr := Lib.hid (HV9.out.below HBr.out)
        have HBt := Lib.hid (HB9.out.trans (HBr.out.mono HB9.out.size))
        have m0 := HCr.out.at 0 _ rfl
        have m1 := HCr.out.at 1 _ rfl
        have m2 := HCr.out.at 2 _ rfl
        obtain rfl | rfl | rfl | rfl : k2 = 0 ∨ k2 = 1 ∨ k2 = 2 ∨ k2 = 3 := by omega
        · obtain ⟨x, hx⟩ : ∃ x, spaceO vs 1 = x := ⟨_, rfl⟩
          have HX := Lib.hid hx
          clear hx
          go_wp2_with fail
          go_at_call 62
          refine (space_1 vs HVB.out Av _ cv _ HVr.out HL6.out x HX).mono ?_
          rintro e w3 ⟨rfl, hb3⟩
          have HB3 := Lib.hid (HBt.out.trans (hb3.mono HBt.out.size))
          have HBr3 := Lib.hid (HBr.out.trans (hb3.mono HBr.out.size))
          clear hb3
          cases x with
          | none =>
            have hs : spaceC vs ((0 : Nat) + 1 : Int) = 4 := by
              unfold spaceC
              rw [show ((0 : Nat) + 1 : Int) = 1 from rfl, HX.out]
            have hr : r = 4 := by
              rw [← HR.out, fstC_hit 3 0 (fun i => spaceC vs (i + 1)) (by omega) HK.out (by show spaceC vs ((0 : Nat) + 1 : Int) ≠ 0; rw [hs]; decide)]
              exact hs
            subst hr
            clear HR HK hs
            simp only [Option.getD_none, Option.isSome_none, Bool.false_eq_true, if_false]
            go_wp2_with fail
            go_ret
            exact ⟨rfl, HB3.out⟩
          | some n =>
            have hs : spaceC vs ((0 : Nat) + 1 : Int) = 0 := by
              unfold spaceC
              rw [show ((0 : Nat) + 1 : Int) = 1 from rfl, HX.out]
              exact if_neg (fun h => absurd h.1 (by decide))
            have HK' : Hid (∀ j : Nat, j < 1 → spaceC vs ((j : Int) + 1) = 0) := fun j hj => by
              by_cases hjk : j = 0
              · subst hjk; exact hs
              · exact HK.out j (by omega)
            clear HR HK hs
            simp only [Option.getD_some, Option.isSome_some, if_true]
            go_wp2_with fail
            go_roundw
            case rel => exact ⟨1, by omega, rfl, HK', HBr3⟩
            case measure => simp [intOf]
        · obtain ⟨x, hx⟩ : ∃ x, spaceO vs 2 = x := ⟨_, rfl⟩
          have HX := Lib.hid hx
          clear hx
          go_wp2_with fail
          go_at_call 62
          refine (space_2 vs HVB.out Av _ cv _ HVr.out HL6.out x HX).mono ?_
          rintro e w3 ⟨rfl, hb3⟩
          have HB3 := Lib.hid (HBt.out.trans (hb3.mono HBt.out.size))
          have HBr3 := Lib.hid (HBr.out.trans (hb3.mono HBr.out.size))
          clear hb3
          cases x with
          | none =>
            have hs : spaceC vs ((1 : Nat) + 1 : Int) = 4 := by
              unfold spaceC
              rw [show ((1 : Nat) + 1 : Int) = 2 from rfl, HX.out]
            have hr : r = 4 := by
              rw [← HR.out, fstC_hit 3 1 (fun i => spaceC vs (i + 1)) (by omega) HK.out (by show spaceC vs ((1 : Nat) + 1 : Int) ≠ 0; rw [hs]; decide)]
              exact hs
            subst hr
            clear HR HK hs
            simp only [Option.getD_none, Option.isSome_none, Bool.false_eq_true, if_false]
            go_wp2_with fail
            go_ret
            exact ⟨rfl, HB3.out⟩
          | some n =>
            have hs : spaceC vs ((1 : Nat) + 1 : Int) = 0 := by
              unfold spaceC
              rw [show ((1 : Nat) + 1 : Int) = 2 from rfl, HX.out]
              exact if_neg (fun h => absurd h.1 (by decide))
            have HK' : Hid (∀ j : Nat, j < 2 → spaceC vs ((j : Int) + 1) = 0) := fun j hj => by
              by_cases hjk : j = 1
              · subst hjk; exact hs
              · exact HK.out j (by omega)
            clear HR HK hs
            simp only [Option.getD_some, Option.isSome_some, if_true]
            go_wp2_with fail
            go_roundw
            case rel => exact ⟨2, by omega, rfl, HK', HBr3⟩
            case measure => simp [intOf]
        · obtain ⟨x, hx⟩ : ∃ x, spaceO vs 3 = x := ⟨_, rfl⟩
          have HX := Lib.hid hx
          clear hx
          go_wp2_with fail
          go_at_call 62
          refine (space_3 vs HVB.out Av _ cv _ HVr.out HL6.out x HX).mono ?_
          rintro e w3 ⟨rfl, hb3⟩
          have HB3 := Lib.hid (HBt.out.trans (hb3.mono HBt.out.size))
          have HBr3 := Lib.hid (HBr.out.trans (hb3.mono HBr.out.size))
          clear hb3
          cases x with
          | none =>
            have hs : spaceC vs ((2 : Nat) + 1 : Int) = 4 := by
              unfold spaceC
              rw [show ((2 : Nat) + 1 : Int) = 3 from rfl, HX.out]
            have hr : r = 4 := by
              rw [← HR.out, fstC_hit 3 2 (fun i => spaceC vs (i + 1)) (by omega) HK.out (by show spaceC vs ((2 : Nat) + 1 : Int) ≠ 0; rw [hs]; decide)]
              exact hs
            subst hr
            clear HR HK hs
            simp only [Option.getD_none, Option.isSome_none, Bool.false_eq_true, if_false]
            go_wp2_with fail
            go_ret
            exact ⟨rfl, HB3.out⟩
          | some n =>
            by_cases hn : 256 < n
            · have hs : spaceC vs ((2 : Nat) + 1 : Int) = 4 := by
                unfold spaceC
                rw [show ((2 : Nat) + 1 : Int) = 3 from rfl, HX.out]
                exact if_pos ⟨rfl, hn⟩
              have hr : r = 4 := by
                rw [← HR.out, fstC_hit 3 2 (fun i => spaceC vs (i + 1)) (by omega) HK.out (by show spaceC vs ((2 : Nat) + 1 : Int) ≠ 0; rw [hs]; decide)]
                exact hs
              subst hr
              have hd : decide (256 < n) = true := decide_eq_true hn
              clear HR HK hs
              simp only [Option.getD_some, Option.isSome_some, if_true]
              go_wp2_with fail
              go_ret
              exact ⟨rfl, HB3.out⟩
            have hs : spaceC vs ((2 : Nat) + 1 : Int) = 0 := by
              unfold spaceC
              rw [show ((2 : Nat) + 1 : Int) = 3 from rfl, HX.out]
              exact if_neg (fun h => hn h.2)
            have hd : decide (256 < n) = false := decide_eq_false hn
            have HK' : Hid (∀ j : Nat, j < 3 → spaceC vs ((j : Int) + 1) = 0) := fun j hj => by
              by_cases hjk : j = 2
              · subst hjk; exact hs
              · exact HK.out j (by omega)
            clear HR HK hs
            simp only [Option.getD_some, Option.isSome_some, if_true]
            go_wp2_with fail
            go_roundw
            case rel => exact ⟨3, by omega, rfl, HK', HBr3⟩
            case measure => simp [intOf]
        · have hr : r = 0 := by rw [← HR.out]; exact fstC_none 3 _ HK.out
          subst hr
          clear HR HK
          go_wp2_with fail
          go_ret
          exact ⟨rfl, HBt.out⟩
end Go.Proofs.YtjpjmoejdkmglaaGreat
