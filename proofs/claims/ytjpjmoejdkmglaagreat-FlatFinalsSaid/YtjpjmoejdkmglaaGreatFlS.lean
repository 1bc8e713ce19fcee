/-
  The walk over measure.steps.
-/
import Derived.Test.YtjpjmoejdkmglaaGreatFlR
namespace Go.Proofs.YtjpjmoejdkmglaaGreat
open Go.RowKit

set_option maxRecDepth 100000 in
set_option maxHeartbeats 4000000 in
theorem msteps_any (w0 : World) (p : Nat) (hp0 : w0.heap.size ≤ p) (m : Nat) : ∀ (ks : List Sp) (l : Nat) (A : Option Addr) (c : Nat) (w : World) (d : Int) (s : Int × Bool) (s' : Int × Bool), ks.length = l → Sp.cntL ks ≤ m → SOk w0 A c ks → Below w0.heap.size w0 w → Cs w p [.int .i64 s.1, .bool s.2] → 0 ≤ d → d ≤ 20 → 0 ≤ s.1 → s.1 + (Sp.cntL ks : Nat) ≤ 100000 → Hid (mS ks d s = s') →
    Calls Tryz.prog 26 #[.pointer (some ⟨p, 0, none⟩), .slice A l c, .int .i64 d] w fun e w' => e = .returned (.tuple #[]) ∧ Fr (· = p) w w' ∧ Cs w' p [.int .i64 s'.1, .bool s'.2] := by
  induction m with
  | zero =>
    intro ks l A c w d s s' hl hm ht hb hc hd0 hd1 hs0 hs1 H
    have hk : ks = [] := by
      cases ks with
      | nil => rfl
      | cons k ks => have := Sp.cnt_pos k; simp only [Sp.cntL] at hm; omega
    subst hk
    have hl0 : l = 0 := hl.symm
    subst hl0
    have hs : s' = s := by rw [← H.out, mS]
    subst hs
    have HC := Lib.hid hc
    clear ht hb hc H
    go_enter Tryz.func26, Tryz.ntmps26
    go_upto_region 1 with fail
    go_loopw [10] (fun v wr => v = .int .i64 0 ∧ wr = w) (fun _ _ => 0)
    case atStart => exact ⟨rfl, rfl⟩
    case round =>
      obtain ⟨rfl, rfl⟩ := hrel
      go_wp2_with fail
      go_returns
      exact ⟨rfl, Fr.refl _ _, HC.out⟩
  | succ m ih =>
    intro ks l A c w d s s' hl hm ht hb hc hd0 hd1 hs0 hs1 H
    have IH := Lib.hid ih
    have HM := Lib.hid hm
    have HL := Lib.hid hl
    have HT := Lib.hid ht
    have HS0 : Hid (0 ≤ s.1) := hs0
    have HS1 : Hid (s.1 + (Sp.cntL (ks.drop 0) : Nat) ≤ 100000) := by show _ ≤ _; rw [List.drop_zero]; exact hs1
    have HH : Hid (mS (ks.drop 0) d s = s') := H
    have hlm : l ≤ 9223372036854775807 := by have h1 := ht.1; have h2 := ht.2.1; unfold maxLen at h2; omega
    have HB := Lib.hid hb
    have HC := Lib.hid hc
    clear ih hm hl ht hb hc H hs1 hs0
    go_enter Tryz.func26, Tryz.ntmps26
    go_upto_region 1 with fail
    go_loopw [10] (fun v wr => ∃ (k : Nat) (s : Int × Bool), k ≤ l ∧ v = .int .i64 k ∧ Hid (mS (ks.drop k) d s = s') ∧ Hid (0 ≤ s.1) ∧ Hid (s.1 + (Sp.cntL (ks.drop k) : Nat) ≤ 100000) ∧ Hid (Below w0.heap.size w0 wr) ∧ Hid (Fr (· = p) w wr) ∧ Hid (Cs wr p [.int .i64 s.1, .bool s.2])) (fun v _ => l - (intOf v).toNat)
    case atStart => exact ⟨0, s, by omega, rfl, HH, HS0, HS1, HB, Lib.hid (Fr.refl _ _), HC⟩
    case round =>
      clear HB HC HH HS0 HS1
      obtain ⟨k, ⟨sn, sd⟩, hk, rfl, HS, HS0, HS1, HB, HF, HC⟩ := hrel
      by_cases hlt : k < l
      · have hkl : k < ks.length := by rw [HL.out]; exact hlt
        obtain ⟨x0, x1, x2, x3, o, tn, tk, th, el, bs, g, f, At, ct, Ah, ch, Ae, ce, Ab, cb, hkid, hA, hg, hsc, htok, hth, hel, hbs⟩ := HT.out.step k hkl
        subst hA
        obtain ⟨lt, hlt1⟩ : ∃ l, tk.length = l := ⟨_, rfl⟩
        obtain ⟨lh, hlh⟩ : ∃ l, th.length = l := ⟨_, rfl⟩
        obtain ⟨le, hle⟩ : ∃ l, el.length = l := ⟨_, rfl⟩
        obtain ⟨lb, hlb⟩ : ∃ l, bs.length = l := ⟨_, rfl⟩
        rw [hlt1, hlh, hle, hlb] at hsc
        have hdr : ks.drop k = .mk x0 x1 x2 x3 (.mk o tn tk) th el bs :: ks.drop (k + 1) := by rw [List.drop_eq_getElem_cons hkl, hkid]
        have hsc' := hsc.below hg HB.out
        have hcnt := HS1.out
        rw [hdr] at hcnt
        simp only [Sp.cntL, Sp.cnt] at hcnt
        have hcm : Sp.cntL th ≤ m ∧ Sp.cntL el ≤ m := by
          have := Sp.cntL_get ks k hkl
          rw [hkid] at this
          simp only [Sp.cnt] at this
          have := HM.out
          omega
        have HCM := Lib.hid hcm
        have hs0 : 0 ≤ sn := HS0.out
        have hsn : sn ≤ 100000 := by omega
        have hgw : g < wr.heap.size := Nat.lt_of_lt_of_le hg HB.out.size
        have HHT := Lib.hid htok
        have HHH := Lib.hid hth
        have HHE := Lib.hid hel
        have HLT := Lib.hid hlt1
        have HLH := Lib.hid hlh
        have HLE := Lib.hid hle
        have hlt' : (k : Int) < (l : Int) := by omega
        have hba := (Below.refl wr.heap.size wr).alloc (Nat.le_refl _) (.cells #[.int .i64 x0, .int .i64 x1, .int .i64 x2, .int .i64 x3, .int .i64 o, .int .i64 tn, .slice At lt ct, .slice Ah lh ch, .slice Ae le ce, .slice Ab lb cb] 56)
        have HB4 := Lib.hid (HB.out.trans (hba.mono HB.out.size))
        have HC4 := Lib.hid (HC.out.next hba)
        have HF4 := Lib.hid (HF.out.alloc (.cells #[.int .i64 x0, .int .i64 x1, .int .i64 x2, .int .i64 x3, .int .i64 o, .int .i64 tn, .slice At lt ct, .slice Ah lh ch, .slice Ae le ce, .slice Ab lb cb] 56))
        have HN4 := Lib.hid (Cs.new wr #[.int .i64 x0, .int .i64 x1, .int .i64 x2, .int .i64 x3, .int .i64 o, .int .i64 tn, .slice At lt ct, .slice Ah lh ch, .slice Ae le ce, .slice Ab lb cb] 56)
        have HPN : Hid (wr.heap.size ≠ p) := Lib.hid (by have := HC.out.lt; omega)
        obtain ⟨c0, c1, c2, c3, c4, c5, c6, c7, c8, c9⟩ := hsc'
        have hw1 : IntKind.i64.wrap (sn + 1) = sn + 1 := IntWalk.i64_in _ (by omega)
        obtain ⟨b1, hb1⟩ : ∃ b1, overP (stepM d (sn, sd)) = b1 := ⟨_, rfl⟩
        have HB1 := Lib.hid hb1
        have hmt : (if b1 = true then stepM d (sn, sd) else mS (ks.drop (k + 1)) d (mS el (d + 1) (mS th (d + 1) (mT (.mk o tn tk) 1 (stepM d (sn, sd)))))) = s' := by
          have := HS.out
          rw [hdr, mS, hb1] at this
          exact this
        have HMT := Lib.hid hmt
        have hcntH : sn + 1 + (Tm.cnt (.mk o tn tk) : Nat) + (Sp.cntL th : Nat) + (Sp.cntL el : Nat) + (Sp.cntL (ks.drop (k + 1)) : Nat) ≤ 100000 := by omega
        have HCNT := Lib.hid hcntH
        clear hba hkid hdr hsc hcnt hcm htok hth hel hbs hlt1 hlh hle hlb hb1 hmt hcntH HS HS0 HS1 HB HF HC
        go_upto_region 3 with fail
        obtain ⟨w1, hw1'⟩ : ∃ w1, wr.alloc (.cells #[.int .i64 x0, .int .i64 x1, .int .i64 x2, .int .i64 x3, .int .i64 o, .int .i64 tn, .slice At lt ct, .slice Ah lh ch, .slice Ae le ce, .slice Ab lb cb] 56) = w1 := ⟨_, rfl⟩
        obtain ⟨q, hq⟩ : ∃ q, wr.heap.size = q := ⟨_, rfl⟩
        rw [hw1'] at HC4 HN4 HF4 HB4
        rw [hq] at HN4 HPN
        rw [hw1', hq]
        have hpl := HC4.out.lt
        clear hw1' hq c0 c1 c2 c3 c4 c5 c6 c7 c8 c9
        have f0 := HC4.out.free 0
        have f1 := HC4.out.free 1
        have r0 := HC4.out.at 0 _ rfl
        have r1 := HC4.out.at 1 _ rfl
        cases sd with
        | true =>
          have HDD : Hid ((true || decide (12 < d)) = true) := rfl
          go_upto_region 5 with fail
          have HC2 := Lib.hid ((HC4.out.set 0 (.int .i64 (sn + 1)) (by simp)).set 1 (.bool true) (by simp))
          have HN2 := Lib.hid ((HN4.out.other (p := ⟨p, 0, none⟩) (Ne.symm HPN.out) (.int .i64 (sn + 1))).other (p := ⟨p, 1, none⟩) (Ne.symm HPN.out) (.bool true))
          have HF2 := Lib.hid ((HF4.out.setCell (p := ⟨p, 0, none⟩) rfl (.int .i64 (sn + 1))).setCell (p := ⟨p, 1, none⟩) rfl (.bool true))
          have HB2 := Lib.hid ((HB4.out.setCell (p := ⟨p, 0, none⟩) hp0 (.int .i64 (sn + 1))).setCell (p := ⟨p, 1, none⟩) hp0 (.bool true))
          obtain ⟨w2, hw2⟩ : ∃ w2, (w1.setCell ⟨p, 0, none⟩ (.int .i64 (sn + 1))).setCell ⟨p, 1, none⟩ (.bool true) = w2 := ⟨_, rfl⟩
          rw [hw2] at HC2 HN2 HF2 HB2
          simp only [List.set] at HC2
          rw [hw2]
          clear hw2 HC4 HN4 HF4 HB4 r0 r1 f0 f1
          go_wp2_with fail
          go_at_call 27
          refine (over_b (sn + 1) true b1 p (by show _ = _; rw [← HB1.out]; exact congrArg overP (show ((sn + 1, true) : Int × Bool) = (sn + 1, _) from by rw [HDD.out])) _ HC2.out).mono ?_
          rintro e w3 ⟨rfl, rfl⟩
          cases b1 with
          | true =>
            have hs : s' = (sn + 1, true) := by rw [← HMT.out, if_pos rfl, stepM, HDD.out]
            subst hs
            clear HMT
            go_wp2_with fail
            go_returns
            exact ⟨rfl, HF2.out, HC2.out⟩
          | false =>
            have := HB1.out
            unfold overP stepM at this
            rw [HDD.out] at this
            simp at this
        | false =>
          by_cases hdp : 12 < d
          · have hdd : decide (12 < d) = true := decide_eq_true hdp
            have HDD : Hid ((false || decide (12 < d)) = true) := by show _ = _; rw [hdd]; rfl
            go_upto_region 5 with fail
            have HC2 := Lib.hid ((HC4.out.set 0 (.int .i64 (sn + 1)) (by simp)).set 1 (.bool true) (by simp))
            have HN2 := Lib.hid ((HN4.out.other (p := ⟨p, 0, none⟩) (Ne.symm HPN.out) (.int .i64 (sn + 1))).other (p := ⟨p, 1, none⟩) (Ne.symm HPN.out) (.bool true))
            have HF2 := Lib.hid ((HF4.out.setCell (p := ⟨p, 0, none⟩) rfl (.int .i64 (sn + 1))).setCell (p := ⟨p, 1, none⟩) rfl (.bool true))
            have HB2 := Lib.hid ((HB4.out.setCell (p := ⟨p, 0, none⟩) hp0 (.int .i64 (sn + 1))).setCell (p := ⟨p, 1, none⟩) hp0 (.bool true))
            obtain ⟨w2, hw2⟩ : ∃ w2, (w1.setCell ⟨p, 0, none⟩ (.int .i64 (sn + 1))).setCell ⟨p, 1, none⟩ (.bool true) = w2 := ⟨_, rfl⟩
            rw [hw2] at HC2 HN2 HF2 HB2
            simp only [List.set] at HC2
            rw [hw2]
            clear hw2 HC4 HN4 HF4 HB4 r0 r1 f0 f1
            go_wp2_with fail
            go_at_call 27
            refine (over_b (sn + 1) true b1 p (by show _ = _; rw [← HB1.out]; exact congrArg overP (show ((sn + 1, true) : Int × Bool) = (sn + 1, _) from by rw [HDD.out])) _ HC2.out).mono ?_
            rintro e w3 ⟨rfl, rfl⟩
            cases b1 with
            | true =>
              have hs : s' = (sn + 1, true) := by rw [← HMT.out, if_pos rfl, stepM, HDD.out]
              subst hs
              clear HMT
              go_wp2_with fail
              go_returns
              exact ⟨rfl, HF2.out, HC2.out⟩
            | false =>
              have := HB1.out
              unfold overP stepM at this
              rw [HDD.out] at this
              simp at this
          · have hdd : decide (12 < d) = false := decide_eq_false hdp
            have HDD : Hid ((false || decide (12 < d)) = false) := by show _ = _; rw [hdd]; rfl
            go_upto_region 5 with fail
            have HC2 := Lib.hid ((HC4.out.set 0 (.int .i64 (sn + 1)) (by simp)).set 1 (.bool false) (by simp))
            have HN2 := Lib.hid ((HN4.out.other (p := ⟨p, 0, none⟩) (Ne.symm HPN.out) (.int .i64 (sn + 1))).other (p := ⟨p, 1, none⟩) (Ne.symm HPN.out) (.bool false))
            have HF2 := Lib.hid ((HF4.out.setCell (p := ⟨p, 0, none⟩) rfl (.int .i64 (sn + 1))).setCell (p := ⟨p, 1, none⟩) rfl (.bool false))
            have HB2 := Lib.hid ((HB4.out.setCell (p := ⟨p, 0, none⟩) hp0 (.int .i64 (sn + 1))).setCell (p := ⟨p, 1, none⟩) hp0 (.bool false))
            obtain ⟨w2, hw2⟩ : ∃ w2, (w1.setCell ⟨p, 0, none⟩ (.int .i64 (sn + 1))).setCell ⟨p, 1, none⟩ (.bool false) = w2 := ⟨_, rfl⟩
            rw [hw2] at HC2 HN2 HF2 HB2
            simp only [List.set] at HC2
            rw [hw2]
            clear hw2 HC4 HN4 HF4 HB4 r0 r1 f0 f1
            go_wp2_with fail
            go_at_call 27
            refine (over_b (sn + 1) false b1 p (by show _ = _; rw [← HB1.out]; exact congrArg overP (show ((sn + 1, false) : Int × Bool) = (sn + 1, _) from by rw [HDD.out])) _ HC2.out).mono ?_
            rintro e w3 ⟨rfl, rfl⟩
            cases b1 with
            | true =>
              have hs : s' = (sn + 1, false) := by rw [← HMT.out, if_pos rfl, stepM, HDD.out]
              subst hs
              clear HMT
              go_wp2_with fail
              go_returns
              exact ⟨rfl, HF2.out, HC2.out⟩
            | false =>
              have hds : d ≤ 12 := by
                have := HB1.out
                unfold overP stepM at this
                simp only [Bool.or_eq_false_iff, decide_eq_false_iff_not] at this
                omega
              have hwd : IntKind.i64.wrap (d + 1) = d + 1 := IntWalk.i64_in _ (by omega)
              obtain ⟨s1, hs1⟩ : ∃ s1, mT (.mk o tn tk) 1 (sn + 1, false) = s1 := ⟨_, rfl⟩
              obtain ⟨s2, hs2⟩ : ∃ s2, mS th (d + 1) s1 = s2 := ⟨_, rfl⟩
              obtain ⟨s3, hs3⟩ : ∃ s3, mS el (d + 1) s2 = s3 := ⟨_, rfl⟩
              have i1 := mT_cnt (.mk o tn tk) 1 (sn + 1, false)
              have i2 := mS_cnt th (d + 1) s1
              have i3 := mS_cnt el (d + 1) s2
              rw [hs1] at i1
              rw [hs2] at i2
              rw [hs3] at i3
              simp only at i1
              have hcn := HCNT.out
              have g0 : 0 ≤ sn + 1 ∧ sn + 1 + (Tm.cnt (.mk o tn tk) : Nat) ≤ 100000 := by omega
              have g1 : 0 ≤ s1.1 ∧ s1.1 + (Sp.cntL th : Nat) ≤ 100000 := by omega
              have g2 : 0 ≤ s2.1 ∧ s2.1 + (Sp.cntL el : Nat) ≤ 100000 := by omega
              have g3 : 0 ≤ s3.1 ∧ s3.1 + (Sp.cntL (ks.drop (k + 1)) : Nat) ≤ 100000 := by omega
              have G0 := Lib.hid g0
              have G1 := Lib.hid g1
              have G2 := Lib.hid g2
              have G3 := Lib.hid g3
              have HMT' : Hid (mS (ks.drop (k + 1)) d s3 = s') := by
                show _ = _
                have := HMT.out
                rw [if_neg (by decide), stepM, HDD.out, hs1, hs2, hs3] at this
                exact this
              have HS1 := Lib.hid hs1
              have HS2 := Lib.hid hs2
              have HS3 := Lib.hid hs3
              clear HMT hs1 hs2 hs3 i1 i2 i3 hcn g0 g1 g2 g3
              have q4 := HN2.out.at 4 _ rfl
              have q5 := HN2.out.at 5 _ rfl
              have q6 := HN2.out.at 6 _ rfl
              have q7 := HN2.out.at 7 _ rfl
              have q8 := HN2.out.at 8 _ rfl
              go_wp2_with fail
              go_at_call 28
              refine (mterm_any w0 p hp0 _ o tn tk lt At ct _ 1 (sn + 1, false) s1 HLT.out (Nat.le_refl _) HHT.out HB2.out HC2.out (by omega) (by omega) G0.out.1 G0.out.2 HS1).mono ?_
              rintro e w5 ⟨rfl, hf5, hc5⟩
              have HF5 := Lib.hid (HF2.out.trans hf5)
              have HB5 := Lib.hid (hf5.below HB2.out (fun k e => by rw [e]; exact hp0) HB2.out.size)
              have HC5 := Lib.hid hc5
              have HN5 := Lib.hid (HN2.out.fr hf5 HPN.out)
              clear hf5 hc5 HN2 HF2 HB2 HC2
              clear q4 q5 q6 q7 q8
              have q4 := HN5.out.at 4 _ rfl
              have q5 := HN5.out.at 5 _ rfl
              have q6 := HN5.out.at 6 _ rfl
              have q7 := HN5.out.at 7 _ rfl
              have q8 := HN5.out.at 8 _ rfl
              go_wp2_with fail
              go_at_call 26
              refine (IH.out th lh Ah ch _ (d + 1) s1 s2 HLH.out HCM.out.1 HHH.out HB5.out HC5.out (by omega) (by omega) G1.out.1 G1.out.2 HS2).mono ?_
              rintro e w6 ⟨rfl, hf6, hc6⟩
              have HF6 := Lib.hid (HF5.out.trans hf6)
              have HB6 := Lib.hid (hf6.below HB5.out (fun k e => by rw [e]; exact hp0) HB5.out.size)
              have HC6 := Lib.hid hc6
              have HN6 := Lib.hid (HN5.out.fr hf6 HPN.out)
              clear hf6 hc6 HN5 HF5 HB5 HC5
              clear q4 q5 q6 q7 q8
              have q4 := HN6.out.at 4 _ rfl
              have q5 := HN6.out.at 5 _ rfl
              have q6 := HN6.out.at 6 _ rfl
              have q7 := HN6.out.at 7 _ rfl
              have q8 := HN6.out.at 8 _ rfl
              go_wp2_with fail
              go_at_call 26
              refine (IH.out el le Ae ce _ (d + 1) s2 s3 HLE.out HCM.out.2 HHE.out HB6.out HC6.out (by omega) (by omega) G2.out.1 G2.out.2 HS3).mono ?_
              rintro e w7 ⟨rfl, hf7, hc7⟩
              have HF7 := Lib.hid (HF6.out.trans hf7)
              have HB7 := Lib.hid (hf7.below HB6.out (fun k e => by rw [e]; exact hp0) HB6.out.size)
              have HC7 := Lib.hid hc7
              clear hf7 hc7 HN6 HF6 HB6 HC6
              go_wp2_with fail
              go_roundw
              case rel => exact ⟨k + 1, s3, by omega, by go_num, HMT', Lib.hid G3.out.1, Lib.hid G3.out.2, HB7, HF7, HC7⟩
              case measure => simp [intOf]; omega
      · obtain rfl : k = l := by omega
        have hs : s' = (sn, sd) := by rw [← HS.out, List.drop_of_length_le (by rw [HL.out]; exact Nat.le_refl _), mS]
        subst hs
        clear HS
        go_wp2_with fail
        go_returns
        exact ⟨rfl, HF.out, HC.out⟩
end Go.Proofs.YtjpjmoejdkmglaaGreat
