/-
  The walk over the law FlatBounds.
-/
import Derived.Test.YtjpjmoejdkmglaaFlBp
import Derived.Test.YtjpjmoejdkmglaaJD
import Derived.Test.YtjpjmoejdkmglaaJE
namespace Go.Proofs.Ytjpjmoejdkmglaa
open Go.RowKit

theorem Sd.take {w : World} {A : Option Addr} : ∀ (ks : List Sp) (i j : Nat), Sd w A i ks → Sd w A i (ks.take j)
  | [], _, _, _ => by simp [Sd]
  | k :: ks, i, 0, _ => by simp [Sd]
  | k :: ks, i, j + 1, h => by
    simp only [Sd] at h
    rw [List.take_succ_cons]
    simp only [Sd]
    exact ⟨h.1, Sd.take ks (i + 1) j h.2⟩
theorem SOk.cut {w : World} {A : Option Addr} {c : Nat} {ks : List Sp} (h : SOk w A c ks) : SOk w A c ks.dropLast := by
  rw [List.dropLast_eq_take]
  exact ⟨by rw [List.length_take]; exact Nat.le_trans (Nat.min_le_right _ _) h.1, h.2.1, Sd.take ks 0 _ h.2.2⟩
theorem cnt_cut : ∀ (ks : List Sp), Sp.cntL ks.dropLast ≤ Sp.cntL ks
  | [] => by simp
  | [k] => by show Sp.cntL [] ≤ _; simp [Sp.cntL]
  | k :: a :: ks => by
    rw [List.dropLast_cons_cons]
    have := cnt_cut (a :: ks)
    simp only [Sp.cntL] at this ⊢
    omega

set_option maxRecDepth 100000 in
set_option maxHeartbeats 16000000 in
theorem bounds_walk (vs : List Vr) (hs : List Ht) (ks : List Sp) (Av : Option Addr) (lv cv : Nat) (Ag : Option Addr) (lg cg : Nat) (Ay : Option Addr) (ly cy : Nat) (S P R : List Int) (As : Option Addr) (ls cs : Nat) (Ap : Option Addr) (lp cp : Nat) (Ar : Option Addr) (lr cr : Nat) (w : World) (hv : VOk w Av lv cv vs) (hh : HOk w Ag lg cg hs) (hl : ks.length = ly) (hk : SOk w Ay cy ks) (hzs : Zs w As ls cs S) (hzp : Zs w Ap lp cp P) (hzr : Zs w Ar lr cr R) :
    Calls Try.prog 6 #[.agg #[.slice Av lv cv, .slice Ag lg cg, .slice Ay ly cy], .agg #[.slice As ls cs, .slice Ap lp cp, .slice Ar lr cr]] w fun e w' => e = .returned (.bool true) ∧ Below w.heap.size w w' := by
  have hb1 := (Below.refl w.heap.size w).alloc (Nat.le_refl _) (.cells #[.slice Av lv cv, .slice Ag lg cg, .slice Ay ly cy] 26)
  have hb2 := hb1.alloc hb1.size (.cells #[.slice As ls cs, .slice Ap lp cp, .slice Ar lr cr] 34)
  have HB1 := Lib.hid hb2
  have HF1 := Lib.hid ((Cs.new w #[.slice Av lv cv, .slice Ag lg cg, .slice Ay ly cy] 26).alloc (.cells #[.slice As ls cs, .slice Ap lp cp, .slice Ar lr cr] 34))
  have HI1 := Lib.hid (Cs.new1 w (.cells #[.slice Av lv cv, .slice Ag lg cg, .slice Ay ly cy] 26) #[.slice As ls cs, .slice Ap lp cp, .slice Ar lr cr] 34)
  have HV := Lib.hid hv
  have HHS := Lib.hid hh
  have HK := Lib.hid hk
  have HZS := Lib.hid hzs
  have HZP := Lib.hid hzp
  have HZR := Lib.hid hzr
  have HL := Lib.hid hl
  have HVL := Lib.hid hv.len
  have hly : ly ≤ 9223372036854775807 := by have h1 := hk.1; have h2 := hk.2.1; unfold maxLen at h2; omega
  have hlyc : ly ≤ cy := by have := hk.1; omega
  have hcym : cy ≤ 9223372036854775807 := by have h2 := hk.2.1; unfold maxLen at h2; omega
  obtain ⟨b, hbf⟩ : ∃ z, fewB vs hs ks 20 300 = z := ⟨_, rfl⟩
  obtain ⟨r, hr0⟩ : ∃ z, checkP vs hs ks = z := ⟨_, rfl⟩
  have HFW := Lib.hid hbf
  have HR := Lib.hid hr0
  clear hb1 hb2 hv hh hk hl hzs hzp hzr hbf hr0
  go_enter Try.func6, Try.ntmps6
  go_upto_region 1 with fail
  obtain ⟨w1, hw1⟩ : ∃ w1, (w.alloc (.cells #[.slice Av lv cv, .slice Ag lg cg, .slice Ay ly cy] 26)).alloc (.cells #[.slice As ls cs, .slice Ap lp cp, .slice Ar lr cr] 34) = w1 := ⟨_, rfl⟩
  obtain ⟨p, hp⟩ : ∃ p, w.heap.size = p := ⟨_, rfl⟩
  obtain ⟨pi, hpi⟩ : ∃ q, p + 1 = q := ⟨_, rfl⟩
  rw [hw1] at HB1 HF1 HI1
  rw [hp] at HF1 HI1
  rw [hpi] at HI1
  have HP := Lib.hid hp
  have HPI := Lib.hid hpi
  rw [hw1, hp, hpi]
  clear hw1 hp hpi
  have f0 := HF1.out.at 0 _ rfl
  have f1 := HF1.out.at 1 _ rfl
  have f2 := HF1.out.at 2 _ rfl
  have i0 := HI1.out.at 0 _ rfl
  have i1 := HI1.out.at 1 _ rfl
  have i2 := HI1.out.at 2 _ rfl
  go_wp2_with fail
  go_at_call 10
  refine (known_b _).mono ?_
  rintro e w2 ⟨rfl, hb⟩
  have HB2 := Lib.hid (HB1.out.trans (hb.mono HB1.out.size))
  have HF2 := Lib.hid (HF1.out.next hb)
  have HI2 := Lib.hid (HI1.out.next hb)
  clear hb HB1 HF1 HI1  f0 f1 f2 i0 i1 i2
  have f0 := HF2.out.at 0 _ rfl
  have f1 := HF2.out.at 1 _ rfl
  have f2 := HF2.out.at 2 _ rfl
  have i0 := HI2.out.at 0 _ rfl
  have i1 := HI2.out.at 1 _ rfl
  have i2 := HI2.out.at 2 _ rfl
  go_wp2_with fail
  go_at_call 11
  refine (Few_b vs hs ks 20 300 Av lv cv Ag lg cg Ay ly cy _ HVL.out (HHS.out.below HB2.out) HL.out (HK.out.below HB2.out) (by omega) (by omega) (by omega) b HFW).mono ?_
  rintro e w3 ⟨rfl, hb⟩
  have HB3 := Lib.hid (HB2.out.trans (hb.mono HB2.out.size))
  have HF3 := Lib.hid (HF2.out.next hb)
  have HI3 := Lib.hid (HI2.out.next hb)
  clear hb HB2 HF2 HI2  f0 f1 f2 i0 i1 i2
  have f0 := HF3.out.at 0 _ rfl
  have f1 := HF3.out.at 1 _ rfl
  have f2 := HF3.out.at 2 _ rfl
  have i0 := HI3.out.at 0 _ rfl
  have i1 := HI3.out.at 1 _ rfl
  have i2 := HI3.out.at 2 _ rfl
  cases b with
  | false =>
    go_wp2_with fail
    go_ret
    exact ⟨rfl, HB3.out⟩
  | true =>
  obtain ⟨hm1, hm2, hm3⟩ := few_small HFW.out
  have hlv : lv ≤ 20 := by have := HVL.out; omega
  have hcn : hcnt hs + Sp.cntL ks ≤ 300 := by omega
  have HCN := Lib.hid hcn
  clear hm1 hm2 hm3 hcn
  go_wp2_with fail
  go_at_call 13
  refine (rcheck_b vs hs ks Av lv cv Ag lg cg Ay ly cy _ (HV.out.below HB3.out) (HHS.out.below HB3.out) HL.out (HK.out.below HB3.out) (by omega) (by have := HCN.out; omega) r HR).mono ?_
  rintro e w4 ⟨rfl, hb⟩
  have HB4 := Lib.hid (HB3.out.trans (hb.mono HB3.out.size))
  have HF4 := Lib.hid (HF3.out.next hb)
  have HI4 := Lib.hid (HI3.out.next hb)
  clear hb HB3 HF3 HI3  f0 f1 f2 i0 i1 i2
  have f0 := HF4.out.at 0 _ rfl
  have f1 := HF4.out.at 1 _ rfl
  have f2 := HF4.out.at 2 _ rfl
  have i0 := HI4.out.at 0 _ rfl
  have i1 := HI4.out.at 1 _ rfl
  have i2 := HI4.out.at 2 _ rfl
  by_cases z : r = 0
  case neg =>
    have hbn := bne_of z
    go_wp2_with fail
    go_ret
    exact ⟨rfl, HB4.out⟩
  have hbn : (r != 0) = false := by rw [z]; rfl
  obtain ⟨_, _, _, _, hst, _⟩ := checkP_zero (HR.out.trans z)
  have HST := Lib.hid hst
  clear z hst
  by_cases hy0 : ly = 0
  · have q0 : decide ((0 : Int) < (ly : Int)) = false := decide_eq_false (by omega)
    have q0n : decide (0 < ly) = false := decide_eq_false (by omega)
    have hkn : ks = [] := List.length_eq_zero_iff.1 (by rw [HL.out]; exact hy0)
    have HNS : Hid (noSL ks) := Lib.hid (top_noS ks vs hs.length HST.out (by rw [hkn]; intro x hx; cases hx))
    have HLX := HL
    have HKX := HK
    have HBK : Hid (hcnt hs + Sp.cntL ks ≤ 300) := HCN
    clear hy0 hkn
    obtain ⟨⟨r2, vals⟩, hrv⟩ : ∃ z, startC vs hs (ks) ⟨S, P, R⟩ = z := ⟨_, rfl⟩
    obtain ⟨s, hs0⟩ : ∃ z, endM vs hs (ks) vals = z := ⟨_, rfl⟩
    obtain ⟨⟨u1, u2, u3, u4⟩, hbn⟩ : ∃ z, bndP vs hs (ks) = z := ⟨_, rfl⟩
    obtain ⟨⟨t1, t2⟩, hsp⟩ : ∃ z, spL (ks) (0, 0) = z := ⟨_, rfl⟩
    have HRV := Lib.hid hrv
    have HS := Lib.hid hs0
    have HBN := Lib.hid hbn
    have HSP := Lib.hid hsp
    clear hrv hs0 hbn hsp
    go_wp2_with fail
    go_at_call 14
    refine (Run_b vs hs (ks) Av lv cv Ag lg cg Ay ly cy S P R As ls cs Ap lp cp Ar lr cr _ (HV.out.below HB4.out) (HHS.out.below HB4.out) HLX.out (HKX.out.below HB4.out) (by omega) (by have := HBK.out; omega) (HZS.out.below HB4.out) (HZP.out.below HB4.out) (HZR.out.below HB4.out) r2 s vals HRV HS).mono ?_
    rintro e w7 ⟨hb, hcase⟩
    have HB7 := Lib.hid (HB4.out.trans (hb.mono HB4.out.size))
    have HF7 := Lib.hid (HF4.out.next hb)
    have HI7 := Lib.hid (HI4.out.next hb)
    clear hb HB4 HF4 HI4  f0 f1 f2 i0 i1 i2
    have f0 := HF7.out.at 0 _ rfl
    have f1 := HF7.out.at 1 _ rfl
    have f2 := HF7.out.at 2 _ rfl
    have i0 := HI7.out.at 0 _ rfl
    have i1 := HI7.out.at 1 _ rfl
    have i2 := HI7.out.at 2 _ rfl
    rcases hcase with ⟨hr, rfl⟩ | ⟨rfl, Ao, co, rfl, hzw⟩
    · have hrn : (r2 != 0) = true := by simpa using hr
      clear HRV HS HBN HSP
      go_wp2_with fail
      go_ret
      exact ⟨rfl, HB7.out.alloc HB7.out.size _⟩
    obtain ⟨hc0, hst0⟩ := startC_zero HRV.out
    obtain ⟨_, _, hvc0, _, _, _⟩ := checkP_zero hc0
    obtain ⟨k1, k2, k3, k4, k5⟩ := bounds_law hc0 HNS.out (startP_ok hvc0 hst0)
    have he : (u1, u2, u3, u4) = ((upL (ks) (0, 0, 0)).1, (upL (ks) (0, 0, 0)).2.1, (upL (ks) (0, 0, 0)).2.2, 0) := by rw [← HBN.out, bndP, hc0]; rfl
    obtain ⟨e1, he1⟩ := Prod.mk.inj he
    obtain ⟨e2, he2⟩ := Prod.mk.inj he1
    obtain ⟨e3, e4⟩ := Prod.mk.inj he2
    rw [← e1] at k1
    rw [← e2, HS.out] at k2
    rw [HS.out, HSP.out] at k3 k4
    rw [← e3, HSP.out] at k5
    simp only at k3 k4 k5
    subst e4
    clear e1 e2 e3 he he1 he2 hc0 hst0 hvc0
    have d1 : decide (u1 ≤ 4096) = true := decide_eq_true k1
    have d2 : decide ((s.o.length : Int) ≤ u2) = true := decide_eq_true k2
    have d3 : decide (t1 ≤ s.t) = true := decide_eq_true k3
    have d4 : decide (s.t ≤ t2) = true := decide_eq_true k4
    have d5 : decide (t2 ≤ u3) = true := decide_eq_true k5
    have hb := (Below.refl w7.heap.size w7).alloc (Nat.le_refl _) (.cells #[.slice Ao s.o.length co, .int .i64 s.t] 36)
    have HO8 := Lib.hid (Cs.new w7 #[.slice Ao s.o.length co, .int .i64 s.t] 36)
    have HB8 := Lib.hid (HB7.out.trans (hb.mono HB7.out.size))
    have HF8 := Lib.hid (HF7.out.next hb)
    have HI8 := Lib.hid (HI7.out.next hb)
    clear hb HB7 HF7 HI7  f0 f1 f2 i0 i1 i2
    have f0 := HF8.out.at 0 _ rfl
    have f1 := HF8.out.at 1 _ rfl
    have f2 := HF8.out.at 2 _ rfl
    have i0 := HI8.out.at 0 _ rfl
    have i1 := HI8.out.at 1 _ rfl
    have i2 := HI8.out.at 2 _ rfl
    clear k1 k2 k3 k4 k5
    have D2 := Lib.hid d2
    have D3 := Lib.hid d3
    have D4 := Lib.hid d4
    clear d2 d3 d4
    go_upto_region 11 with fail
    obtain ⟨ol, hol⟩ : ∃ z, s.o.length = z := ⟨_, rfl⟩
    obtain ⟨ot, hot⟩ : ∃ z, s.t = z := ⟨_, rfl⟩
    have d2 := D2.out
    have d3 := D3.out
    have d4 := D4.out
    rw [hol] at d2
    rw [hot] at d3 d4
    clear D2 D3 D4
    obtain ⟨w8, hw8⟩ : ∃ w8, w7.alloc (.cells #[.slice Ao s.o.length co, .int .i64 s.t] 36) = w8 := ⟨_, rfl⟩
    obtain ⟨po, hpo⟩ : ∃ p, w7.heap.size = p := ⟨_, rfl⟩
    rw [hw8] at HB8 HF8 HI8 HO8 f0 f1 f2 i0 i1 i2
    rw [hpo, hol, hot] at HO8
    rw [hw8, hpo, hol, hot]
    clear hw8 hpo hol hot hzw
    go_wp2_with fail
    go_at_call 19
    refine (Bounds_b vs hs (ks) Av lv cv Ag lg cg Ay ly cy _ (HV.out.below HB8.out) (HHS.out.below HB8.out) HLX.out (HKX.out.below HB8.out) (by omega) (by have := HBK.out; omega) (u1, u2, u3, 0) HBN).mono ?_
    rintro e w9 ⟨rfl, hb⟩
    have HB9 := Lib.hid (HB8.out.trans (hb.mono HB8.out.size))
    have HF9 := Lib.hid (HF8.out.next hb)
    have HI9 := Lib.hid (HI8.out.next hb)
    have HO9 := Lib.hid (HO8.out.next hb)
    clear hb HB8 HF8 HI8 HO8 f0 f1 f2 i0 i1 i2
    have f0 := HF9.out.at 0 _ rfl
    have f1 := HF9.out.at 1 _ rfl
    have f2 := HF9.out.at 2 _ rfl
    have i0 := HI9.out.at 0 _ rfl
    have i1 := HI9.out.at 1 _ rfl
    have i2 := HI9.out.at 2 _ rfl
    simp only
    go_wp2_with fail
    go_at_call 20
    refine (span_any (Sp.cntL (ks)) (ks) ly Ay cy _ (t1, t2) HLX.out (Nat.le_refl _) (HKX.out.below HB9.out) HSP).mono ?_
    rintro e wa ⟨rfl, hb⟩
    have HB10 := Lib.hid (HB9.out.trans (hb.mono HB9.out.size))
    have HF10 := Lib.hid (HF9.out.next hb)
    have HI10 := Lib.hid (HI9.out.next hb)
    have HO10 := Lib.hid (HO9.out.next hb)
    clear hb HB9 HF9 HI9 HO9 f0 f1 f2 i0 i1 i2
    have f0 := HF10.out.at 0 _ rfl
    have f1 := HF10.out.at 1 _ rfl
    have f2 := HF10.out.at 2 _ rfl
    have i0 := HI10.out.at 0 _ rfl
    have i1 := HI10.out.at 1 _ rfl
    have i2 := HI10.out.at 2 _ rfl
    have o0 := HO10.out.at 0 _ rfl
    have o1 := HO10.out.at 1 _ rfl
    simp only
    go_wp2_with fail
    go_ret
    exact ⟨rfl, HB10.out⟩
  obtain ⟨j, hj⟩ : ∃ j, ly = j + 1 := ⟨ly - 1, by omega⟩
  have q0 : decide ((0 : Int) < (ly : Int)) = true := decide_eq_true (by omega)
  have q0n : decide (0 < ly) = true := decide_eq_true (by omega)
  have hwl : IntKind.i64.wrap ((ly : Int) - 1) = (j : Int) := by rw [show (ly : Int) - 1 = (j : Int) by omega]; exact IntWalk.i64_in _ (by omega)
  have hjl : j < ks.length := by rw [HL.out]; omega
  obtain ⟨d, x1, v, n, o, tn, tk, th, el, bs, g, f, At, ct, Ah, ch, Ae, ce, Ab, cb, hkid, hA, hg, hsc, _, _, _, _⟩ := (HK.out.below HB4.out).step j hjl
  subst hA
  have c0 := hsc.c0
  have hj0 : (0 : Int) ≤ (j : Int) := by omega
  have hj1 : (j : Int) < (ly : Int) := by omega
  have hj2 : (j : Int) ≤ (cy : Int) := by omega
  have hlast : ks.getLast? = some (.mk d x1 v n (.mk o tn tk) th el bs) := by
    rw [List.getLast?_eq_getElem?, show ks.length - 1 = j by rw [HL.out]; omega, List.getElem?_eq_getElem hjl, hkid]
  have HLAST := Lib.hid hlast
  have HJ := Lib.hid hj
  clear hsc hkid hlast hjl hj
  by_cases h6 : d = 6
  · have q6 : (d == 6) = true := by rw [h6]; rfl
    have HNS : Hid (noSL ks.dropLast) := Lib.hid (cut_noS ks vs hs.length HST.out)
    have HLX : Hid (ks.dropLast.length = j) := Lib.hid (by rw [List.length_dropLast, HL.out, HJ.out]; rfl)
    have HKX : Hid (SOk w (some ⟨g, f, none⟩) cy ks.dropLast) := Lib.hid HK.out.cut
    have HBK : Hid (hcnt hs + Sp.cntL ks.dropLast ≤ 300) := Lib.hid (by have := HCN.out; have := cnt_cut ks; omega)
    have g0 := HF4.out.free 2
    have hpl := HF4.out.lt
    clear h6 HCN
    go_upto_region 8 with fail
    have HB5 : Hid (Below w.heap.size w (w4.setCell ⟨p, 2, none⟩ (.slice (some ⟨g, f, none⟩) j cy))) := Lib.hid (HB4.out.setCell (p := ⟨p, 2, none⟩) (by simp only; exact Nat.le_of_eq HP.out) _)
    have HF5 : Hid (Cs (w4.setCell ⟨p, 2, none⟩ (.slice (some ⟨g, f, none⟩) j cy)) p [.slice Av lv cv, .slice Ag lg cg, .slice (some ⟨g, f, none⟩) j cy]) := Lib.hid (HF4.out.set 2 _ (by simp))
    have HI5 : Hid (Cs (w4.setCell ⟨p, 2, none⟩ (.slice (some ⟨g, f, none⟩) j cy)) pi [.slice As ls cs, .slice Ap lp cp, .slice Ar lr cr]) := Lib.hid (HI4.out.other (p := ⟨p, 2, none⟩) (by simp only; have := HPI.out; omega) _)
    obtain ⟨w5, hw5⟩ : ∃ w5, w4.setCell ⟨p, 2, none⟩ (.slice (some ⟨g, f, none⟩) j cy) = w5 := ⟨_, rfl⟩
    rw [hw5] at HB5 HF5 HI5
    rw [hw5]
    clear hw5 HB4 HF4 HI4 f0 f1 f2 i0 i1 i2 c0 g0 hpl hwl q6
    have f0 := HF5.out.at 0 _ rfl
    have f1 := HF5.out.at 1 _ rfl
    have f2 := HF5.out.at 2 _ rfl
    have i0 := HI5.out.at 0 _ rfl
    have i1 := HI5.out.at 1 _ rfl
    have i2 := HI5.out.at 2 _ rfl
    obtain ⟨⟨r2, vals⟩, hrv⟩ : ∃ z, startC vs hs (ks.dropLast) ⟨S, P, R⟩ = z := ⟨_, rfl⟩
    obtain ⟨s, hs0⟩ : ∃ z, endM vs hs (ks.dropLast) vals = z := ⟨_, rfl⟩
    obtain ⟨⟨u1, u2, u3, u4⟩, hbn⟩ : ∃ z, bndP vs hs (ks.dropLast) = z := ⟨_, rfl⟩
    obtain ⟨⟨t1, t2⟩, hsp⟩ : ∃ z, spL (ks.dropLast) (0, 0) = z := ⟨_, rfl⟩
    have HRV := Lib.hid hrv
    have HS := Lib.hid hs0
    have HBN := Lib.hid hbn
    have HSP := Lib.hid hsp
    clear hrv hs0 hbn hsp
    go_wp2_with fail
    go_at_call 14
    refine (Run_b vs hs (ks.dropLast) Av lv cv Ag lg cg (some ⟨g, f, none⟩) j cy S P R As ls cs Ap lp cp Ar lr cr _ (HV.out.below HB5.out) (HHS.out.below HB5.out) HLX.out (HKX.out.below HB5.out) (by omega) (by have := HBK.out; omega) (HZS.out.below HB5.out) (HZP.out.below HB5.out) (HZR.out.below HB5.out) r2 s vals HRV HS).mono ?_
    rintro e w7 ⟨hb, hcase⟩
    have HB7 := Lib.hid (HB5.out.trans (hb.mono HB5.out.size))
    have HF7 := Lib.hid (HF5.out.next hb)
    have HI7 := Lib.hid (HI5.out.next hb)
    clear hb HB5 HF5 HI5  f0 f1 f2 i0 i1 i2
    have f0 := HF7.out.at 0 _ rfl
    have f1 := HF7.out.at 1 _ rfl
    have f2 := HF7.out.at 2 _ rfl
    have i0 := HI7.out.at 0 _ rfl
    have i1 := HI7.out.at 1 _ rfl
    have i2 := HI7.out.at 2 _ rfl
    rcases hcase with ⟨hr, rfl⟩ | ⟨rfl, Ao, co, rfl, hzw⟩
    · have hrn : (r2 != 0) = true := by simpa using hr
      clear HRV HS HBN HSP
      go_wp2_with fail
      go_ret
      exact ⟨rfl, HB7.out.alloc HB7.out.size _⟩
    obtain ⟨hc0, hst0⟩ := startC_zero HRV.out
    obtain ⟨_, _, hvc0, _, _, _⟩ := checkP_zero hc0
    obtain ⟨k1, k2, k3, k4, k5⟩ := bounds_law hc0 HNS.out (startP_ok hvc0 hst0)
    have he : (u1, u2, u3, u4) = ((upL (ks.dropLast) (0, 0, 0)).1, (upL (ks.dropLast) (0, 0, 0)).2.1, (upL (ks.dropLast) (0, 0, 0)).2.2, 0) := by rw [← HBN.out, bndP, hc0]; rfl
    obtain ⟨e1, he1⟩ := Prod.mk.inj he
    obtain ⟨e2, he2⟩ := Prod.mk.inj he1
    obtain ⟨e3, e4⟩ := Prod.mk.inj he2
    rw [← e1] at k1
    rw [← e2, HS.out] at k2
    rw [HS.out, HSP.out] at k3 k4
    rw [← e3, HSP.out] at k5
    simp only at k3 k4 k5
    subst e4
    clear e1 e2 e3 he he1 he2 hc0 hst0 hvc0
    have d1 : decide (u1 ≤ 4096) = true := decide_eq_true k1
    have d2 : decide ((s.o.length : Int) ≤ u2) = true := decide_eq_true k2
    have d3 : decide (t1 ≤ s.t) = true := decide_eq_true k3
    have d4 : decide (s.t ≤ t2) = true := decide_eq_true k4
    have d5 : decide (t2 ≤ u3) = true := decide_eq_true k5
    have hb := (Below.refl w7.heap.size w7).alloc (Nat.le_refl _) (.cells #[.slice Ao s.o.length co, .int .i64 s.t] 36)
    have HO8 := Lib.hid (Cs.new w7 #[.slice Ao s.o.length co, .int .i64 s.t] 36)
    have HB8 := Lib.hid (HB7.out.trans (hb.mono HB7.out.size))
    have HF8 := Lib.hid (HF7.out.next hb)
    have HI8 := Lib.hid (HI7.out.next hb)
    clear hb HB7 HF7 HI7  f0 f1 f2 i0 i1 i2
    have f0 := HF8.out.at 0 _ rfl
    have f1 := HF8.out.at 1 _ rfl
    have f2 := HF8.out.at 2 _ rfl
    have i0 := HI8.out.at 0 _ rfl
    have i1 := HI8.out.at 1 _ rfl
    have i2 := HI8.out.at 2 _ rfl
    clear k1 k2 k3 k4 k5
    have D2 := Lib.hid d2
    have D3 := Lib.hid d3
    have D4 := Lib.hid d4
    clear d2 d3 d4
    go_upto_region 11 with fail
    obtain ⟨ol, hol⟩ : ∃ z, s.o.length = z := ⟨_, rfl⟩
    obtain ⟨ot, hot⟩ : ∃ z, s.t = z := ⟨_, rfl⟩
    have d2 := D2.out
    have d3 := D3.out
    have d4 := D4.out
    rw [hol] at d2
    rw [hot] at d3 d4
    clear D2 D3 D4
    obtain ⟨w8, hw8⟩ : ∃ w8, w7.alloc (.cells #[.slice Ao s.o.length co, .int .i64 s.t] 36) = w8 := ⟨_, rfl⟩
    obtain ⟨po, hpo⟩ : ∃ p, w7.heap.size = p := ⟨_, rfl⟩
    rw [hw8] at HB8 HF8 HI8 HO8 f0 f1 f2 i0 i1 i2
    rw [hpo, hol, hot] at HO8
    rw [hw8, hpo, hol, hot]
    clear hw8 hpo hol hot hzw
    go_wp2_with fail
    go_at_call 19
    refine (Bounds_b vs hs (ks.dropLast) Av lv cv Ag lg cg (some ⟨g, f, none⟩) j cy _ (HV.out.below HB8.out) (HHS.out.below HB8.out) HLX.out (HKX.out.below HB8.out) (by omega) (by have := HBK.out; omega) (u1, u2, u3, 0) HBN).mono ?_
    rintro e w9 ⟨rfl, hb⟩
    have HB9 := Lib.hid (HB8.out.trans (hb.mono HB8.out.size))
    have HF9 := Lib.hid (HF8.out.next hb)
    have HI9 := Lib.hid (HI8.out.next hb)
    have HO9 := Lib.hid (HO8.out.next hb)
    clear hb HB8 HF8 HI8 HO8 f0 f1 f2 i0 i1 i2
    have f0 := HF9.out.at 0 _ rfl
    have f1 := HF9.out.at 1 _ rfl
    have f2 := HF9.out.at 2 _ rfl
    have i0 := HI9.out.at 0 _ rfl
    have i1 := HI9.out.at 1 _ rfl
    have i2 := HI9.out.at 2 _ rfl
    simp only
    go_wp2_with fail
    go_at_call 20
    refine (span_any (Sp.cntL (ks.dropLast)) (ks.dropLast) j (some ⟨g, f, none⟩) cy _ (t1, t2) HLX.out (Nat.le_refl _) (HKX.out.below HB9.out) HSP).mono ?_
    rintro e wa ⟨rfl, hb⟩
    have HB10 := Lib.hid (HB9.out.trans (hb.mono HB9.out.size))
    have HF10 := Lib.hid (HF9.out.next hb)
    have HI10 := Lib.hid (HI9.out.next hb)
    have HO10 := Lib.hid (HO9.out.next hb)
    clear hb HB9 HF9 HI9 HO9 f0 f1 f2 i0 i1 i2
    have f0 := HF10.out.at 0 _ rfl
    have f1 := HF10.out.at 1 _ rfl
    have f2 := HF10.out.at 2 _ rfl
    have i0 := HI10.out.at 0 _ rfl
    have i1 := HI10.out.at 1 _ rfl
    have i2 := HI10.out.at 2 _ rfl
    have o0 := HO10.out.at 0 _ rfl
    have o1 := HO10.out.at 1 _ rfl
    simp only
    go_wp2_with fail
    go_ret
    exact ⟨rfl, HB10.out⟩
  · have q6 := beq_of h6
    have HNS : Hid (noSL ks) := Lib.hid (top_noS ks vs hs.length HST.out (by rw [HLAST.out]; intro x hx; injection hx with hx; rw [← hx]; exact h6))
    have HLX := HL
    have HKX := HK
    have HBK : Hid (hcnt hs + Sp.cntL ks ≤ 300) := HCN
    clear h6
    obtain ⟨⟨r2, vals⟩, hrv⟩ : ∃ z, startC vs hs (ks) ⟨S, P, R⟩ = z := ⟨_, rfl⟩
    obtain ⟨s, hs0⟩ : ∃ z, endM vs hs (ks) vals = z := ⟨_, rfl⟩
    obtain ⟨⟨u1, u2, u3, u4⟩, hbn⟩ : ∃ z, bndP vs hs (ks) = z := ⟨_, rfl⟩
    obtain ⟨⟨t1, t2⟩, hsp⟩ : ∃ z, spL (ks) (0, 0) = z := ⟨_, rfl⟩
    have HRV := Lib.hid hrv
    have HS := Lib.hid hs0
    have HBN := Lib.hid hbn
    have HSP := Lib.hid hsp
    clear hrv hs0 hbn hsp
    go_wp2_with fail
    go_at_call 14
    refine (Run_b vs hs (ks) Av lv cv Ag lg cg (some ⟨g, f, none⟩) ly cy S P R As ls cs Ap lp cp Ar lr cr _ (HV.out.below HB4.out) (HHS.out.below HB4.out) HLX.out (HKX.out.below HB4.out) (by omega) (by have := HBK.out; omega) (HZS.out.below HB4.out) (HZP.out.below HB4.out) (HZR.out.below HB4.out) r2 s vals HRV HS).mono ?_
    rintro e w7 ⟨hb, hcase⟩
    have HB7 := Lib.hid (HB4.out.trans (hb.mono HB4.out.size))
    have HF7 := Lib.hid (HF4.out.next hb)
    have HI7 := Lib.hid (HI4.out.next hb)
    clear hb HB4 HF4 HI4  f0 f1 f2 i0 i1 i2
    have f0 := HF7.out.at 0 _ rfl
    have f1 := HF7.out.at 1 _ rfl
    have f2 := HF7.out.at 2 _ rfl
    have i0 := HI7.out.at 0 _ rfl
    have i1 := HI7.out.at 1 _ rfl
    have i2 := HI7.out.at 2 _ rfl
    rcases hcase with ⟨hr, rfl⟩ | ⟨rfl, Ao, co, rfl, hzw⟩
    · have hrn : (r2 != 0) = true := by simpa using hr
      clear HRV HS HBN HSP
      go_wp2_with fail
      go_ret
      exact ⟨rfl, HB7.out.alloc HB7.out.size _⟩
    obtain ⟨hc0, hst0⟩ := startC_zero HRV.out
    obtain ⟨_, _, hvc0, _, _, _⟩ := checkP_zero hc0
    obtain ⟨k1, k2, k3, k4, k5⟩ := bounds_law hc0 HNS.out (startP_ok hvc0 hst0)
    have he : (u1, u2, u3, u4) = ((upL (ks) (0, 0, 0)).1, (upL (ks) (0, 0, 0)).2.1, (upL (ks) (0, 0, 0)).2.2, 0) := by rw [← HBN.out, bndP, hc0]; rfl
    obtain ⟨e1, he1⟩ := Prod.mk.inj he
    obtain ⟨e2, he2⟩ := Prod.mk.inj he1
    obtain ⟨e3, e4⟩ := Prod.mk.inj he2
    rw [← e1] at k1
    rw [← e2, HS.out] at k2
    rw [HS.out, HSP.out] at k3 k4
    rw [← e3, HSP.out] at k5
    simp only at k3 k4 k5
    subst e4
    clear e1 e2 e3 he he1 he2 hc0 hst0 hvc0
    have d1 : decide (u1 ≤ 4096) = true := decide_eq_true k1
    have d2 : decide ((s.o.length : Int) ≤ u2) = true := decide_eq_true k2
    have d3 : decide (t1 ≤ s.t) = true := decide_eq_true k3
    have d4 : decide (s.t ≤ t2) = true := decide_eq_true k4
    have d5 : decide (t2 ≤ u3) = true := decide_eq_true k5
    have hb := (Below.refl w7.heap.size w7).alloc (Nat.le_refl _) (.cells #[.slice Ao s.o.length co, .int .i64 s.t] 36)
    have HO8 := Lib.hid (Cs.new w7 #[.slice Ao s.o.length co, .int .i64 s.t] 36)
    have HB8 := Lib.hid (HB7.out.trans (hb.mono HB7.out.size))
    have HF8 := Lib.hid (HF7.out.next hb)
    have HI8 := Lib.hid (HI7.out.next hb)
    clear hb HB7 HF7 HI7  f0 f1 f2 i0 i1 i2
    have f0 := HF8.out.at 0 _ rfl
    have f1 := HF8.out.at 1 _ rfl
    have f2 := HF8.out.at 2 _ rfl
    have i0 := HI8.out.at 0 _ rfl
    have i1 := HI8.out.at 1 _ rfl
    have i2 := HI8.out.at 2 _ rfl
    clear k1 k2 k3 k4 k5
    have D2 := Lib.hid d2
    have D3 := Lib.hid d3
    have D4 := Lib.hid d4
    clear d2 d3 d4
    go_upto_region 11 with fail
    obtain ⟨ol, hol⟩ : ∃ z, s.o.length = z := ⟨_, rfl⟩
    obtain ⟨ot, hot⟩ : ∃ z, s.t = z := ⟨_, rfl⟩
    have d2 := D2.out
    have d3 := D3.out
    have d4 := D4.out
    rw [hol] at d2
    rw [hot] at d3 d4
    clear D2 D3 D4
    obtain ⟨w8, hw8⟩ : ∃ w8, w7.alloc (.cells #[.slice Ao s.o.length co, .int .i64 s.t] 36) = w8 := ⟨_, rfl⟩
    obtain ⟨po, hpo⟩ : ∃ p, w7.heap.size = p := ⟨_, rfl⟩
    rw [hw8] at HB8 HF8 HI8 HO8 f0 f1 f2 i0 i1 i2
    rw [hpo, hol, hot] at HO8
    rw [hw8, hpo, hol, hot]
    clear hw8 hpo hol hot hzw
    go_wp2_with fail
    go_at_call 19
    refine (Bounds_b vs hs (ks) Av lv cv Ag lg cg (some ⟨g, f, none⟩) ly cy _ (HV.out.below HB8.out) (HHS.out.below HB8.out) HLX.out (HKX.out.below HB8.out) (by omega) (by have := HBK.out; omega) (u1, u2, u3, 0) HBN).mono ?_
    rintro e w9 ⟨rfl, hb⟩
    have HB9 := Lib.hid (HB8.out.trans (hb.mono HB8.out.size))
    have HF9 := Lib.hid (HF8.out.next hb)
    have HI9 := Lib.hid (HI8.out.next hb)
    have HO9 := Lib.hid (HO8.out.next hb)
    clear hb HB8 HF8 HI8 HO8 f0 f1 f2 i0 i1 i2
    have f0 := HF9.out.at 0 _ rfl
    have f1 := HF9.out.at 1 _ rfl
    have f2 := HF9.out.at 2 _ rfl
    have i0 := HI9.out.at 0 _ rfl
    have i1 := HI9.out.at 1 _ rfl
    have i2 := HI9.out.at 2 _ rfl
    simp only
    go_wp2_with fail
    go_at_call 20
    refine (span_any (Sp.cntL (ks)) (ks) ly (some ⟨g, f, none⟩) cy _ (t1, t2) HLX.out (Nat.le_refl _) (HKX.out.below HB9.out) HSP).mono ?_
    rintro e wa ⟨rfl, hb⟩
    have HB10 := Lib.hid (HB9.out.trans (hb.mono HB9.out.size))
    have HF10 := Lib.hid (HF9.out.next hb)
    have HI10 := Lib.hid (HI9.out.next hb)
    have HO10 := Lib.hid (HO9.out.next hb)
    clear hb HB9 HF9 HI9 HO9 f0 f1 f2 i0 i1 i2
    have f0 := HF10.out.at 0 _ rfl
    have f1 := HF10.out.at 1 _ rfl
    have f2 := HF10.out.at 2 _ rfl
    have i0 := HI10.out.at 0 _ rfl
    have i1 := HI10.out.at 1 _ rfl
    have i2 := HI10.out.at 2 _ rfl
    have o0 := HO10.out.at 0 _ rfl
    have o1 := HO10.out.at 1 _ rfl
    simp only
    go_wp2_with fail
    go_ret
    exact ⟨rfl, HB10.out⟩
end Go.Proofs.Ytjpjmoejdkmglaa
