/-
  The walk over the law FlatSpans.
-/
import Derived.Test.YtjpjmoejdkmglaaFlSa
import Derived.Test.YtjpjmoejdkmglaaJD
import Derived.Test.YtjpjmoejdkmglaaJE
namespace Go.Proofs.Ytjpjmoejdkmglaa
open Go.RowKit

theorem bounds_same {vs : List Vr} {hs : List Ht} {ks : List Sp} (h : checkP vs hs ks = 0) : rbL ks (0, 0, 0) = upL ks (0, 0, 0) := by
  obtain ⟨_, _, _, _, hst, hu⟩ := checkP_zero h
  have h1 := (bad_eq hst).1
  rw [h1]
  unfold upBad at hu
  simp only [Bool.or_eq_false_iff, decide_eq_false_iff_not] at hu
  obtain ⟨a, b, c⟩ := hu
  unfold cutB
  exact Prod.ext (by simp only; omega) (Prod.ext (by simp only; omega) (by simp only; omega))

set_option maxRecDepth 100000 in
set_option maxHeartbeats 8000000 in
theorem spans_walk (vs : List Vr) (hs : List Ht) (ks : List Sp) (Av : Option Addr) (lv cv : Nat) (Ag : Option Addr) (lg cg : Nat) (Ay : Option Addr) (ly cy : Nat) (w : World) (hv : VOk w Av lv cv vs) (hh : HOk w Ag lg cg hs) (hl : ks.length = ly) (hk : SOk w Ay cy ks) :
    Calls Try.prog 7 #[.agg #[.slice Av lv cv, .slice Ag lg cg, .slice Ay ly cy]] w fun e w' => e = .returned (.bool true) ∧ Below w.heap.size w w' := by
  obtain ⟨⟨s1, s2⟩, hsp⟩ : ∃ z, spL ks (0, 0) = z := ⟨_, rfl⟩
  obtain ⟨⟨u1, u2, u3, u4⟩, hbn⟩ : ∃ z, bndP vs hs ks = z := ⟨_, rfl⟩
  have HSP := Lib.hid hsp
  have HBN := Lib.hid hbn
  clear hsp hbn
  have hba := (Below.refl w.heap.size w).alloc (Nat.le_refl _) (.cells #[.slice Av lv cv, .slice Ag lg cg, .slice Ay ly cy] 26)
  have HB := Lib.hid hba
  have HC := Lib.hid (Cs.new w #[.slice Av lv cv, .slice Ag lg cg, .slice Ay ly cy] 26)
  have HV := Lib.hid (hv.below hba)
  have HHS := Lib.hid (hh.below hba)
  have HK := Lib.hid (hk.below hba)
  have HL := Lib.hid hl
  have HVL := Lib.hid hv.len
  obtain ⟨b, hbf⟩ : ∃ z, fewB vs hs ks 70 1100 = z := ⟨_, rfl⟩
  obtain ⟨r, hr0⟩ : ∃ z, checkP vs hs ks = z := ⟨_, rfl⟩
  have HFW := Lib.hid hbf
  have HR := Lib.hid hr0
  clear hba hv hh hk hl hbf hr0
  go_enter Try.func7, Try.ntmps7
  go_upto_region 1 with fail
  obtain ⟨w1, hw1⟩ : ∃ w1, w.alloc (.cells #[.slice Av lv cv, .slice Ag lg cg, .slice Ay ly cy] 26) = w1 := ⟨_, rfl⟩
  obtain ⟨p, hp⟩ : ∃ p, w.heap.size = p := ⟨_, rfl⟩
  rw [hw1] at HB HC HV HHS HK
  rw [hp] at HC
  rw [hw1, hp]
  clear hw1 hp
  go_wp2_with fail
  go_at_call 10
  refine (known_b _).mono ?_
  rintro e w2 ⟨rfl, hb⟩
  have HB2 := Lib.hid (HB.out.trans (hb.mono HB.out.size))
  have HC2 := Lib.hid (HC.out.next hb)
  have HV2 := Lib.hid (HV.out.below hb)
  have HHS2 := Lib.hid (HHS.out.below hb)
  have HK2 := Lib.hid (HK.out.below hb)
  clear hb HB HC HV HHS HK
  have f0 := HC2.out.at 0 _ rfl
  have f1 := HC2.out.at 1 _ rfl
  have f2 := HC2.out.at 2 _ rfl
  go_wp2_with fail
  go_at_call 11
  refine (Few_b vs hs ks 70 1100 Av lv cv Ag lg cg Ay ly cy _ HVL.out HHS2.out HL.out HK2.out (by omega) (by omega) (by omega) b HFW).mono ?_
  rintro e w3 ⟨rfl, hb⟩
  have HB3 := Lib.hid (HB2.out.trans (hb.mono HB2.out.size))
  have HC3 := Lib.hid (HC2.out.next hb)
  have HV3 := Lib.hid (HV2.out.below hb)
  have HHS3 := Lib.hid (HHS2.out.below hb)
  have HK3 := Lib.hid (HK2.out.below hb)
  clear hb HB2 HC2 HV2 HHS2 HK2 f0 f1 f2
  have f0 := HC3.out.at 0 _ rfl
  have f1 := HC3.out.at 1 _ rfl
  have f2 := HC3.out.at 2 _ rfl
  cases b with
  | false =>
    go_wp2_with fail
    go_ret
    exact ⟨rfl, HB3.out⟩
  | true =>
  obtain ⟨hm1, hm2, hm3⟩ := few_small HFW.out
  have hlv : lv ≤ 70 := by have := HVL.out; omega
  have hcn : hcnt hs + Sp.cntL ks ≤ 1100 := by omega
  have HCN := Lib.hid hcn
  clear hm1 hm2 hm3 hcn
  go_wp2_with fail
  go_at_call 20
  refine (span_any (Sp.cntL ks) ks ly Ay cy _ (s1, s2) HL.out (Nat.le_refl _) HK3.out HSP).mono ?_
  rintro e w4 ⟨rfl, hb⟩
  have HB4 := Lib.hid (HB3.out.trans (hb.mono HB3.out.size))
  have HC4 := Lib.hid (HC3.out.next hb)
  have HV4 := Lib.hid (HV3.out.below hb)
  have HHS4 := Lib.hid (HHS3.out.below hb)
  have HK4 := Lib.hid (HK3.out.below hb)
  clear hb HB3 HC3 HV3 HHS3 HK3 f0 f1 f2
  have f0 := HC4.out.at 0 _ rfl
  have f1 := HC4.out.at 1 _ rfl
  have f2 := HC4.out.at 2 _ rfl
  go_wp2_with fail
  go_at_call 21
  refine (rspanS_any (Sp.cntL ks) ks ly Ay cy _ (s1, s2) HL.out (Nat.le_refl _) HK4.out HSP).mono ?_
  rintro e w5 ⟨rfl, hb⟩
  have HB5 := Lib.hid (HB4.out.trans (hb.mono HB4.out.size))
  have HC5 := Lib.hid (HC4.out.next hb)
  have HV5 := Lib.hid (HV4.out.below hb)
  have HHS5 := Lib.hid (HHS4.out.below hb)
  have HK5 := Lib.hid (HK4.out.below hb)
  clear hb HB4 HC4 HV4 HHS4 HK4 f0 f1 f2
  have f0 := HC5.out.at 0 _ rfl
  have f1 := HC5.out.at 1 _ rfl
  have f2 := HC5.out.at 2 _ rfl
  simp only
  have q1 := bne_self s1
  have q2 := bne_self s2
  go_wp2_with fail
  go_at_call 19
  refine (Bounds_b vs hs ks Av lv cv Ag lg cg Ay ly cy _ HV5.out HHS5.out HL.out HK5.out (by omega) (by have := HCN.out; omega) (u1, u2, u3, u4) HBN).mono ?_
  rintro e w6 ⟨rfl, hb⟩
  have HB6 := Lib.hid (HB5.out.trans (hb.mono HB5.out.size))
  have HC6 := Lib.hid (HC5.out.next hb)
  have HV6 := Lib.hid (HV5.out.below hb)
  have HHS6 := Lib.hid (HHS5.out.below hb)
  have HK6 := Lib.hid (HK5.out.below hb)
  clear hb HB5 HC5 HV5 HHS5 HK5 f0 f1 f2
  have f0 := HC6.out.at 0 _ rfl
  have f1 := HC6.out.at 1 _ rfl
  have f2 := HC6.out.at 2 _ rfl
  simp only
  clear q1 q2
  go_wp2_with fail
  go_at_call 13
  refine (rcheck_b vs hs ks Av lv cv Ag lg cg Ay ly cy _ HV6.out HHS6.out HL.out HK6.out (by omega) (by have := HCN.out; omega) r HR).mono ?_
  rintro e w7 ⟨rfl, hb⟩
  have HB7 := Lib.hid (HB6.out.trans (hb.mono HB6.out.size))
  have HC7 := Lib.hid (HC6.out.next hb)
  have HV7 := Lib.hid (HV6.out.below hb)
  have HHS7 := Lib.hid (HHS6.out.below hb)
  have HK7 := Lib.hid (HK6.out.below hb)
  clear hb HB6 HC6 HV6 HHS6 HK6 f0 f1 f2
  have f0 := HC7.out.at 0 _ rfl
  have f1 := HC7.out.at 1 _ rfl
  have f2 := HC7.out.at 2 _ rfl
  by_cases z : r = 0
  case neg =>
    have z1 := beq_of z
    have he : (u1, u2, u3, u4) = (0, 0, 0, r) := by rw [← HBN.out, bndP, HR.out, if_pos z]
    obtain ⟨e1, he1⟩ := Prod.mk.inj he
    obtain ⟨e2, he2⟩ := Prod.mk.inj he1
    obtain ⟨e3, he3⟩ := Prod.mk.inj he2
    have HE : Hid (u4 = r) := he3
    clear he he1 he2 he3 z
    subst e1 e2 e3
    go_wp2_with fail
    go_at_call 13
    refine (rcheck_b vs hs ks Av lv cv Ag lg cg Ay ly cy _ HV7.out HHS7.out HL.out HK7.out (by omega) (by have := HCN.out; omega) r HR).mono ?_
    rintro e w8 ⟨rfl, hb⟩
    have HB8 := Lib.hid (HB7.out.trans (hb.mono HB7.out.size))
    clear hb
    have q4 : (u4 == r) = true := by rw [HE.out]; simp
    go_wp2_with fail
    go_ret
    exact ⟨rfl, HB8.out⟩
  have z1 : (r == 0) = true := by rw [z]; rfl
  have he : (u1, u2, u3, u4) = ((upL ks (0, 0, 0)).1, (upL ks (0, 0, 0)).2.1, (upL ks (0, 0, 0)).2.2, 0) := by rw [← HBN.out, bndP, HR.out, if_neg (by simpa using z)]
  have hup := bounds_same (HR.out.trans z)
  have hrb : rbL ks (0, 0, 0) = (u1, u2, u3) := by
    rw [hup]
    obtain ⟨h1, he1⟩ := Prod.mk.inj he
    obtain ⟨h2, he2⟩ := Prod.mk.inj he1
    obtain ⟨h3, _⟩ := Prod.mk.inj he2
    rw [h1, h2, h3]
  have h4 : u4 = 0 := by
    exact (Prod.mk.inj (Prod.mk.inj (Prod.mk.inj he).2).2).2
  obtain ⟨_, _, _, _, hst, _⟩ := checkP_zero (HR.out.trans z)
  have HNL := Lib.hid (stepsC_num ks vs hs.length true hst)
  have HRB := Lib.hid hrb
  subst h4
  clear he hup hrb hst z
  go_wp2_with fail
  go_at_call 22
  refine (rbounds_any (Sp.cntL ks) ks ly Ay cy _ (u1, u2, u3) HL.out (Nat.le_refl _) HK7.out HNL.out HRB).mono ?_
  rintro e w8 ⟨rfl, hb⟩
  have HB8 := Lib.hid (HB7.out.trans (hb.mono HB7.out.size))
  have HC8 := Lib.hid (HC7.out.next hb)
  have HV8 := Lib.hid (HV7.out.below hb)
  have HHS8 := Lib.hid (HHS7.out.below hb)
  have HK8 := Lib.hid (HK7.out.below hb)
  clear hb HB7 HC7 HV7 HHS7 HK7 f0 f1 f2
  have f0 := HC8.out.at 0 _ rfl
  have f1 := HC8.out.at 1 _ rfl
  have f2 := HC8.out.at 2 _ rfl
  simp only
  go_wp2_with fail
  go_at_call 13
  refine (rcheck_b vs hs ks Av lv cv Ag lg cg Ay ly cy _ HV8.out HHS8.out HL.out HK8.out (by omega) (by have := HCN.out; omega) r HR).mono ?_
  rintro e w9 ⟨rfl, hb⟩
  have HB9 := Lib.hid (HB8.out.trans (hb.mono HB8.out.size))
  clear hb
  have z2 : ((0 : Int) == r) = true := by rw [beq_iff_eq]; have := z1; rw [beq_iff_eq] at this; exact this.symm
  have q1 : (u1 == u1) = true := by simp
  have q2 : (u2 == u2) = true := by simp
  have q3 : (u3 == u3) = true := by simp
  go_wp2_with fail
  go_ret
  exact ⟨rfl, HB9.out⟩
end Go.Proofs.Ytjpjmoejdkmglaa
