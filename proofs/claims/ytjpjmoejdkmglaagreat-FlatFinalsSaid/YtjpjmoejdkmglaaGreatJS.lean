/-
  The walk over Final.
  The walk over the law FlatFinals.
-/
import Derived.Test.YtjpjmoejdkmglaaGreatFlEf
import Derived.Test.YtjpjmoejdkmglaaGreatFlQs
import Derived.Test.YtjpjmoejdkmglaaGreatJE
namespace Go.Proofs.YtjpjmoejdkmglaaGreat
open Go.RowKit

/-- What Final hands back. -/
def Finaled (w : World) (lv : Nat) (r : Int) (s : Ms) (e : Ending) (w' : World) : Prop :=
  Below w.heap.size w w' ∧ ((r ≠ 0 ∧ e = .returned (.tuple #[.slice none 0 0, .int .i64 r])) ∨
    (r = 0 ∧ ∃ (Ax : Option Addr) (cx : Nat), e = .returned (.tuple #[.slice Ax lv cx, .int .i64 0]) ∧ Zs w' Ax lv cx s.v))
set_option maxRecDepth 100000 in
set_option maxHeartbeats 8000000 in
theorem Final_b (vs : List Vr) (hs : List Ht) (ks : List Sp) (Av : Option Addr) (lv cv : Nat) (Ag : Option Addr) (lg cg : Nat) (Ay : Option Addr) (ly cy : Nat) (S P R : List Int) (As : Option Addr) (ls cs : Nat) (Ap : Option Addr) (lp cp : Nat) (Ar : Option Addr) (lr cr : Nat) (w : World) (hv : VOk w Av lv cv vs) (hh : HOk w Ag lg cg hs) (hl : ks.length = ly) (hk : SOk w Ay cy ks) (hlv : lv ≤ 1000) (_hlg : lg ≤ 1000) (hbd : hcnt hs + Sp.cntL ks ≤ 90000)
    (hzs : Zs w As ls cs S) (hzp : Zs w Ap lp cp P) (hzr : Zs w Ar lr cr R) (r : Int) (s : Ms) (vals : List Int) (H : Hid (startC vs hs ks ⟨S, P, R⟩ = (r, vals))) (HE : Hid (endM vs hs ks vals = s)) :
    Calls Tryz.prog 10 #[.agg #[.slice Av lv cv, .slice Ag lg cg, .slice Ay ly cy], .agg #[.slice As ls cs, .slice Ap lp cp, .slice Ar lr cr]] w (Finaled w lv r s) := by
  have HBD := Lib.hid hbd
  have HL := Lib.hid hl
  have HHL := Lib.hid hh.len
  have hb1 := (Below.refl w.heap.size w).alloc (Nat.le_refl _) (.cells #[.slice Av lv cv, .slice Ag lg cg, .slice Ay ly cy] 26)
  have hb2 := hb1.alloc hb1.size (.cells #[.slice As ls cs, .slice Ap lp cp, .slice Ar lr cr] 29)
  have HC := Lib.hid ((Cs.new w #[.slice Av lv cv, .slice Ag lg cg, .slice Ay ly cy] 26).alloc (.cells #[.slice As ls cs, .slice Ap lp cp, .slice Ar lr cr] 29))
  have HI := Lib.hid (Cs.new1 w (.cells #[.slice Av lv cv, .slice Ag lg cg, .slice Ay ly cy] 26) #[.slice As ls cs, .slice Ap lp cp, .slice Ar lr cr] 29)
  have HB := Lib.hid hb2
  have HV := Lib.hid (hv.below hb2)
  have HHS := Lib.hid (hh.below hb2)
  have HK := Lib.hid (hk.below hb2)
  have HZS := Lib.hid (hzs.below hb2)
  have HZP := Lib.hid (hzp.below hb2)
  have HZR := Lib.hid (hzr.below hb2)
  clear hv hh hk hl hbd hzs hzp hzr hb1 hb2 
  go_enter Tryz.func10, Tryz.ntmps10
  go_upto_region 1 with fail
  obtain ⟨w1, hw1⟩ : ∃ w1, (w.alloc (.cells #[.slice Av lv cv, .slice Ag lg cg, .slice Ay ly cy] 26)).alloc (.cells #[.slice As ls cs, .slice Ap lp cp, .slice Ar lr cr] 29) = w1 := ⟨_, rfl⟩
  rw [hw1] at HB HC HI HV HHS HK HZS HZP HZR
  rw [hw1]
  clear hw1
  have n0 := HC.out.at 0 _ rfl; have i0 := HI.out.at 0 _ rfl; have n1 := HC.out.at 1 _ rfl; have i1 := HI.out.at 1 _ rfl; have n2 := HC.out.at 2 _ rfl; have i2 := HI.out.at 2 _ rfl
  go_wp2_with fail
  go_at_call 20
  refine (start_b vs hs ks Av lv cv Ag lg cg Ay ly cy S P R As ls cs Ap lp cp Ar lr cr w1 HV.out HHS.out HL.out HK.out hlv HBD.out HZS.out HZP.out HZR.out r vals H).mono ?_
  rintro e w2 ⟨hb, hor⟩
  have HB2 := Lib.hid (HB.out.trans (hb.mono HB.out.size))
  have HC2 := Lib.hid (HC.out.next hb)
  have HBB := Lib.hid hb
  clear hb n0 n1 n2 i0 i1 i2 HC HI
  rcases hor with ⟨hr, rfl⟩ | ⟨rfl, p, Ax, cx, Ah, ch, rfl, hmk⟩
  · have hbn := bne_of hr
    have HR := Lib.hid hr
    clear hr
    go_wp2_with fail
    go_returns
    exact ⟨HB2.out, .inl ⟨HR.out, rfl⟩⟩
  obtain ⟨hck, hsp⟩ := startC_zero H.out
  obtain ⟨_, _, hvc, _, hst, _⟩ := checkP_zero hck
  have HMK := Lib.hid hmk
  have HVB := varsC_B hvc
  have HOC := outL_check hck
  have HVK := startP_ok hvc hsp
  rw [HHL.out] at hst
  have n2 := HC2.out.at 2 _ rfl
  clear hmk hck hsp
  go_wp2_with fail
  go_at_call 21
  refine (run_any vs HVB Av lv cv Ag lg cg Ay ly cy Ax cx Ah lg ch (hatV vals hs) (by rw [hatV, List.length_map, HHL.out]) p w1 HV.out (Sp.cntL ks) ks ly Ay cy w2 (.slice none 0 0) ⟨vals, [], 0⟩ 0 s true HL.out (Nat.le_refl _) HK.out HBB.out HMK.out hst ⟨HVK, Nat.le_refl _⟩ (by omega) HE).mono ?_
  rintro e w3 ⟨rfl, O', hw3⟩
  have hlow := hw3.low HMK.out HBB.out HBB.out.size
  have HB3 := Lib.hid (HB.out.trans (hlow.mono HB.out.size))
  have hlen : s.v.length = lv := by
    have h1 := runL_fit HVB (hats := hatV vals hs) ks 0 ⟨vals, [], 0⟩ ⟨HVK, Nat.le_refl _⟩
    have h2 : runL vs (hatV vals hs) ks ⟨vals, [], 0⟩ = s := HE.out
    rw [h2] at h1
    rw [h1.1.1, HV.out.len]
  have hz := Zs.of_row (zs := s.v) (by have := hw3.st.v; exact this)
  have HZ := Lib.hid hz
  have p3 := hw3.st.cs.at 3 _ rfl
  have HLN := Lib.hid hlen
  clear hw3 hlow n2 HVB HOC HVK hvc hst hz hlen
  go_wp2_with fail
  go_returns
  exact ⟨HB3.out, .inr ⟨rfl, Ax, cx, rfl, HZ.out⟩⟩

set_option maxRecDepth 100000 in
set_option maxHeartbeats 8000000 in
theorem finals_walk (vs : List Vr) (hs : List Ht) (ks : List Sp) (Av : Option Addr) (lv cv : Nat) (Ag : Option Addr) (lg cg : Nat) (Ay : Option Addr) (ly cy : Nat) (S P R : List Int) (As : Option Addr) (ls cs : Nat) (Ap : Option Addr) (lp cp : Nat) (Ar : Option Addr) (lr cr : Nat) (w : World) (hv : VOk w Av lv cv vs) (hh : HOk w Ag lg cg hs) (hl : ks.length = ly) (hk : SOk w Ay cy ks) (hzs : Zs w As ls cs S) (hzp : Zs w Ap lp cp P) (hzr : Zs w Ar lr cr R) :
    Calls Tryz.prog 4 #[.agg #[.slice Av lv cv, .slice Ag lg cg, .slice Ay ly cy], .agg #[.slice As ls cs, .slice Ap lp cp, .slice Ar lr cr]] w fun e w' => e = .returned (.bool true) ∧ Below w.heap.size w w' := by
  have hb1 := (Below.refl w.heap.size w).alloc (Nat.le_refl _) (.cells #[.slice Av lv cv, .slice Ag lg cg, .slice Ay ly cy] 26)
  have hb2 := hb1.alloc hb1.size (.cells #[.slice As ls cs, .slice Ap lp cp, .slice Ar lr cr] 29)
  have HB := Lib.hid hb2
  have HC := Lib.hid ((Cs.new w #[.slice Av lv cv, .slice Ag lg cg, .slice Ay ly cy] 26).alloc (.cells #[.slice As ls cs, .slice Ap lp cp, .slice Ar lr cr] 29))
  have HI := Lib.hid (Cs.new1 w (.cells #[.slice Av lv cv, .slice Ag lg cg, .slice Ay ly cy] 26) #[.slice As ls cs, .slice Ap lp cp, .slice Ar lr cr] 29)
  have HV := Lib.hid hv
  have HHS := Lib.hid hh
  have HK := Lib.hid hk
  have HL := Lib.hid hl
  have HVL := Lib.hid hv.len
  have HHL := Lib.hid hh.len
  have HZS := Lib.hid hzs
  have HZP := Lib.hid hzp
  have HZR := Lib.hid hzr
  obtain ⟨b, hbf⟩ : ∃ z, fewB vs hs ks 70 1100 = z := ⟨_, rfl⟩
  obtain ⟨⟨r, vals⟩, hsc⟩ : ∃ z, startC vs hs ks ⟨S, P, R⟩ = z := ⟨_, rfl⟩
  obtain ⟨s, hse⟩ : ∃ z, endM vs hs ks vals = z := ⟨_, rfl⟩
  have HFW := Lib.hid hbf
  have HSC := Lib.hid hsc
  have HSE := Lib.hid hse
  clear hb1 hb2 hv hh hk hl hzs hzp hzr hbf hsc hse
  go_enter Tryz.func4, Tryz.ntmps4
  go_upto_region 1 with fail
  obtain ⟨w1, hw1⟩ : ∃ w1, (w.alloc (.cells #[.slice Av lv cv, .slice Ag lg cg, .slice Ay ly cy] 26)).alloc (.cells #[.slice As ls cs, .slice Ap lp cp, .slice Ar lr cr] 29) = w1 := ⟨_, rfl⟩
  rw [hw1] at HB HC HI
  rw [hw1]
  clear hw1
  go_wp2_with fail
  go_at_call 5
  refine (known_b _).mono ?_
  rintro e w2 ⟨rfl, hb⟩
  have HB2 := Lib.hid (HB.out.trans (hb.mono HB.out.size))
  have HC2 := Lib.hid (HC.out.next hb)
  have HI2 := Lib.hid (HI.out.next hb)
  clear hb HB HC HI 
  have n0 := HC2.out.at 0 _ rfl; have i0 := HI2.out.at 0 _ rfl; have n1 := HC2.out.at 1 _ rfl; have i1 := HI2.out.at 1 _ rfl; have n2 := HC2.out.at 2 _ rfl; have i2 := HI2.out.at 2 _ rfl
  go_wp2_with fail
  go_at_call 6
  refine (Few_b vs hs ks 70 1100 Av lv cv Ag lg cg Ay ly cy _ HVL.out (HHS.out.below HB2.out) HL.out (HK.out.below HB2.out) (by omega) (by omega) (by omega) b HFW).mono ?_
  rintro e w3 ⟨rfl, hb⟩
  have HB3 := Lib.hid (HB2.out.trans (hb.mono HB2.out.size))
  have HC3 := Lib.hid (HC2.out.next hb)
  have HI3 := Lib.hid (HI2.out.next hb)
  clear hb HB2 HC2 HI2 n0 n1 n2 i0 i1 i2
  have n0 := HC3.out.at 0 _ rfl; have i0 := HI3.out.at 0 _ rfl; have n1 := HC3.out.at 1 _ rfl; have i1 := HI3.out.at 1 _ rfl; have n2 := HC3.out.at 2 _ rfl; have i2 := HI3.out.at 2 _ rfl
  cases b with
  | false =>
    go_wp2_with fail
    go_ret
    exact ⟨rfl, HB3.out⟩
  | true =>
  obtain ⟨hm1, hm2, hm3⟩ := few_small HFW.out
  have hlv : lv ≤ 70 := by have := HVL.out; omega
  have hlg : lg ≤ 70 := by have := HHL.out; omega
  have HCN : Hid (hcnt hs + Sp.cntL ks ≤ 1100) := Lib.hid (by omega)
  clear hm1 hm2 hm3
  by_cases hr0 : r = 0
  · subst hr0
    go_wp2_with fail
    go_at_call 10
    refine (Final_b vs hs ks Av lv cv Ag lg cg Ay ly cy S P R As ls cs Ap lp cp Ar lr cr _ (HV.out.below HB3.out) (HHS.out.below HB3.out) HL.out (HK.out.below HB3.out) (by omega) (by omega) (by have := HCN.out; omega) (HZS.out.below HB3.out) (HZP.out.below HB3.out) (HZR.out.below HB3.out) 0 s vals HSC HSE).mono ?_
    rintro e w5 ⟨hb, hor⟩
    obtain ⟨h, _⟩ | ⟨_, Ax, cx, rfl, hzx⟩ := hor
    · exact absurd rfl h
    have HZX := Lib.hid hzx
    clear hzx
    have HB5 := Lib.hid (HB3.out.trans (hb.mono HB3.out.size))
    have HC5 := Lib.hid (HC3.out.next hb)
    have HI5 := Lib.hid (HI3.out.next hb)
    clear hb HB3 HC3 HI3 n0 n1 n2 i0 i1 i2
    have n0 := HC5.out.at 0 _ rfl; have i0 := HI5.out.at 0 _ rfl; have n1 := HC5.out.at 1 _ rfl; have i1 := HI5.out.at 1 _ rfl; have n2 := HC5.out.at 2 _ rfl; have i2 := HI5.out.at 2 _ rfl
    go_wp2_with fail
    go_at_call 11
    refine (rPlay_b vs hs ks Av lv cv Ag lg cg Ay ly cy S P R As ls cs Ap lp cp Ar lr cr _ (HV.out.below HB5.out) (HHS.out.below HB5.out) HL.out (HK.out.below HB5.out) (by omega) (by omega) (by have := HCN.out; omega) (HZS.out.below HB5.out) (HZP.out.below HB5.out) (HZR.out.below HB5.out) 0 s vals HSC HSE).mono ?_
    rintro e w6 ⟨hb0, hor⟩
    obtain ⟨h, _⟩ | ⟨_, Aq, cq, Ao, co, rfl, hzq, _⟩ := hor
    · exact absurd rfl h
    have hb := hb0.alloc hb0.size (.cells #[.slice Aq lv cq, .slice Ao s.o.length co, .int .i64 s.t] 42)
    have HP7 := Lib.hid (Cs.new w6 #[.slice Aq lv cq, .slice Ao s.o.length co, .int .i64 s.t] 42)
    have HZX7 := Lib.hid (HZX.out.below hb)
    have HZQ := Lib.hid (hzq.1.below ((Below.refl w6.heap.size w6).alloc (Nat.le_refl _) (.cells #[.slice Aq lv cq, .slice Ao s.o.length co, .int .i64 s.t] 42)))
    clear hzq HZX
    clear hb0
    have HB7 := Lib.hid (HB5.out.trans (hb.mono HB5.out.size))
    have HC7 := Lib.hid (HC5.out.next hb)
    have HI7 := Lib.hid (HI5.out.next hb)
    clear hb HB5 HC5 HI5 n0 n1 n2 i0 i1 i2
    go_upto_region 7 with fail
    obtain ⟨w7, hw7⟩ : ∃ w7, w6.alloc (.cells #[.slice Aq lv cq, .slice Ao s.o.length co, .int .i64 s.t] 42) = w7 := ⟨_, rfl⟩
    obtain ⟨qp, hqp⟩ : ∃ q, w6.heap.size = q := ⟨_, rfl⟩
    rw [hw7] at HB7 HC7 HI7 HP7 HZX7 HZQ
    rw [hqp] at HP7
    rw [hw7, hqp]
    clear hw7 hqp
    have p0 := HP7.out.at 0 _ rfl
    have hrr : ((0 : Int) == 0) = true := rfl
    go_wp2_with fail
    go_at_call 12
    refine (reqInts_b s.v s.v Ax Aq lv cx lv cq true (Lib.hid (by simp)) _ HZX7.out HZQ.out).mono ?_
    rintro e w8 ⟨rfl, hb⟩
    have HB8 := Lib.hid (HB7.out.trans (hb.mono HB7.out.size))
    clear hb
    go_wp2_with fail
    go_ret
    exact ⟨rfl, HB8.out⟩
  · skip
    go_wp2_with fail
    go_at_call 10
    refine (Final_b vs hs ks Av lv cv Ag lg cg Ay ly cy S P R As ls cs Ap lp cp Ar lr cr _ (HV.out.below HB3.out) (HHS.out.below HB3.out) HL.out (HK.out.below HB3.out) (by omega) (by omega) (by have := HCN.out; omega) (HZS.out.below HB3.out) (HZP.out.below HB3.out) (HZR.out.below HB3.out) r s vals HSC HSE).mono ?_
    rintro e w5 ⟨hb, hor⟩
    obtain ⟨_, rfl⟩ | ⟨h, _⟩ := hor
    rotate_left
    · exact absurd h hr0
    have HR0 := Lib.hid hr0
    clear hr0
    have HB5 := Lib.hid (HB3.out.trans (hb.mono HB3.out.size))
    have HC5 := Lib.hid (HC3.out.next hb)
    have HI5 := Lib.hid (HI3.out.next hb)
    clear hb HB3 HC3 HI3 n0 n1 n2 i0 i1 i2
    have n0 := HC5.out.at 0 _ rfl; have i0 := HI5.out.at 0 _ rfl; have n1 := HC5.out.at 1 _ rfl; have i1 := HI5.out.at 1 _ rfl; have n2 := HC5.out.at 2 _ rfl; have i2 := HI5.out.at 2 _ rfl
    go_wp2_with fail
    go_at_call 11
    refine (rPlay_b vs hs ks Av lv cv Ag lg cg Ay ly cy S P R As ls cs Ap lp cp Ar lr cr _ (HV.out.below HB5.out) (HHS.out.below HB5.out) HL.out (HK.out.below HB5.out) (by omega) (by omega) (by have := HCN.out; omega) (HZS.out.below HB5.out) (HZP.out.below HB5.out) (HZR.out.below HB5.out) r s vals HSC HSE).mono ?_
    rintro e w6 ⟨hb0, hor⟩
    obtain ⟨_, rfl⟩ | ⟨h, _⟩ := hor
    rotate_left
    · exact absurd h HR0.out
    have hb := hb0.alloc hb0.size (.cells #[.slice none 0 0, .slice none 0 0, .int .i64 0] 42)
    have HP7 := Lib.hid (Cs.new w6 #[.slice none 0 0, .slice none 0 0, .int .i64 0] 42)
    clear hb0
    have HB7 := Lib.hid (HB5.out.trans (hb.mono HB5.out.size))
    have HC7 := Lib.hid (HC5.out.next hb)
    have HI7 := Lib.hid (HI5.out.next hb)
    clear hb HB5 HC5 HI5 n0 n1 n2 i0 i1 i2
    go_upto_region 7 with fail
    obtain ⟨w7, hw7⟩ : ∃ w7, w6.alloc (.cells #[.slice none 0 0, .slice none 0 0, .int .i64 0] 42) = w7 := ⟨_, rfl⟩
    obtain ⟨qp, hqp⟩ : ∃ q, w6.heap.size = q := ⟨_, rfl⟩
    rw [hw7] at HB7 HC7 HI7 HP7 
    rw [hqp] at HP7
    rw [hw7, hqp]
    clear hw7 hqp
    have p0 := HP7.out.at 0 _ rfl
    have hrr : (r == r) = true := by simp
    go_wp2_with fail
    go_at_call 12
    refine (reqInts_b [] [] none none 0 0 0 0 true (Lib.hid (by simp)) _ (Zs.nil _) (Zs.nil _)).mono ?_
    rintro e w8 ⟨rfl, hb⟩
    have HB8 := Lib.hid (HB7.out.trans (hb.mono HB7.out.size))
    clear hb
    go_wp2_with fail
    go_ret
    exact ⟨rfl, HB8.out⟩
end Go.Proofs.YtjpjmoejdkmglaaGreat
