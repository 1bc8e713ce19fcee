/-
  The walk over the reference's Run.
  The walk over the law FlatRuns.
-/
import Derived.Test.YtjpjmoejdkmglaaGreatFlEf
import Derived.Test.YtjpjmoejdkmglaaGreatFlQs
import Derived.Test.YtjpjmoejdkmglaaGreatJE
namespace Go.Proofs.YtjpjmoejdkmglaaGreat
open Go.RowKit

theorem keeps_2 {S : Nat → Prop} {b : Nat} {W : World} (hb : ∀ k, S k → b ≠ k) (v0 v1 : Value) : Keeps S S W ((W.setCell ⟨b, 0, none⟩ v0).setCell ⟨b, 1, none⟩ v1) :=
  (keeps_set v0 hb).trans (keeps_set v1 hb)
set_option maxRecDepth 100000 in
set_option maxHeartbeats 8000000 in
theorem rRun_b (vs : List Vr) (hs : List Ht) (ks : List Sp) (Av : Option Addr) (lv cv : Nat) (Ag : Option Addr) (lg cg : Nat) (Ay : Option Addr) (ly cy : Nat) (S P R : List Int) (As : Option Addr) (ls cs : Nat) (Ap : Option Addr) (lp cp : Nat) (Ar : Option Addr) (lr cr : Nat) (w : World) (hv : VOk w Av lv cv vs) (hh : HOk w Ag lg cg hs) (hl : ks.length = ly) (hk : SOk w Ay cy ks) (hlv : lv ≤ 1000) (hlg : lg ≤ 1000) (hbd : hcnt hs + Sp.cntL ks ≤ 90000)
    (hzs : Zs w As ls cs S) (hzp : Zs w Ap lp cp P) (hzr : Zs w Ar lr cr R) (r : Int) (s : Ms) (vals : List Int) (H : Hid (startC vs hs ks ⟨S, P, R⟩ = (r, vals))) (HE : Hid (endM vs hs ks vals = s)) :
    Calls Tryz.prog 8 #[.agg #[.slice Av lv cv, .slice Ag lg cg, .slice Ay ly cy], .agg #[.slice As ls cs, .slice Ap lp cp, .slice Ar lr cr]] w (Ended w r s) := by
  have HBD := Lib.hid hbd
  have HL := Lib.hid hl
  have HHL := Lib.hid hh.len
  have hb1 := (Below.refl w.heap.size w).alloc (Nat.le_refl _) (.cells #[.slice Av lv cv, .slice Ag lg cg, .slice Ay ly cy] 26)
  have hb2 := hb1.alloc hb1.size (.cells #[.slice As ls cs, .slice Ap lp cp, .slice Ar lr cr] 29)
  have hb3 := hb2.alloc hb2.size (.cells #[.slice none 0 0, .int .i64 0] 33)
  have HC := Lib.hid (((Cs.new w #[.slice Av lv cv, .slice Ag lg cg, .slice Ay ly cy] 26).alloc (.cells #[.slice As ls cs, .slice Ap lp cp, .slice Ar lr cr] 29)).alloc (.cells #[.slice none 0 0, .int .i64 0] 33))
  have HI := Lib.hid ((Cs.new1 w (.cells #[.slice Av lv cv, .slice Ag lg cg, .slice Ay ly cy] 26) #[.slice As ls cs, .slice Ap lp cp, .slice Ar lr cr] 29).alloc (.cells #[.slice none 0 0, .int .i64 0] 33))
  have HO : Hid (Cs (((w.alloc (.cells #[.slice Av lv cv, .slice Ag lg cg, .slice Ay ly cy] 26)).alloc (.cells #[.slice As ls cs, .slice Ap lp cp, .slice Ar lr cr] 29)).alloc (.cells #[.slice none 0 0, .int .i64 0] 33)) (w.heap.size + 1 + 1) [.slice none 0 0, .int .i64 0]) := Lib.hid (Cs.newAt (W := ((w.alloc (.cells #[.slice Av lv cv, .slice Ag lg cg, .slice Ay ly cy] 26)).alloc (.cells #[.slice As ls cs, .slice Ap lp cp, .slice Ar lr cr] 29))) #[.slice none 0 0, .int .i64 0] 33 (by simp))
  have HB := Lib.hid hb3
  have HV := Lib.hid (hv.below hb3)
  have HHS := Lib.hid (hh.below hb3)
  have HK := Lib.hid (hk.below hb3)
  have HZS := Lib.hid (hzs.below hb3)
  have HZP := Lib.hid (hzp.below hb3)
  have HZR := Lib.hid (hzr.below hb3)
  clear hv hh hk hl hbd hzs hzp hzr hb1 hb2 hb3
  go_enter Tryz.func8, Tryz.ntmps8
  go_upto_region 1 with fail
  obtain ⟨w1, hw1⟩ : ∃ w1, ((w.alloc (.cells #[.slice Av lv cv, .slice Ag lg cg, .slice Ay ly cy] 26)).alloc (.cells #[.slice As ls cs, .slice Ap lp cp, .slice Ar lr cr] 29)).alloc (.cells #[.slice none 0 0, .int .i64 0] 33) = w1 := ⟨_, rfl⟩
  rw [hw1] at HB HC HI HO HV HHS HK HZS HZP HZR
  rw [hw1]
  clear hw1
  have n0 := HC.out.at 0 _ rfl; have i0 := HI.out.at 0 _ rfl; have n1 := HC.out.at 1 _ rfl; have i1 := HI.out.at 1 _ rfl; have n2 := HC.out.at 2 _ rfl; have i2 := HI.out.at 2 _ rfl
  go_wp2_with fail
  go_at_call 11
  refine (rPlay_b vs hs ks Av lv cv Ag lg cg Ay ly cy S P R As ls cs Ap lp cp Ar lr cr _ HV.out HHS.out HL.out HK.out hlv hlg HBD.out HZS.out HZP.out HZR.out r s vals H HE).mono ?_
  rintro e w2 ⟨hb, hor⟩
  clear n0 n1 n2 i0 i1 i2
  rcases hor with ⟨hr, rfl⟩ | ⟨rfl, Ax, cx, Ao, co, rfl, hzx, hzo⟩
  · have hbn := bne_of hr
    have HR := Lib.hid hr
    have hba := hb.alloc hb.size (.cells #[.slice none 0 0, .slice none 0 0, .int .i64 0] 42)
    have HO2 := Lib.hid (HO.out.next hba)
    have HB2 := Lib.hid (HB.out.trans (hba.mono HB.out.size))
    clear hr hb hba
    go_upto_region 2 with fail
    obtain ⟨w3, hw3⟩ : ∃ w3, w2.alloc (.cells #[.slice none 0 0, .slice none 0 0, .int .i64 0] 42) = w3 := ⟨_, rfl⟩
    rw [hw3] at HO2 HB2
    rw [hw3]
    clear hw3
    have o0 := HO2.out.at 0 _ rfl; have of0 := HO2.out.free 0; have o1 := HO2.out.at 1 _ rfl; have of1 := HO2.out.free 1; have hol := HO2.out.lt
    go_wp2_with fail
    have HFF := ((HO2.out.set 0 (.slice none 0 0) (by simp)).set 1 (.int .i64 0) (by simp))
    have z0 := HFF.at 0 _ rfl
    have z1 := HFF.at 1 _ rfl
    refine bodyPost_ret (v := .tuple #[.agg #[.slice none 0 0, .int .i64 0], .int .i64 r]) (by simp [results, Tryz.results8, go_sem, z0, z1]) rfl ?_
    exact ⟨((HB2.out.setCell (p := ⟨w.heap.size + 1 + 1, 0, none⟩) (by simp only; omega) _).setCell (p := ⟨w.heap.size + 1 + 1, 1, none⟩) (by simp only; omega) _), .inl ⟨HR.out, rfl⟩⟩
  · have hba := hb.alloc hb.size (.cells #[.slice Ax lv cx, .slice Ao s.o.length co, .int .i64 s.t] 42)
    have hbx := (Below.refl w2.heap.size w2).alloc (Nat.le_refl _) (.cells #[.slice Ax lv cx, .slice Ao s.o.length co, .int .i64 s.t] 42)
    have HO2 := Lib.hid (HO.out.next hba)
    have HB2 := Lib.hid (HB.out.trans (hba.mono HB.out.size))
    have HZO := Lib.hid (hzo.to (Keeps.below hbx))
    have HT := Lib.hid (Cs.new w2 #[.slice Ax lv cx, .slice Ao s.o.length co, .int .i64 s.t] 42)
    have HLT : Hid (w.heap.size + 1 + 1 < w1.heap.size) := Lib.hid HO.out.lt
    clear hb hba hbx hzx hzo
    go_upto_region 2 with fail
    obtain ⟨w3, hw3⟩ : ∃ w3, w2.alloc (.cells #[.slice Ax lv cx, .slice Ao s.o.length co, .int .i64 s.t] 42) = w3 := ⟨_, rfl⟩
    obtain ⟨q, hq⟩ : ∃ q, w2.heap.size = q := ⟨_, rfl⟩
    rw [hw3] at HO2 HB2 HZO HT
    rw [hq] at HT
    rw [hw3, hq]
    clear hw3 hq
    have t1 := HT.out.at 1 _ rfl
    have t2 := HT.out.at 2 _ rfl
    have o0 := HO2.out.at 0 _ rfl; have of0 := HO2.out.free 0; have o1 := HO2.out.at 1 _ rfl; have of1 := HO2.out.free 1; have hol := HO2.out.lt
    go_wp2_with fail
    have HFF := ((HO2.out.set 0 (.slice Ao s.o.length co) (by simp)).set 1 (.int .i64 s.t) (by simp))
    have z0 := HFF.at 0 _ rfl
    have z1 := HFF.at 1 _ rfl
    refine bodyPost_ret (v := .tuple #[.agg #[.slice Ao s.o.length co, .int .i64 s.t], .int .i64 0]) (by simp [results, Tryz.results8, go_sem, z0, z1]) rfl ?_
    exact ⟨((HB2.out.setCell (p := ⟨w.heap.size + 1 + 1, 0, none⟩) (by simp only; omega) _).setCell (p := ⟨w.heap.size + 1 + 1, 1, none⟩) (by simp only; omega) _), .inr ⟨rfl, Ao, co, rfl, (HZO.out.to (keeps_2 (fun b hb => by have := HLT.out; omega) _ _)).1⟩⟩

set_option maxRecDepth 100000 in
set_option maxHeartbeats 8000000 in
theorem runs_walk (vs : List Vr) (hs : List Ht) (ks : List Sp) (Av : Option Addr) (lv cv : Nat) (Ag : Option Addr) (lg cg : Nat) (Ay : Option Addr) (ly cy : Nat) (S P R : List Int) (As : Option Addr) (ls cs : Nat) (Ap : Option Addr) (lp cp : Nat) (Ar : Option Addr) (lr cr : Nat) (w : World) (hv : VOk w Av lv cv vs) (hh : HOk w Ag lg cg hs) (hl : ks.length = ly) (hk : SOk w Ay cy ks) (hzs : Zs w As ls cs S) (hzp : Zs w Ap lp cp P) (hzr : Zs w Ar lr cr R) :
    Calls Tryz.prog 3 #[.agg #[.slice Av lv cv, .slice Ag lg cg, .slice Ay ly cy], .agg #[.slice As ls cs, .slice Ap lp cp, .slice Ar lr cr]] w fun e w' => e = .returned (.bool true) ∧ Below w.heap.size w w' := by
  have hb1 := (Below.refl w.heap.size w).alloc (Nat.le_refl _) (.cells #[.slice Av lv cv, .slice Ag lg cg, .slice Ay ly cy] 26)
  have hb2 := hb1.alloc hb1.size (.cells #[.slice As ls cs, .slice Ap lp cp, .slice Ar lr cr] 29)
  have HB := Lib.hid hb2
  have HC := Lib.hid ((Cs.new w #[.slice Av lv cv, .slice Ag lg cg, .slice Ay ly cy] 26).alloc (.cells #[.slice As ls cs, .slice Ap lp cp, .slice Ar lr cr] 29))
  have HI := Lib.hid (Cs.new1 w (.cells #[.slice Av lv cv, .slice Ag lg cg, .slice Ay ly cy] 26) #[.slice As ls cs, .slice Ap lp cp, .slice Ar lr cr] 29)
  have HV := Lib.hid hv
  have HHS := Lib.hid hh
  have HK := Lib.hid hk
  have HL := Lib.hid hl
  have HVL := Lib.hid hv.len
  have HHL := Lib.hid hh.len
  have HZS := Lib.hid hzs
  have HZP := Lib.hid hzp
  have HZR := Lib.hid hzr
  obtain ⟨b, hbf⟩ : ∃ z, fewB vs hs ks 70 1100 = z := ⟨_, rfl⟩
  obtain ⟨⟨r, vals⟩, hsc⟩ : ∃ z, startC vs hs ks ⟨S, P, R⟩ = z := ⟨_, rfl⟩
  obtain ⟨s, hse⟩ : ∃ z, endM vs hs ks vals = z := ⟨_, rfl⟩
  have HFW := Lib.hid hbf
  have HSC := Lib.hid hsc
  have HSE := Lib.hid hse
  clear hb1 hb2 hv hh hk hl hzs hzp hzr hbf hsc hse
  go_enter Tryz.func3, Tryz.ntmps3
  go_upto_region 1 with fail
  obtain ⟨w1, hw1⟩ : ∃ w1, (w.alloc (.cells #[.slice Av lv cv, .slice Ag lg cg, .slice Ay ly cy] 26)).alloc (.cells #[.slice As ls cs, .slice Ap lp cp, .slice Ar lr cr] 29) = w1 := ⟨_, rfl⟩
  rw [hw1] at HB HC HI
  rw [hw1]
  clear hw1
  go_wp2_with fail
  go_at_call 5
  refine (known_b _).mono ?_
  rintro e w2 ⟨rfl, hb⟩
  have HB2 := Lib.hid (HB.out.trans (hb.mono HB.out.size))
  have HC2 := Lib.hid (HC.out.next hb)
  have HI2 := Lib.hid (HI.out.next hb)
  clear hb HB HC HI 
  have n0 := HC2.out.at 0 _ rfl; have i0 := HI2.out.at 0 _ rfl; have n1 := HC2.out.at 1 _ rfl; have i1 := HI2.out.at 1 _ rfl; have n2 := HC2.out.at 2 _ rfl; have i2 := HI2.out.at 2 _ rfl
  go_wp2_with fail
  go_at_call 6
  refine (Few_b vs hs ks 70 1100 Av lv cv Ag lg cg Ay ly cy _ HVL.out (HHS.out.below HB2.out) HL.out (HK.out.below HB2.out) (by omega) (by omega) (by omega) b HFW).mono ?_
  rintro e w3 ⟨rfl, hb⟩
  have HB3 := Lib.hid (HB2.out.trans (hb.mono HB2.out.size))
  have HC3 := Lib.hid (HC2.out.next hb)
  have HI3 := Lib.hid (HI2.out.next hb)
  clear hb HB2 HC2 HI2 n0 n1 n2 i0 i1 i2
  have n0 := HC3.out.at 0 _ rfl; have i0 := HI3.out.at 0 _ rfl; have n1 := HC3.out.at 1 _ rfl; have i1 := HI3.out.at 1 _ rfl; have n2 := HC3.out.at 2 _ rfl; have i2 := HI3.out.at 2 _ rfl
  cases b with
  | false =>
    go_wp2_with fail
    go_ret
    exact ⟨rfl, HB3.out⟩
  | true =>
  obtain ⟨hm1, hm2, hm3⟩ := few_small HFW.out
  have hlv : lv ≤ 70 := by have := HVL.out; omega
  have hlg : lg ≤ 70 := by have := HHL.out; omega
  have HCN : Hid (hcnt hs + Sp.cntL ks ≤ 1100) := Lib.hid (by omega)
  clear hm1 hm2 hm3
  by_cases hr0 : r = 0
  · subst hr0
    go_wp2_with fail
    go_at_call 7
    refine (Run_b vs hs ks Av lv cv Ag lg cg Ay ly cy S P R As ls cs Ap lp cp Ar lr cr _ (HV.out.below HB3.out) (HHS.out.below HB3.out) HL.out (HK.out.below HB3.out) (by omega) (by have := HCN.out; omega) (HZS.out.below HB3.out) (HZP.out.below HB3.out) (HZR.out.below HB3.out) 0 s vals HSC HSE).mono ?_
    rintro e w4 ⟨hb0, hor⟩
    obtain ⟨h, _⟩ | ⟨_, Ao, co, rfl, hzo⟩ := hor
    · exact absurd rfl h
    have hb := hb0.alloc hb0.size (.cells #[.slice Ao s.o.length co, .int .i64 s.t] 33)
    have HO5 := Lib.hid (Cs.new w4 #[.slice Ao s.o.length co, .int .i64 s.t] 33)
    have HZO := Lib.hid (hzo.below ((Below.refl w4.heap.size w4).alloc (Nat.le_refl _) (.cells #[.slice Ao s.o.length co, .int .i64 s.t] 33)))
    clear hzo
    clear hb0
    have HB5 := Lib.hid (HB3.out.trans (hb.mono HB3.out.size))
    have HC5 := Lib.hid (HC3.out.next hb)
    have HI5 := Lib.hid (HI3.out.next hb)
    clear hb HB3 HC3 HI3 n0 n1 n2 i0 i1 i2
    go_upto_region 6 with fail
    obtain ⟨w5, hw5⟩ : ∃ w5, w4.alloc (.cells #[.slice Ao s.o.length co, .int .i64 s.t] 33) = w5 := ⟨_, rfl⟩
    obtain ⟨q, hq⟩ : ∃ q, w4.heap.size = q := ⟨_, rfl⟩
    rw [hw5] at HB5 HC5 HI5 HO5 HZO
    rw [hq] at HO5
    rw [hw5, hq]
    clear hw5 hq
    have n0 := HC5.out.at 0 _ rfl; have i0 := HI5.out.at 0 _ rfl; have n1 := HC5.out.at 1 _ rfl; have i1 := HI5.out.at 1 _ rfl; have n2 := HC5.out.at 2 _ rfl; have i2 := HI5.out.at 2 _ rfl
    go_wp2_with fail
    go_at_call 8
    refine (rRun_b vs hs ks Av lv cv Ag lg cg Ay ly cy S P R As ls cs Ap lp cp Ar lr cr _ (HV.out.below HB5.out) (HHS.out.below HB5.out) HL.out (HK.out.below HB5.out) (by omega) (by omega) (by have := HCN.out; omega) (HZS.out.below HB5.out) (HZP.out.below HB5.out) (HZR.out.below HB5.out) 0 s vals HSC HSE).mono ?_
    rintro e w6 ⟨hb0, hor⟩
    obtain ⟨h, _⟩ | ⟨_, Aq, cq, rfl, hzq⟩ := hor
    · exact absurd rfl h
    have hb := hb0.alloc hb0.size (.cells #[.slice Aq s.o.length cq, .int .i64 s.t] 33)
    have HP7 := Lib.hid (Cs.new w6 #[.slice Aq s.o.length cq, .int .i64 s.t] 33)
    have HZO7 := Lib.hid (HZO.out.below hb)
    have HZQ := Lib.hid (hzq.below ((Below.refl w6.heap.size w6).alloc (Nat.le_refl _) (.cells #[.slice Aq s.o.length cq, .int .i64 s.t] 33)))
    clear hzq HZO
    clear hb0
    have HB7 := Lib.hid (HB5.out.trans (hb.mono HB5.out.size))
    have HC7 := Lib.hid (HC5.out.next hb)
    have HI7 := Lib.hid (HI5.out.next hb)
    have HO7 := Lib.hid (HO5.out.next hb)
    clear hb HB5 HC5 HI5 HO5 n0 n1 n2 i0 i1 i2
    go_upto_region 7 with fail
    obtain ⟨w7, hw7⟩ : ∃ w7, w6.alloc (.cells #[.slice Aq s.o.length cq, .int .i64 s.t] 33) = w7 := ⟨_, rfl⟩
    obtain ⟨qp, hqp⟩ : ∃ q, w6.heap.size = q := ⟨_, rfl⟩
    rw [hw7] at HB7 HC7 HI7 HO7 HP7 HZO7 HZQ
    rw [hqp] at HP7
    rw [hw7, hqp]
    clear hw7 hqp
    have o0 := HO7.out.at 0 _ rfl
    have o1 := HO7.out.at 1 _ rfl
    have p0 := HP7.out.at 0 _ rfl
    have p1 := HP7.out.at 1 _ rfl
    have hrr : ((0 : Int) == 0) = true := rfl
    go_wp2_with fail
    go_at_call 9
    refine (Same_b s.o s.o s.t s.t Ao Aq s.o.length co s.o.length cq true (Lib.hid (by simp)) _ HZO7.out HZQ.out).mono ?_
    rintro e w8 ⟨rfl, hb⟩
    have HB8 := Lib.hid (HB7.out.trans (hb.mono HB7.out.size))
    clear hb
    go_wp2_with fail
    go_ret
    exact ⟨rfl, HB8.out⟩
  · skip
    go_wp2_with fail
    go_at_call 7
    refine (Run_b vs hs ks Av lv cv Ag lg cg Ay ly cy S P R As ls cs Ap lp cp Ar lr cr _ (HV.out.below HB3.out) (HHS.out.below HB3.out) HL.out (HK.out.below HB3.out) (by omega) (by have := HCN.out; omega) (HZS.out.below HB3.out) (HZP.out.below HB3.out) (HZR.out.below HB3.out) r s vals HSC HSE).mono ?_
    rintro e w4 ⟨hb0, hor⟩
    obtain ⟨_, rfl⟩ | ⟨h, _⟩ := hor
    rotate_left
    · exact absurd h hr0
    have hb := hb0.alloc hb0.size (.cells #[.slice none 0 0, .int .i64 0] 33)
    have HO5 := Lib.hid (Cs.new w4 #[.slice none 0 0, .int .i64 0] 33)
    have HR0 := Lib.hid hr0
    clear hr0
    clear hb0
    have HB5 := Lib.hid (HB3.out.trans (hb.mono HB3.out.size))
    have HC5 := Lib.hid (HC3.out.next hb)
    have HI5 := Lib.hid (HI3.out.next hb)
    clear hb HB3 HC3 HI3 n0 n1 n2 i0 i1 i2
    go_upto_region 6 with fail
    obtain ⟨w5, hw5⟩ : ∃ w5, w4.alloc (.cells #[.slice none 0 0, .int .i64 0] 33) = w5 := ⟨_, rfl⟩
    obtain ⟨q, hq⟩ : ∃ q, w4.heap.size = q := ⟨_, rfl⟩
    rw [hw5] at HB5 HC5 HI5 HO5 
    rw [hq] at HO5
    rw [hw5, hq]
    clear hw5 hq
    have n0 := HC5.out.at 0 _ rfl; have i0 := HI5.out.at 0 _ rfl; have n1 := HC5.out.at 1 _ rfl; have i1 := HI5.out.at 1 _ rfl; have n2 := HC5.out.at 2 _ rfl; have i2 := HI5.out.at 2 _ rfl
    go_wp2_with fail
    go_at_call 8
    refine (rRun_b vs hs ks Av lv cv Ag lg cg Ay ly cy S P R As ls cs Ap lp cp Ar lr cr _ (HV.out.below HB5.out) (HHS.out.below HB5.out) HL.out (HK.out.below HB5.out) (by omega) (by omega) (by have := HCN.out; omega) (HZS.out.below HB5.out) (HZP.out.below HB5.out) (HZR.out.below HB5.out) r s vals HSC HSE).mono ?_
    rintro e w6 ⟨hb0, hor⟩
    obtain ⟨_, rfl⟩ | ⟨h, _⟩ := hor
    rotate_left
    · exact absurd h HR0.out
    have hb := hb0.alloc hb0.size (.cells #[.slice none 0 0, .int .i64 0] 33)
    have HP7 := Lib.hid (Cs.new w6 #[.slice none 0 0, .int .i64 0] 33)
    clear hb0
    have HB7 := Lib.hid (HB5.out.trans (hb.mono HB5.out.size))
    have HC7 := Lib.hid (HC5.out.next hb)
    have HI7 := Lib.hid (HI5.out.next hb)
    have HO7 := Lib.hid (HO5.out.next hb)
    clear hb HB5 HC5 HI5 HO5 n0 n1 n2 i0 i1 i2
    go_upto_region 7 with fail
    obtain ⟨w7, hw7⟩ : ∃ w7, w6.alloc (.cells #[.slice none 0 0, .int .i64 0] 33) = w7 := ⟨_, rfl⟩
    obtain ⟨qp, hqp⟩ : ∃ q, w6.heap.size = q := ⟨_, rfl⟩
    rw [hw7] at HB7 HC7 HI7 HO7 HP7 
    rw [hqp] at HP7
    rw [hw7, hqp]
    clear hw7 hqp
    have o0 := HO7.out.at 0 _ rfl
    have o1 := HO7.out.at 1 _ rfl
    have p0 := HP7.out.at 0 _ rfl
    have p1 := HP7.out.at 1 _ rfl
    have hrr : (r == r) = true := by simp
    go_wp2_with fail
    go_at_call 9
    refine (Same_b [] [] 0 0 none none 0 0 0 0 true (Lib.hid (by simp)) _ (Zs.nil _) (Zs.nil _)).mono ?_
    rintro e w8 ⟨rfl, hb⟩
    have HB8 := Lib.hid (HB7.out.trans (hb.mono HB7.out.size))
    clear hb
    go_wp2_with fail
    go_ret
    exact ⟨rfl, HB8.out⟩
end Go.Proofs.YtjpjmoejdkmglaaGreat
