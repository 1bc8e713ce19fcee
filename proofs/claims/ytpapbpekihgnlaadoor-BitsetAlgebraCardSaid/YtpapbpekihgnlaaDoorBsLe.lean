/-
  The walk over BitsetAlgebra.
-/
import Derived.Test.YtpapbpekihgnlaaDoorBsZd
namespace Go.Proofs.YtpapbpekihgnlaaDoor
open Go.RowKit

set_option maxRecDepth 100000 in
set_option maxHeartbeats 4000000 in
theorem algebra_b (n0 : Int) (A0 : Option Addr) (l0 c0 : Nat) (ws0 : List Nat) (n1 : Int) (A1 : Option Addr) (l1 c1 : Nat) (ws1 : List Nat) (n2 : Int) (A2 : Option Addr) (l2 c2 : Nat) (ws2 : List Nat) (w : World) (hT : Tabs w) (hw0 : Wd w A0 l0 c0 ws0) (hw1 : Wd w A1 l1 c1 ws1) (hw2 : Wd w A2 l2 c2 ws2) :
    Calls Tryd.prog 8 #[.agg #[.int .i64 n0, .slice A0 l0 c0], .agg #[.int .i64 n1, .slice A1 l1 c1], .agg #[.int .i64 n2, .slice A2 l2 c2]] w fun e w' => e = .returned (.bool true) ∧ Below w.heap.size w w' := by
  have hlm0 : l0 ≤ 9223372036854775807 := by have h1 := hw0.cap; have h2 := hw0.big; unfold maxLen at h2; omega
  have HW0 := Lib.hid hw0
  have hlm1 : l1 ≤ 9223372036854775807 := by have h1 := hw1.cap; have h2 := hw1.big; unfold maxLen at h2; omega
  have HW1 := Lib.hid hw1
  have hlm2 : l2 ≤ 9223372036854775807 := by have h1 := hw2.cap; have h2 := hw2.big; unfold maxLen at h2; omega
  have HW2 := Lib.hid hw2
  have HT := Lib.hid hT
  have HX := Lib.hid ((boxT_below w n0 A0 l0 c0 n1 A1 l1 c1).alloc (boxT_below w n0 A0 l0 c0 n1 A1 l1 c1).size (.cells #[.int .i64 n2, .slice A2 l2 c2] 24))
  have hcn := Cs.new (boxT w n0 A0 l0 c0 n1 A1 l1 c1) #[.int .i64 n2, .slice A2 l2 c2] 24
  rw [boxT_size] at hcn
  have HCS0 := Lib.hid ((boxT_cs w n0 A0 l0 c0 n1 A1 l1 c1).1.alloc (.cells #[.int .i64 n2, .slice A2 l2 c2] 24))
  have HCS1 := Lib.hid ((boxT_cs w n0 A0 l0 c0 n1 A1 l1 c1).2.alloc (.cells #[.int .i64 n2, .slice A2 l2 c2] 24))
  have HCS2 := Lib.hid (hcn)
  clear hT hw0 hw1 hw2 hcn
  go_enter Tryd.func8, Tryd.ntmps8
  go_wp2_with fail
  go_at_call 12
  refine (known_b _ (HT.out.below HX.out)).mono ?_
  rintro e v0 ⟨rfl, hb⟩
  have HB := Lib.hid (HX.out.trans (hb.mono HX.out.size))
  have HS : Hid (Sets v0 [⟨w.heap.size, n0, A0, l0, c0, ws0⟩, ⟨w.heap.size + 1, n1, A1, l1, c1, ws1⟩, ⟨w.heap.size + 2, n2, A2, l2, c2, ws2⟩]) := ⟨⟨HCS0.out.next hb, HW0.out.below HB.out⟩, ⟨HCS1.out.next hb, HW1.out.below HB.out⟩, ⟨HCS2.out.next hb, HW2.out.below HB.out⟩, trivial⟩
  clear hb HX HCS0 HCS1 HCS2
  have q0a := HS.out.hd.c0
  have q0b := HS.out.hd.c1
  have q1a := HS.out.tl.hd.c0
  have q1b := HS.out.tl.hd.c1
  have q2a := HS.out.tl.tl.hd.c0
  have q2b := HS.out.tl.tl.hd.c1
  by_cases h640 : 64 < l0
  · have hd0 : decide ((64 : Int) < (l0 : Int)) = true := decide_eq_true (by omega)
    have he0 : (64 : Int) < (l0 : Int) := by omega
    go_wp2_with fail
    go_ret
    exact ⟨rfl, HB.out⟩
  have hd0 : decide ((64 : Int) < (l0 : Int)) = false := decide_eq_false (by omega)
  have he0 : ¬ ((64 : Int) < (l0 : Int)) := by omega
  by_cases h641 : 64 < l1
  · have hd1 : decide ((64 : Int) < (l1 : Int)) = true := decide_eq_true (by omega)
    have he1 : (64 : Int) < (l1 : Int) := by omega
    go_wp2_with fail
    go_ret
    exact ⟨rfl, HB.out⟩
  have hd1 : decide ((64 : Int) < (l1 : Int)) = false := decide_eq_false (by omega)
  have he1 : ¬ ((64 : Int) < (l1 : Int)) := by omega
  by_cases h642 : 64 < l2
  · have hd2 : decide ((64 : Int) < (l2 : Int)) = true := decide_eq_true (by omega)
    have he2 : (64 : Int) < (l2 : Int) := by omega
    go_wp2_with fail
    go_ret
    exact ⟨rfl, HB.out⟩
  have hd2 : decide ((64 : Int) < (l2 : Int)) = false := decide_eq_false (by omega)
  have he2 : ¬ ((64 : Int) < (l2 : Int)) := by omega
  obtain ⟨t0, ht0⟩ : ∃ v, Bs.vld n0 ws0 = v := ⟨_, rfl⟩
  have HV0 := Lib.hid ht0
  clear ht0
  go_wp2_with fail
  go_at_call 19
  refine (rvalid_b n0 A0 l0 c0 ws0 t0 HV0 _ HS.out.hd.wd).mono ?_
  rintro e x0 ⟨rfl, hb⟩
  have HSn := Lib.hid (HS.out.next hb)
  have HBn := Lib.hid (HB.out.trans (hb.mono HB.out.size))
  clear hb HS HB
  clear q0a q0b q1a q1b q2a q2b
  rename Hid (Sets _ _) => HS
  rename Hid (Below w.heap.size w _) => HB
  have q0a := HS.out.hd.c0
  have q0b := HS.out.hd.c1
  have q1a := HS.out.tl.hd.c0
  have q1b := HS.out.tl.hd.c1
  have q2a := HS.out.tl.tl.hd.c0
  have q2b := HS.out.tl.tl.hd.c1
  cases t0
  case false =>
    go_wp2_with fail
    go_ret
    exact ⟨rfl, HB.out⟩
  obtain ⟨t1, ht1⟩ : ∃ v, Bs.vld n1 ws1 = v := ⟨_, rfl⟩
  have HV1 := Lib.hid ht1
  clear ht1
  go_wp2_with fail
  go_at_call 19
  refine (rvalid_b n1 A1 l1 c1 ws1 t1 HV1 _ HS.out.tl.hd.wd).mono ?_
  rintro e x1 ⟨rfl, hb⟩
  have HSn := Lib.hid (HS.out.next hb)
  have HBn := Lib.hid (HB.out.trans (hb.mono HB.out.size))
  clear hb HS HB
  clear q0a q0b q1a q1b q2a q2b
  rename Hid (Sets _ _) => HS
  rename Hid (Below w.heap.size w _) => HB
  have q0a := HS.out.hd.c0
  have q0b := HS.out.hd.c1
  have q1a := HS.out.tl.hd.c0
  have q1b := HS.out.tl.hd.c1
  have q2a := HS.out.tl.tl.hd.c0
  have q2b := HS.out.tl.tl.hd.c1
  cases t1
  case false =>
    go_wp2_with fail
    go_ret
    exact ⟨rfl, HB.out⟩
  obtain ⟨t2, ht2⟩ : ∃ v, Bs.vld n2 ws2 = v := ⟨_, rfl⟩
  have HV2 := Lib.hid ht2
  clear ht2
  go_wp2_with fail
  go_at_call 19
  refine (rvalid_b n2 A2 l2 c2 ws2 t2 HV2 _ HS.out.tl.tl.hd.wd).mono ?_
  rintro e x2 ⟨rfl, hb⟩
  have HSn := Lib.hid (HS.out.next hb)
  have HBn := Lib.hid (HB.out.trans (hb.mono HB.out.size))
  clear hb HS HB
  clear q0a q0b q1a q1b q2a q2b
  rename Hid (Sets _ _) => HS
  rename Hid (Below w.heap.size w _) => HB
  have q0a := HS.out.hd.c0
  have q0b := HS.out.hd.c1
  have q1a := HS.out.tl.hd.c0
  have q1b := HS.out.tl.hd.c1
  have q2a := HS.out.tl.tl.hd.c0
  have q2b := HS.out.tl.tl.hd.c1
  cases t2
  case false =>
    go_wp2_with fail
    go_ret
    exact ⟨rfl, HB.out⟩
  by_cases hn1 : n0 = n1
  case neg =>
    have hdn1 : (n0 != n1) = true := by simp [hn1]
    go_wp2_with fail
    go_ret
    exact ⟨rfl, HB.out⟩
  subst hn1
  by_cases hn2 : n0 = n2
  case neg =>
    have hdn2 : (n0 != n2) = true := by simp [hn2]
    go_wp2_with fail
    go_ret
    exact ⟨rfl, HB.out⟩
  subst hn2
  obtain ⟨m, rfl⟩ : ∃ m : Nat, n0 = m := ⟨n0.toNat, by have := (Bs.vld_iff.1 HV0.out).1; omega⟩
  have hm : m ≤ 4096 := Bs.vld_le HV0.out
  obtain ⟨L, hL⟩ : ∃ L, (m + 63) / 64 = L := ⟨_, rfl⟩
  have HL := Lib.hid hL
  clear hL
  have HI0 := Lib.hid (Is.of HV0.out HW0.out.fits)
  have HI1 := Lib.hid (Is.of HV1.out HW1.out.fits)
  have HI2 := Lib.hid (Is.of HV2.out HW2.out.fits)
  go_upto_region 5 with fail
  clear q0a q0b q1a q1b q2a q2b
  obtain ⟨W1, hI⟩ : ∃ W, Is m W (fun i => ((Bs.bit ws1 i) || (Bs.bit ws2 i))) := ⟨_, ⟨rfl⟩⟩
  have HJ1 := Lib.hid hI
  have HR1 := Lib.hid (Is.com (fun p q => p || q) HI1.out HI2.out hm hI)
  have HM1 : Hid (W1.length = L) := hI.len.trans HL.out
  clear hI
  have q1a := HS.out.tl.hd.c0
  have q1b := HS.out.tl.hd.c1
  have q2a := HS.out.tl.tl.hd.c0
  have q2b := HS.out.tl.tl.hd.c1
  go_wp2_with fail
  go_at_call 30
  refine (union_b (m : Int) A1 l1 c1 ws1 (m : Int) A2 l2 c2 ws2 ((m : Int), W1, 0) HR1 _ HS.out.tl.hd.wd HS.out.tl.tl.hd.wd).mono ?_
  rintro e v1 ⟨⟨B1, k1, rfl, hO⟩, hb⟩
  simp only [HM1.out] at hO ⊢
  obtain ⟨hs, hbb⟩ := HS.out.push HB.out (n := (m : Int)) hO hb
  have HSn := Lib.hid hs
  have HBn := Lib.hid hbb
  clear hO hb hs hbb HS HB q1a q1b q2a q2b
  go_upto_region 6 with fail
  obtain ⟨w1, hw⟩ : ∃ w1, v1.alloc (.cells #[.int .i64 (m : Int), .slice B1 L k1] 24) = w1 := ⟨_, rfl⟩
  obtain ⟨b1, hb⟩ : ∃ b, v1.heap.size = b := ⟨_, rfl⟩
  rw [hw, hb] at HSn
  rw [hw] at HBn
  rw [hw, hb]
  clear hw hb
  rename Hid (Sets _ _) => HS
  rename Hid (Below w.heap.size w _) => HB
  obtain ⟨W2, hI⟩ : ∃ W, Is m W (fun i => ((Bs.bit ws0 i) && (((Bs.bit ws1 i) || (Bs.bit ws2 i))))) := ⟨_, ⟨rfl⟩⟩
  have HJ2 := Lib.hid hI
  have HR2 := Lib.hid (Is.com (fun p q => p && q) HI0.out HJ1.out hm hI)
  have HM2 : Hid (W2.length = L) := hI.len.trans HL.out
  clear hI
  have q0a := HS.out.hd.c0
  have q0b := HS.out.hd.c1
  have q1a := HS.out.tl.hd.c0
  have q1b := HS.out.tl.hd.c1
  go_wp2_with fail
  go_at_call 31
  refine (intersect_b (m : Int) A0 l0 c0 ws0 (m : Int) B1 L k1 W1 ((m : Int), W2, 0) HR2 _ HS.out.tl.hd.wd HS.out.hd.wd).mono ?_
  rintro e v2 ⟨⟨B2, k2, rfl, hO⟩, hb⟩
  simp only [HM2.out] at hO ⊢
  obtain ⟨hs, hbb⟩ := HS.out.push HB.out (n := (m : Int)) hO hb
  have HSn := Lib.hid hs
  have HBn := Lib.hid hbb
  clear hO hb hs hbb HS HB q0a q0b q1a q1b
  go_upto_region 7 with fail
  obtain ⟨w2, hw⟩ : ∃ w2, v2.alloc (.cells #[.int .i64 (m : Int), .slice B2 L k2] 24) = w2 := ⟨_, rfl⟩
  obtain ⟨b2, hb⟩ : ∃ b, v2.heap.size = b := ⟨_, rfl⟩
  rw [hw, hb] at HSn
  rw [hw] at HBn
  rw [hw, hb]
  clear hw hb
  rename Hid (Sets _ _) => HS
  rename Hid (Below w.heap.size w _) => HB
  obtain ⟨W3, hI⟩ : ∃ W, Is m W (fun i => ((Bs.bit ws0 i) && (Bs.bit ws1 i))) := ⟨_, ⟨rfl⟩⟩
  have HJ3 := Lib.hid hI
  have HR3 := Lib.hid (Is.com (fun p q => p && q) HI0.out HI1.out hm hI)
  have HM3 : Hid (W3.length = L) := hI.len.trans HL.out
  clear hI
  have q2a := HS.out.tl.tl.hd.c0
  have q2b := HS.out.tl.tl.hd.c1
  have q3a := HS.out.tl.tl.tl.hd.c0
  have q3b := HS.out.tl.tl.tl.hd.c1
  go_wp2_with fail
  go_at_call 31
  refine (intersect_b (m : Int) A0 l0 c0 ws0 (m : Int) A1 l1 c1 ws1 ((m : Int), W3, 0) HR3 _ HS.out.tl.tl.hd.wd HS.out.tl.tl.tl.hd.wd).mono ?_
  rintro e v3 ⟨⟨B3, k3, rfl, hO⟩, hb⟩
  simp only [HM3.out] at hO ⊢
  obtain ⟨hs, hbb⟩ := HS.out.push HB.out (n := (m : Int)) hO hb
  have HSn := Lib.hid hs
  have HBn := Lib.hid hbb
  clear hO hb hs hbb HS HB q2a q2b q3a q3b
  go_upto_region 8 with fail
  obtain ⟨w3, hw⟩ : ∃ w3, v3.alloc (.cells #[.int .i64 (m : Int), .slice B3 L k3] 24) = w3 := ⟨_, rfl⟩
  obtain ⟨b3, hb⟩ : ∃ b, v3.heap.size = b := ⟨_, rfl⟩
  rw [hw, hb] at HSn
  rw [hw] at HBn
  rw [hw, hb]
  clear hw hb
  rename Hid (Sets _ _) => HS
  rename Hid (Below w.heap.size w _) => HB
  obtain ⟨W4, hI⟩ : ∃ W, Is m W (fun i => ((Bs.bit ws0 i) && (Bs.bit ws2 i))) := ⟨_, ⟨rfl⟩⟩
  have HJ4 := Lib.hid hI
  have HR4 := Lib.hid (Is.com (fun p q => p && q) HI0.out HI2.out hm hI)
  have HM4 : Hid (W4.length = L) := hI.len.trans HL.out
  clear hI
  have q3a := HS.out.tl.tl.tl.hd.c0
  have q3b := HS.out.tl.tl.tl.hd.c1
  have q5a := HS.out.tl.tl.tl.tl.tl.hd.c0
  have q5b := HS.out.tl.tl.tl.tl.tl.hd.c1
  go_wp2_with fail
  go_at_call 31
  refine (intersect_b (m : Int) A0 l0 c0 ws0 (m : Int) A2 l2 c2 ws2 ((m : Int), W4, 0) HR4 _ HS.out.tl.tl.tl.hd.wd HS.out.tl.tl.tl.tl.tl.hd.wd).mono ?_
  rintro e v4 ⟨⟨B4, k4, rfl, hO⟩, hb⟩
  simp only [HM4.out] at hO ⊢
  obtain ⟨hs, hbb⟩ := HS.out.push HB.out (n := (m : Int)) hO hb
  have HSn := Lib.hid hs
  have HBn := Lib.hid hbb
  clear hO hb hs hbb HS HB q3a q3b q5a q5b
  go_upto_region 9 with fail
  obtain ⟨w4, hw⟩ : ∃ w4, v4.alloc (.cells #[.int .i64 (m : Int), .slice B4 L k4] 24) = w4 := ⟨_, rfl⟩
  obtain ⟨b4, hb⟩ : ∃ b, v4.heap.size = b := ⟨_, rfl⟩
  rw [hw, hb] at HSn
  rw [hw] at HBn
  rw [hw, hb]
  clear hw hb
  rename Hid (Sets _ _) => HS
  rename Hid (Below w.heap.size w _) => HB
  obtain ⟨W5, hI⟩ : ∃ W, Is m W (fun i => ((((Bs.bit ws0 i) && (Bs.bit ws1 i))) || (((Bs.bit ws0 i) && (Bs.bit ws2 i))))) := ⟨_, ⟨rfl⟩⟩
  have HJ5 := Lib.hid hI
  have HR5 := Lib.hid (Is.com (fun p q => p || q) HJ3.out HJ4.out hm hI)
  have HM5 : Hid (W5.length = L) := hI.len.trans HL.out
  clear hI
  have q0a := HS.out.hd.c0
  have q0b := HS.out.hd.c1
  have q1a := HS.out.tl.hd.c0
  have q1b := HS.out.tl.hd.c1
  go_wp2_with fail
  go_at_call 30
  refine (union_b (m : Int) B3 L k3 W3 (m : Int) B4 L k4 W4 ((m : Int), W5, 0) HR5 _ HS.out.tl.hd.wd HS.out.hd.wd).mono ?_
  rintro e v5 ⟨⟨B5, k5, rfl, hO⟩, hb⟩
  simp only [HM5.out] at hO ⊢
  obtain ⟨hs, hbb⟩ := HS.out.push HB.out (n := (m : Int)) hO hb
  have HSn := Lib.hid hs
  have HBn := Lib.hid hbb
  clear hO hb hs hbb HS HB q0a q0b q1a q1b
  go_upto_region 10 with fail
  obtain ⟨w5, hw⟩ : ∃ w5, v5.alloc (.cells #[.int .i64 (m : Int), .slice B5 L k5] 24) = w5 := ⟨_, rfl⟩
  obtain ⟨b5, hb⟩ : ∃ b, v5.heap.size = b := ⟨_, rfl⟩
  rw [hw, hb] at HSn
  rw [hw] at HBn
  rw [hw, hb]
  clear hw hb
  rename Hid (Sets _ _) => HS
  rename Hid (Below w.heap.size w _) => HB
  obtain ⟨W6, hI⟩ : ∃ W, Is m W (fun i => !(Bs.bit ws1 i)) := ⟨_, ⟨rfl⟩⟩
  have HJ6 := Lib.hid hI
  have HR6 := Lib.hid (Is.comp HI1.out hm hI)
  have HM6 : Hid (W6.length = L) := hI.len.trans HL.out
  clear hI
  have q6a := HS.out.tl.tl.tl.tl.tl.tl.hd.c0
  have q6b := HS.out.tl.tl.tl.tl.tl.tl.hd.c1
  go_wp2_with fail
  go_at_call 33
  refine (complement_b (m : Int) A1 l1 c1 ws1 ((m : Int), W6, 0) HR6 _ HS.out.tl.tl.tl.tl.tl.tl.hd.wd).mono ?_
  rintro e v6 ⟨⟨B6, k6, rfl, hO⟩, hb⟩
  simp only [HM6.out] at hO ⊢
  obtain ⟨hs, hbb⟩ := HS.out.push HB.out (n := (m : Int)) hO hb
  have HSn := Lib.hid hs
  have HBn := Lib.hid hbb
  clear hO hb hs hbb HS HB q6a q6b
  go_upto_region 11 with fail
  obtain ⟨w6, hw⟩ : ∃ w6, v6.alloc (.cells #[.int .i64 (m : Int), .slice B6 L k6] 24) = w6 := ⟨_, rfl⟩
  obtain ⟨b6, hb⟩ : ∃ b, v6.heap.size = b := ⟨_, rfl⟩
  rw [hw, hb] at HSn
  rw [hw] at HBn
  rw [hw, hb]
  clear hw hb
  rename Hid (Sets _ _) => HS
  rename Hid (Below w.heap.size w _) => HB
  obtain ⟨W7, hI⟩ : ∃ W, Is m W (fun i => !(Bs.bit ws2 i)) := ⟨_, ⟨rfl⟩⟩
  have HJ7 := Lib.hid hI
  have HR7 := Lib.hid (Is.comp HI2.out hm hI)
  have HM7 : Hid (W7.length = L) := hI.len.trans HL.out
  clear hI
  have q8a := HS.out.tl.tl.tl.tl.tl.tl.tl.tl.hd.c0
  have q8b := HS.out.tl.tl.tl.tl.tl.tl.tl.tl.hd.c1
  go_wp2_with fail
  go_at_call 33
  refine (complement_b (m : Int) A2 l2 c2 ws2 ((m : Int), W7, 0) HR7 _ HS.out.tl.tl.tl.tl.tl.tl.tl.tl.hd.wd).mono ?_
  rintro e v7 ⟨⟨B7, k7, rfl, hO⟩, hb⟩
  simp only [HM7.out] at hO ⊢
  obtain ⟨hs, hbb⟩ := HS.out.push HB.out (n := (m : Int)) hO hb
  have HSn := Lib.hid hs
  have HBn := Lib.hid hbb
  clear hO hb hs hbb HS HB q8a q8b
  go_upto_region 12 with fail
  obtain ⟨w7, hw⟩ : ∃ w7, v7.alloc (.cells #[.int .i64 (m : Int), .slice B7 L k7] 24) = w7 := ⟨_, rfl⟩
  obtain ⟨b7, hb⟩ : ∃ b, v7.heap.size = b := ⟨_, rfl⟩
  rw [hw, hb] at HSn
  rw [hw] at HBn
  rw [hw, hb]
  clear hw hb
  rename Hid (Sets _ _) => HS
  rename Hid (Below w.heap.size w _) => HB
  obtain ⟨W8, hI⟩ : ∃ W, Is m W (fun i => !(((Bs.bit ws1 i) || (Bs.bit ws2 i)))) := ⟨_, ⟨rfl⟩⟩
  have HJ8 := Lib.hid hI
  have HR8 := Lib.hid (Is.comp HJ1.out hm hI)
  have HM8 : Hid (W8.length = L) := hI.len.trans HL.out
  clear hI
  have q6a := HS.out.tl.tl.tl.tl.tl.tl.hd.c0
  have q6b := HS.out.tl.tl.tl.tl.tl.tl.hd.c1
  go_wp2_with fail
  go_at_call 33
  refine (complement_b (m : Int) B1 L k1 W1 ((m : Int), W8, 0) HR8 _ HS.out.tl.tl.tl.tl.tl.tl.hd.wd).mono ?_
  rintro e v8 ⟨⟨B8, k8, rfl, hO⟩, hb⟩
  simp only [HM8.out] at hO ⊢
  obtain ⟨hs, hbb⟩ := HS.out.push HB.out (n := (m : Int)) hO hb
  have HSn := Lib.hid hs
  have HBn := Lib.hid hbb
  clear hO hb hs hbb HS HB q6a q6b
  go_upto_region 13 with fail
  obtain ⟨w8, hw⟩ : ∃ w8, v8.alloc (.cells #[.int .i64 (m : Int), .slice B8 L k8] 24) = w8 := ⟨_, rfl⟩
  obtain ⟨b8, hb⟩ : ∃ b, v8.heap.size = b := ⟨_, rfl⟩
  rw [hw, hb] at HSn
  rw [hw] at HBn
  rw [hw, hb]
  clear hw hb
  rename Hid (Sets _ _) => HS
  rename Hid (Below w.heap.size w _) => HB
  obtain ⟨W9, hI⟩ : ∃ W, Is m W (fun i => ((!(Bs.bit ws1 i)) && (!(Bs.bit ws2 i)))) := ⟨_, ⟨rfl⟩⟩
  have HJ9 := Lib.hid hI
  have HR9 := Lib.hid (Is.com (fun p q => p && q) HJ6.out HJ7.out hm hI)
  have HM9 : Hid (W9.length = L) := hI.len.trans HL.out
  clear hI
  have q1a := HS.out.tl.hd.c0
  have q1b := HS.out.tl.hd.c1
  have q2a := HS.out.tl.tl.hd.c0
  have q2b := HS.out.tl.tl.hd.c1
  go_wp2_with fail
  go_at_call 31
  refine (intersect_b (m : Int) B6 L k6 W6 (m : Int) B7 L k7 W7 ((m : Int), W9, 0) HR9 _ HS.out.tl.tl.hd.wd HS.out.tl.hd.wd).mono ?_
  rintro e v9 ⟨⟨B9, k9, rfl, hO⟩, hb⟩
  simp only [HM9.out] at hO ⊢
  obtain ⟨hs, hbb⟩ := HS.out.push HB.out (n := (m : Int)) hO hb
  have HSn := Lib.hid hs
  have HBn := Lib.hid hbb
  clear hO hb hs hbb HS HB q1a q1b q2a q2b
  go_upto_region 14 with fail
  obtain ⟨w9, hw⟩ : ∃ w9, v9.alloc (.cells #[.int .i64 (m : Int), .slice B9 L k9] 24) = w9 := ⟨_, rfl⟩
  obtain ⟨b9, hb⟩ : ∃ b, v9.heap.size = b := ⟨_, rfl⟩
  rw [hw, hb] at HSn
  rw [hw] at HBn
  rw [hw, hb]
  clear hw hb
  rename Hid (Sets _ _) => HS
  rename Hid (Below w.heap.size w _) => HB
  obtain ⟨W10, hI⟩ : ∃ W, Is m W (fun i => ((Bs.bit ws0 i) && !(Bs.bit ws1 i))) := ⟨_, ⟨rfl⟩⟩
  have HJ10 := Lib.hid hI
  have HR10 := Lib.hid (Is.com (fun p q => p && !q) HI0.out HI1.out hm hI)
  have HM10 : Hid (W10.length = L) := hI.len.trans HL.out
  clear hI
  have q9a := HS.out.tl.tl.tl.tl.tl.tl.tl.tl.tl.hd.c0
  have q9b := HS.out.tl.tl.tl.tl.tl.tl.tl.tl.tl.hd.c1
  have q10a := HS.out.tl.tl.tl.tl.tl.tl.tl.tl.tl.tl.hd.c0
  have q10b := HS.out.tl.tl.tl.tl.tl.tl.tl.tl.tl.tl.hd.c1
  go_wp2_with fail
  go_at_call 32
  refine (minus_b (m : Int) A0 l0 c0 ws0 (m : Int) A1 l1 c1 ws1 ((m : Int), W10, 0) HR10 _ HS.out.tl.tl.tl.tl.tl.tl.tl.tl.tl.hd.wd HS.out.tl.tl.tl.tl.tl.tl.tl.tl.tl.tl.hd.wd).mono ?_
  rintro e v10 ⟨⟨B10, k10, rfl, hO⟩, hb⟩
  simp only [HM10.out] at hO ⊢
  obtain ⟨hs, hbb⟩ := HS.out.push HB.out (n := (m : Int)) hO hb
  have HSn := Lib.hid hs
  have HBn := Lib.hid hbb
  clear hO hb hs hbb HS HB q9a q9b q10a q10b
  go_upto_region 15 with fail
  obtain ⟨w10, hw⟩ : ∃ w10, v10.alloc (.cells #[.int .i64 (m : Int), .slice B10 L k10] 24) = w10 := ⟨_, rfl⟩
  obtain ⟨b10, hb⟩ : ∃ b, v10.heap.size = b := ⟨_, rfl⟩
  rw [hw, hb] at HSn
  rw [hw] at HBn
  rw [hw, hb]
  clear hw hb
  rename Hid (Sets _ _) => HS
  rename Hid (Below w.heap.size w _) => HB
  obtain ⟨W11, hI⟩ : ∃ W, Is m W (fun i => ((Bs.bit ws0 i) && (!(Bs.bit ws1 i)))) := ⟨_, ⟨rfl⟩⟩
  have HJ11 := Lib.hid hI
  have HR11 := Lib.hid (Is.com (fun p q => p && q) HI0.out HJ6.out hm hI)
  have HM11 : Hid (W11.length = L) := hI.len.trans HL.out
  clear hI
  have q4a := HS.out.tl.tl.tl.tl.hd.c0
  have q4b := HS.out.tl.tl.tl.tl.hd.c1
  have q10a := HS.out.tl.tl.tl.tl.tl.tl.tl.tl.tl.tl.hd.c0
  have q10b := HS.out.tl.tl.tl.tl.tl.tl.tl.tl.tl.tl.hd.c1
  go_wp2_with fail
  go_at_call 31
  refine (intersect_b (m : Int) A0 l0 c0 ws0 (m : Int) B6 L k6 W6 ((m : Int), W11, 0) HR11 _ HS.out.tl.tl.tl.tl.tl.tl.tl.tl.tl.tl.hd.wd HS.out.tl.tl.tl.tl.hd.wd).mono ?_
  rintro e v11 ⟨⟨B11, k11, rfl, hO⟩, hb⟩
  simp only [HM11.out] at hO ⊢
  obtain ⟨hs, hbb⟩ := HS.out.push HB.out (n := (m : Int)) hO hb
  have HSn := Lib.hid hs
  have HBn := Lib.hid hbb
  clear hO hb hs hbb HS HB q4a q4b q10a q10b
  go_upto_region 16 with fail
  obtain ⟨w11, hw⟩ : ∃ w11, v11.alloc (.cells #[.int .i64 (m : Int), .slice B11 L k11] 24) = w11 := ⟨_, rfl⟩
  obtain ⟨b11, hb⟩ : ∃ b, v11.heap.size = b := ⟨_, rfl⟩
  rw [hw, hb] at HSn
  rw [hw] at HBn
  rw [hw, hb]
  clear hw hb
  rename Hid (Sets _ _) => HS
  rename Hid (Below w.heap.size w _) => HB
  obtain ⟨W12, hI⟩ : ∃ W, Is m W (fun i => !(!(Bs.bit ws1 i))) := ⟨_, ⟨rfl⟩⟩
  have HJ12 := Lib.hid hI
  have HR12 := Lib.hid (Is.comp HJ6.out hm hI)
  have HM12 : Hid (W12.length = L) := hI.len.trans HL.out
  clear hI
  have q5a := HS.out.tl.tl.tl.tl.tl.hd.c0
  have q5b := HS.out.tl.tl.tl.tl.tl.hd.c1
  go_wp2_with fail
  go_at_call 33
  refine (complement_b (m : Int) B6 L k6 W6 ((m : Int), W12, 0) HR12 _ HS.out.tl.tl.tl.tl.tl.hd.wd).mono ?_
  rintro e v12 ⟨⟨B12, k12, rfl, hO⟩, hb⟩
  simp only [HM12.out] at hO ⊢
  obtain ⟨hs, hbb⟩ := HS.out.push HB.out (n := (m : Int)) hO hb
  have HSn := Lib.hid hs
  have HBn := Lib.hid hbb
  clear hO hb hs hbb HS HB q5a q5b
  go_upto_region 17 with fail
  obtain ⟨w12, hw⟩ : ∃ w12, v12.alloc (.cells #[.int .i64 (m : Int), .slice B12 L k12] 24) = w12 := ⟨_, rfl⟩
  obtain ⟨b12, hb⟩ : ∃ b, v12.heap.size = b := ⟨_, rfl⟩
  rw [hw, hb] at HSn
  rw [hw] at HBn
  rw [hw, hb]
  clear hw hb
  rename Hid (Sets _ _) => HS
  rename Hid (Below w.heap.size w _) => HB
  have HE0 := Lib.hid (Is.equal HJ2.out HJ5.out hm (fun i => by cases Bs.bit ws0 i <;> cases Bs.bit ws1 i <;> cases Bs.bit ws2 i <;> simp))
  have HE1 := Lib.hid (Is.equal HJ8.out HJ9.out hm (fun i => by cases Bs.bit ws0 i <;> cases Bs.bit ws1 i <;> cases Bs.bit ws2 i <;> simp))
  have HE2 := Lib.hid (Is.equal HJ10.out HJ11.out hm (fun i => by cases Bs.bit ws0 i <;> cases Bs.bit ws1 i <;> cases Bs.bit ws2 i <;> simp))
  have HE3 := Lib.hid (Is.equal HJ12.out HI1.out hm (fun i => by cases Bs.bit ws0 i <;> cases Bs.bit ws1 i <;> cases Bs.bit ws2 i <;> simp))
  have HE4 := Lib.hid (Is.sub HJ3.out HI0.out hm (fun i => by cases Bs.bit ws0 i <;> cases Bs.bit ws1 i <;> cases Bs.bit ws2 i <;> simp))
  have HE5 := Lib.hid (Is.sub HI1.out HJ1.out hm (fun i => by cases Bs.bit ws0 i <;> cases Bs.bit ws1 i <;> cases Bs.bit ws2 i <;> simp))
  have X0 := HS.out
  have q7a := X0.tl.tl.tl.tl.tl.tl.tl.hd.c0
  have q7b := X0.tl.tl.tl.tl.tl.tl.tl.hd.c1
  have q10a := X0.tl.tl.tl.tl.tl.tl.tl.tl.tl.tl.hd.c0
  have q10b := X0.tl.tl.tl.tl.tl.tl.tl.tl.tl.tl.hd.c1
  go_wp2_with fail
  go_at_call 26
  refine (equal_b (m : Int) B2 L k2 W2 (m : Int) B5 L k5 W5 true HE0 _ X0.tl.tl.tl.tl.tl.tl.tl.tl.tl.tl.hd.wd X0.tl.tl.tl.tl.tl.tl.tl.hd.wd).mono ?_
  rintro e u1 ⟨rfl, hb⟩
  have X1 := X0.next hb
  have Y1 := HB.out.trans (hb.mono HB.out.size)
  clear hb
  clear q7a q7b q10a q10b
  have q3a := X1.tl.tl.tl.hd.c0
  have q3b := X1.tl.tl.tl.hd.c1
  have q4a := X1.tl.tl.tl.tl.hd.c0
  have q4b := X1.tl.tl.tl.tl.hd.c1
  go_wp2_with fail
  go_at_call 26
  refine (equal_b (m : Int) B8 L k8 W8 (m : Int) B9 L k9 W9 true HE1 _ X1.tl.tl.tl.tl.hd.wd X1.tl.tl.tl.hd.wd).mono ?_
  rintro e u2 ⟨rfl, hb⟩
  have X2 := X1.next hb
  have Y2 := Y1.trans (hb.mono Y1.size)
  clear hb
  clear q3a q3b q4a q4b
  have q1a := X2.tl.hd.c0
  have q1b := X2.tl.hd.c1
  have q2a := X2.tl.tl.hd.c0
  have q2b := X2.tl.tl.hd.c1
  go_wp2_with fail
  go_at_call 26
  refine (equal_b (m : Int) B10 L k10 W10 (m : Int) B11 L k11 W11 true HE2 _ X2.tl.tl.hd.wd X2.tl.hd.wd).mono ?_
  rintro e u3 ⟨rfl, hb⟩
  have X3 := X2.next hb
  have Y3 := Y2.trans (hb.mono Y2.size)
  clear hb
  clear q1a q1b q2a q2b
  have q0a := X3.hd.c0
  have q0b := X3.hd.c1
  have q13a := X3.tl.tl.tl.tl.tl.tl.tl.tl.tl.tl.tl.tl.tl.hd.c0
  have q13b := X3.tl.tl.tl.tl.tl.tl.tl.tl.tl.tl.tl.tl.tl.hd.c1
  go_wp2_with fail
  go_at_call 26
  refine (equal_b (m : Int) B12 L k12 W12 (m : Int) A1 l1 c1 ws1 true HE3 _ X3.hd.wd X3.tl.tl.tl.tl.tl.tl.tl.tl.tl.tl.tl.tl.tl.hd.wd).mono ?_
  rintro e u4 ⟨rfl, hb⟩
  have X4 := X3.next hb
  have Y4 := Y3.trans (hb.mono Y3.size)
  clear hb
  clear q0a q0b q13a q13b
  have q9a := X4.tl.tl.tl.tl.tl.tl.tl.tl.tl.hd.c0
  have q9b := X4.tl.tl.tl.tl.tl.tl.tl.tl.tl.hd.c1
  have q12a := X4.tl.tl.tl.tl.tl.tl.tl.tl.tl.tl.tl.tl.hd.c0
  have q12b := X4.tl.tl.tl.tl.tl.tl.tl.tl.tl.tl.tl.tl.hd.c1
  go_wp2_with fail
  go_at_call 28
  refine (subset_b (m : Int) B3 L k3 W3 (m : Int) A0 l0 c0 ws0 true HE4 _ X4.tl.tl.tl.tl.tl.tl.tl.tl.tl.hd.wd X4.tl.tl.tl.tl.tl.tl.tl.tl.tl.tl.tl.tl.hd.wd).mono ?_
  rintro e u5 ⟨rfl, hb⟩
  have X5 := X4.next hb
  have Y5 := Y4.trans (hb.mono Y4.size)
  clear hb
  clear q9a q9b q12a q12b
  have q11a := X5.tl.tl.tl.tl.tl.tl.tl.tl.tl.tl.tl.hd.c0
  have q11b := X5.tl.tl.tl.tl.tl.tl.tl.tl.tl.tl.tl.hd.c1
  have q13a := X5.tl.tl.tl.tl.tl.tl.tl.tl.tl.tl.tl.tl.tl.hd.c0
  have q13b := X5.tl.tl.tl.tl.tl.tl.tl.tl.tl.tl.tl.tl.tl.hd.c1
  go_wp2_with fail
  go_at_call 28
  refine (subset_b (m : Int) A1 l1 c1 ws1 (m : Int) B1 L k1 W1 true HE5 _ X5.tl.tl.tl.tl.tl.tl.tl.tl.tl.tl.tl.tl.tl.hd.wd X5.tl.tl.tl.tl.tl.tl.tl.tl.tl.tl.tl.hd.wd).mono ?_
  rintro e u6 ⟨rfl, hb⟩
  have X6 := X5.next hb
  have Y6 := Y5.trans (hb.mono Y5.size)
  clear hb
  clear q11a q11b q13a q13b
  go_wp2_with fail
  go_ret
  exact ⟨rfl, Y6⟩
end Go.Proofs.YtpapbpekihgnlaaDoor
