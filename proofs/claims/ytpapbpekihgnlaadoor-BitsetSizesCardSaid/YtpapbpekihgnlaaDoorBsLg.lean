/-
  The walk over BitsetSizes.
-/
import Derived.Test.YtpapbpekihgnlaaDoorBsZd
namespace Go.Proofs.YtpapbpekihgnlaaDoor
open Go.RowKit

set_option maxRecDepth 100000 in
set_option maxHeartbeats 4000000 in
theorem sizes_b (n0 : Int) (A0 : Option Addr) (l0 c0 : Nat) (ws0 : List Nat) (n1 : Int) (A1 : Option Addr) (l1 c1 : Nat) (ws1 : List Nat) (w : World) (hT : Tabs w) (hw0 : Wd w A0 l0 c0 ws0) (hw1 : Wd w A1 l1 c1 ws1) :
    Calls Tryd.prog 10 #[.agg #[.int .i64 n0, .slice A0 l0 c0], .agg #[.int .i64 n1, .slice A1 l1 c1]] w fun e w' => e = .returned (.bool true) ∧ Below w.heap.size w w' := by
  have hlm0 : l0 ≤ 9223372036854775807 := by have h1 := hw0.cap; have h2 := hw0.big; unfold maxLen at h2; omega
  have HW0 := Lib.hid hw0
  have hlm1 : l1 ≤ 9223372036854775807 := by have h1 := hw1.cap; have h2 := hw1.big; unfold maxLen at h2; omega
  have HW1 := Lib.hid hw1
  have HT := Lib.hid hT
  have HX := Lib.hid (boxT_below w n0 A0 l0 c0 n1 A1 l1 c1)
  have HCS0 := Lib.hid ((boxT_cs w n0 A0 l0 c0 n1 A1 l1 c1).1)
  have HCS1 := Lib.hid ((boxT_cs w n0 A0 l0 c0 n1 A1 l1 c1).2)
  clear hT hw0 hw1
  go_enter Tryd.func10, Tryd.ntmps10
  go_wp2_with fail
  go_at_call 12
  refine (known_b _ (HT.out.below HX.out)).mono ?_
  rintro e v0 ⟨rfl, hb⟩
  have HB := Lib.hid (HX.out.trans (hb.mono HX.out.size))
  have HS : Hid (Sets v0 [⟨w.heap.size, n0, A0, l0, c0, ws0⟩, ⟨w.heap.size + 1, n1, A1, l1, c1, ws1⟩]) := ⟨⟨HCS0.out.next hb, HW0.out.below HB.out⟩, ⟨HCS1.out.next hb, HW1.out.below HB.out⟩, trivial⟩
  clear hb HX HCS0 HCS1
  have q0a := HS.out.hd.c0
  have q0b := HS.out.hd.c1
  have q1a := HS.out.tl.hd.c0
  have q1b := HS.out.tl.hd.c1
  by_cases h640 : 64 < l0
  · have hd0 : decide ((64 : Int) < (l0 : Int)) = true := decide_eq_true (by omega)
    have he0 : (64 : Int) < (l0 : Int) := by omega
    go_wp2_with fail
    go_ret
    exact ⟨rfl, HB.out⟩
  have hd0 : decide ((64 : Int) < (l0 : Int)) = false := decide_eq_false (by omega)
  have he0 : ¬ ((64 : Int) < (l0 : Int)) := by omega
  by_cases h641 : 64 < l1
  · have hd1 : decide ((64 : Int) < (l1 : Int)) = true := decide_eq_true (by omega)
    have he1 : (64 : Int) < (l1 : Int) := by omega
    go_wp2_with fail
    go_ret
    exact ⟨rfl, HB.out⟩
  have hd1 : decide ((64 : Int) < (l1 : Int)) = false := decide_eq_false (by omega)
  have he1 : ¬ ((64 : Int) < (l1 : Int)) := by omega
  obtain ⟨t0, ht0⟩ : ∃ v, Bs.vld n0 ws0 = v := ⟨_, rfl⟩
  have HV0 := Lib.hid ht0
  clear ht0
  go_wp2_with fail
  go_at_call 19
  refine (rvalid_b n0 A0 l0 c0 ws0 t0 HV0 _ HS.out.hd.wd).mono ?_
  rintro e x0 ⟨rfl, hb⟩
  have HSn := Lib.hid (HS.out.next hb)
  have HBn := Lib.hid (HB.out.trans (hb.mono HB.out.size))
  clear hb HS HB
  clear q0a q0b q1a q1b
  rename Hid (Sets _ _) => HS
  rename Hid (Below w.heap.size w _) => HB
  have q0a := HS.out.hd.c0
  have q0b := HS.out.hd.c1
  have q1a := HS.out.tl.hd.c0
  have q1b := HS.out.tl.hd.c1
  cases t0
  case false =>
    go_wp2_with fail
    go_ret
    exact ⟨rfl, HB.out⟩
  obtain ⟨t1, ht1⟩ : ∃ v, Bs.vld n1 ws1 = v := ⟨_, rfl⟩
  have HV1 := Lib.hid ht1
  clear ht1
  go_wp2_with fail
  go_at_call 19
  refine (rvalid_b n1 A1 l1 c1 ws1 t1 HV1 _ HS.out.tl.hd.wd).mono ?_
  rintro e x1 ⟨rfl, hb⟩
  have HSn := Lib.hid (HS.out.next hb)
  have HBn := Lib.hid (HB.out.trans (hb.mono HB.out.size))
  clear hb HS HB
  clear q0a q0b q1a q1b
  rename Hid (Sets _ _) => HS
  rename Hid (Below w.heap.size w _) => HB
  have q0a := HS.out.hd.c0
  have q0b := HS.out.hd.c1
  have q1a := HS.out.tl.hd.c0
  have q1b := HS.out.tl.hd.c1
  cases t1
  case false =>
    go_wp2_with fail
    go_ret
    exact ⟨rfl, HB.out⟩
  by_cases hn1 : n0 = n1
  case neg =>
    have hdn1 : (n0 != n1) = true := by simp [hn1]
    go_wp2_with fail
    go_ret
    exact ⟨rfl, HB.out⟩
  subst hn1
  obtain ⟨m, rfl⟩ : ∃ m : Nat, n0 = m := ⟨n0.toNat, by have := (Bs.vld_iff.1 HV0.out).1; omega⟩
  have hm : m ≤ 4096 := Bs.vld_le HV0.out
  obtain ⟨L, hL⟩ : ∃ L, (m + 63) / 64 = L := ⟨_, rfl⟩
  have HL := Lib.hid hL
  clear hL
  have HI0 := Lib.hid (Is.of HV0.out HW0.out.fits)
  have HI1 := Lib.hid (Is.of HV1.out HW1.out.fits)
  go_upto_region 5 with fail
  clear q0a q0b q1a q1b
  obtain ⟨W1, hI⟩ : ∃ W, Is m W (fun i => Bs.bit ws0 i || Bs.bit ws1 i) := ⟨_, ⟨rfl⟩⟩
  have HJ1 := Lib.hid hI
  have HR1 := Lib.hid (Is.com (fun p q => p || q) HI0.out HI1.out hm hI)
  have HM1 : Hid (W1.length = L) := hI.len.trans HL.out
  clear hI
  obtain ⟨W2, hI⟩ : ∃ W, Is m W (fun i => Bs.bit ws0 i && Bs.bit ws1 i) := ⟨_, ⟨rfl⟩⟩
  have HJ2 := Lib.hid hI
  have HR2 := Lib.hid (Is.com (fun p q => p && q) HI0.out HI1.out hm hI)
  have HM2 : Hid (W2.length = L) := hI.len.trans HL.out
  clear hI
  obtain ⟨W3, hI⟩ : ∃ W, Is m W (fun i => !Bs.bit ws0 i) := ⟨_, ⟨rfl⟩⟩
  have HJ3 := Lib.hid hI
  have HR3 := Lib.hid (Is.comp HI0.out hm hI)
  have HM3 : Hid (W3.length = L) := hI.len.trans HL.out
  clear hI
  have q0a := HS.out.hd.c0
  have q0b := HS.out.hd.c1
  have q1a := HS.out.tl.hd.c0
  have q1b := HS.out.tl.hd.c1
  go_wp2_with fail
  go_at_call 30
  refine (union_b (m : Int) A0 l0 c0 ws0 (m : Int) A1 l1 c1 ws1 ((m : Int), W1, 0) HR1 _ HS.out.hd.wd HS.out.tl.hd.wd).mono ?_
  rintro e v1 ⟨⟨B1, k1, rfl, hO⟩, hb⟩
  simp only [HM1.out] at hO ⊢
  obtain ⟨hs, hbb⟩ := HS.out.push HB.out (n := (m : Int)) hO hb
  have HSn := Lib.hid hs
  have HBn := Lib.hid hbb
  clear hO hb hs hbb HS HB q0a q0b q1a q1b
  go_upto_region 6 with fail
  obtain ⟨w1, hw⟩ : ∃ w1, v1.alloc (.cells #[.int .i64 (m : Int), .slice B1 L k1] 24) = w1 := ⟨_, rfl⟩
  obtain ⟨b1, hb⟩ : ∃ b, v1.heap.size = b := ⟨_, rfl⟩
  rw [hw, hb] at HSn
  rw [hw] at HBn
  rw [hw, hb]
  clear hw hb
  rename Hid (Sets _ _) => HS
  rename Hid (Below w.heap.size w _) => HB
  have q1a := HS.out.tl.hd.c0
  have q1b := HS.out.tl.hd.c1
  have q2a := HS.out.tl.tl.hd.c0
  have q2b := HS.out.tl.tl.hd.c1
  go_wp2_with fail
  go_at_call 31
  refine (intersect_b (m : Int) A0 l0 c0 ws0 (m : Int) A1 l1 c1 ws1 ((m : Int), W2, 0) HR2 _ HS.out.tl.hd.wd HS.out.tl.tl.hd.wd).mono ?_
  rintro e v2 ⟨⟨B2, k2, rfl, hO⟩, hb⟩
  simp only [HM2.out] at hO ⊢
  obtain ⟨hs, hbb⟩ := HS.out.push HB.out (n := (m : Int)) hO hb
  have HSn := Lib.hid hs
  have HBn := Lib.hid hbb
  clear hO hb hs hbb HS HB q1a q1b q2a q2b
  go_upto_region 7 with fail
  obtain ⟨w2, hw⟩ : ∃ w2, v2.alloc (.cells #[.int .i64 (m : Int), .slice B2 L k2] 24) = w2 := ⟨_, rfl⟩
  obtain ⟨b2, hb⟩ : ∃ b, v2.heap.size = b := ⟨_, rfl⟩
  rw [hw, hb] at HSn
  rw [hw] at HBn
  rw [hw, hb]
  clear hw hb
  rename Hid (Sets _ _) => HS
  rename Hid (Below w.heap.size w _) => HB
  have q2a := HS.out.tl.tl.hd.c0
  have q2b := HS.out.tl.tl.hd.c1
  go_wp2_with fail
  go_at_call 33
  refine (complement_b (m : Int) A0 l0 c0 ws0 ((m : Int), W3, 0) HR3 _ HS.out.tl.tl.hd.wd).mono ?_
  rintro e v3 ⟨⟨B3, k3, rfl, hO⟩, hb⟩
  simp only [HM3.out] at hO ⊢
  obtain ⟨hs, hbb⟩ := HS.out.push HB.out (n := (m : Int)) hO hb
  have HSn := Lib.hid hs
  have HBn := Lib.hid hbb
  clear hO hb hs hbb HS HB q2a q2b
  go_upto_region 8 with fail
  obtain ⟨w3, hw⟩ : ∃ w3, v3.alloc (.cells #[.int .i64 (m : Int), .slice B3 L k3] 24) = w3 := ⟨_, rfl⟩
  obtain ⟨b3, hb⟩ : ∃ b, v3.heap.size = b := ⟨_, rfl⟩
  rw [hw, hb] at HSn
  rw [hw] at HBn
  rw [hw, hb]
  clear hw hb
  rename Hid (Sets _ _) => HS
  rename Hid (Below w.heap.size w _) => HB
  obtain ⟨ca, hca⟩ : ∃ k, (membR m ws0).length = k := ⟨_, rfl⟩
  obtain ⟨cb, hcb⟩ : ∃ k, (membR m ws1).length = k := ⟨_, rfl⟩
  obtain ⟨cu, hcu⟩ : ∃ k, (membR m W1).length = k := ⟨_, rfl⟩
  obtain ⟨ci, hci⟩ : ∃ k, (membR m W2).length = k := ⟨_, rfl⟩
  obtain ⟨cc, hcc⟩ : ∃ k, (membR m W3).length = k := ⟨_, rfl⟩
  obtain ⟨sb, hsb⟩ : ∃ b, subR m ws0 m ws1 = b := ⟨_, rfl⟩
  have hes := Is.sub_eq HI0.out HI1.out HJ1.out hm sb hsb
  have hsum : cu + ci = ca + cb := by rw [← hca, ← hcb, ← hcu, ← hci, HI0.out.memb hm, HI1.out.memb hm, HJ1.out.memb hm, HJ2.out.memb hm]; exact len_or_and _ _ _
  have hcom : ca + cc = m := by rw [← hca, ← hcc, HI0.out.memb hm, HJ3.out.memb hm, len_not, List.length_range]
  have hsum' : (IntKind.i64.wrap ((cu : Int) + (ci : Int)) == IntKind.i64.wrap ((ca : Int) + (cb : Int))) = true := by rw [show (cu : Int) + (ci : Int) = (ca : Int) + (cb : Int) by omega]; exact beq_self_eq_true _
  have hcom' : (IntKind.i64.wrap ((ca : Int) + (cc : Int)) == (m : Int)) = true := by rw [show (ca : Int) + (cc : Int) = (m : Int) by omega, IntWalk.i64_in _ (by omega)]; exact beq_self_eq_true _
  have hub : cu ≤ 4096 := by rw [← hcu]; exact membR_len _ _
  have hib : ci ≤ 4096 := by rw [← hci]; exact membR_len _ _
  have hab : ca ≤ 4096 := by rw [← hca]; exact membR_len _ _
  have hbb : cb ≤ 4096 := by rw [← hcb]; exact membR_len _ _
  have hcb4 : cc ≤ 4096 := by rw [← hcc]; exact membR_len _ _
  have HCA := Lib.hid hca
  have HCB := Lib.hid hcb
  have HCU := Lib.hid hcu
  have HCI := Lib.hid hci
  have HCC := Lib.hid hcc
  have HSB := Lib.hid hsb
  have HES := Lib.hid hes
  clear hca hcb hcu hci hcc hsb hes hsum hcom
  have X0 := HS.out
  go_region_held3 (fun W => W.cell? ⟨b3, 0, none⟩ = some (.int .i64 (m : Int)) ∧ W.cell? ⟨b3, 1, none⟩ = some (.slice B3 L k3) ∧ W.cell? ⟨b2, 0, none⟩ = some (.int .i64 (m : Int)) ∧ W.cell? ⟨b2, 1, none⟩ = some (.slice B2 L k2) ∧ W.cell? ⟨b1, 0, none⟩ = some (.int .i64 (m : Int)) ∧ W.cell? ⟨b1, 1, none⟩ = some (.slice B1 L k1) ∧ W.cell? ⟨w.heap.size, 0, none⟩ = some (.int .i64 (m : Int)) ∧ W.cell? ⟨w.heap.size, 1, none⟩ = some (.slice A0 l0 c0) ∧ W.cell? ⟨w.heap.size + 1, 0, none⟩ = some (.int .i64 (m : Int)) ∧ W.cell? ⟨w.heap.size + 1, 1, none⟩ = some (.slice A1 l1 c1)) (first | exact ⟨X0.drew.hd.c0, X0.drew.hd.c1, X0.drew.tl.hd.c0, X0.drew.tl.hd.c1, X0.drew.tl.tl.hd.c0, X0.drew.tl.tl.hd.c1, X0.drew.tl.tl.tl.hd.c0, X0.drew.tl.tl.tl.hd.c1, X0.drew.tl.tl.tl.tl.hd.c0, X0.drew.tl.tl.tl.tl.hd.c1⟩ | exact ⟨X1.hd.c0, X1.hd.c1, X1.tl.hd.c0, X1.tl.hd.c1, X1.tl.tl.hd.c0, X1.tl.tl.hd.c1, X1.tl.tl.tl.hd.c0, X1.tl.tl.tl.hd.c1, X1.tl.tl.tl.tl.hd.c0, X1.tl.tl.tl.tl.hd.c1⟩ | exact ⟨X2.hd.c0, X2.hd.c1, X2.tl.hd.c0, X2.tl.hd.c1, X2.tl.tl.hd.c0, X2.tl.tl.hd.c1, X2.tl.tl.tl.hd.c0, X2.tl.tl.tl.hd.c1, X2.tl.tl.tl.tl.hd.c0, X2.tl.tl.tl.tl.hd.c1⟩ | exact ⟨X3.hd.c0, X3.hd.c1, X3.tl.hd.c0, X3.tl.hd.c1, X3.tl.tl.hd.c0, X3.tl.tl.hd.c1, X3.tl.tl.tl.hd.c0, X3.tl.tl.tl.hd.c1, X3.tl.tl.tl.tl.hd.c0, X3.tl.tl.tl.tl.hd.c1⟩ | exact ⟨X4.hd.c0, X4.hd.c1, X4.tl.hd.c0, X4.tl.hd.c1, X4.tl.tl.hd.c0, X4.tl.tl.hd.c1, X4.tl.tl.tl.hd.c0, X4.tl.tl.tl.hd.c1, X4.tl.tl.tl.tl.hd.c0, X4.tl.tl.tl.tl.hd.c1⟩ | exact ⟨X5.hd.c0, X5.hd.c1, X5.tl.hd.c0, X5.tl.hd.c1, X5.tl.tl.hd.c0, X5.tl.tl.hd.c1, X5.tl.tl.tl.hd.c0, X5.tl.tl.tl.hd.c1, X5.tl.tl.tl.tl.hd.c0, X5.tl.tl.tl.tl.hd.c1⟩ | exact ⟨X6.hd.c0, X6.hd.c1, X6.tl.hd.c0, X6.tl.hd.c1, X6.tl.tl.hd.c0, X6.tl.tl.hd.c1, X6.tl.tl.tl.hd.c0, X6.tl.tl.tl.hd.c1, X6.tl.tl.tl.tl.hd.c0, X6.tl.tl.tl.tl.hd.c1⟩ | exact ⟨X7.hd.c0, X7.hd.c1, X7.tl.hd.c0, X7.tl.hd.c1, X7.tl.tl.hd.c0, X7.tl.tl.hd.c1, X7.tl.tl.tl.hd.c0, X7.tl.tl.tl.hd.c1, X7.tl.tl.tl.tl.hd.c0, X7.tl.tl.tl.tl.hd.c1⟩ | exact ⟨X8.hd.c0, X8.hd.c1, X8.tl.hd.c0, X8.tl.hd.c1, X8.tl.tl.hd.c0, X8.tl.tl.hd.c1, X8.tl.tl.tl.hd.c0, X8.tl.tl.tl.hd.c1, X8.tl.tl.tl.tl.hd.c0, X8.tl.tl.tl.tl.hd.c1⟩) (first
    | (go_at_call 26; refine (equal_b (m : Int) B1 L k1 W1 (m : Int) A1 l1 c1 ws1 sb HES _ X7.tl.tl.hd.wd X7.tl.tl.tl.tl.hd.wd).mono ?_; rintro e u8 ⟨rfl, hb⟩; have X8 := X7.next hb; have Y8 := Y7.trans (hb.mono Y7.size); clear hb)
    | (go_at_call 28; refine (subset_b (m : Int) A0 l0 c0 ws0 (m : Int) A1 l1 c1 ws1 sb HSB _ X6.tl.tl.tl.hd.wd X6.tl.tl.tl.tl.hd.wd).mono ?_; rintro e u7 ⟨rfl, hb⟩; have X7 := X6.next hb; have Y7 := Y6.trans (hb.mono Y6.size); clear hb)
    | (go_at_call 37; refine (count_b (m : Int) B3 L k3 W3 cc HCC _ X5.hd.wd).mono ?_; rintro e u6 ⟨rfl, hb⟩; have X6 := X5.next hb; have Y6 := Y5.trans (hb.mono Y5.size); clear hb)
    | (go_at_call 37; refine (count_b (m : Int) A0 l0 c0 ws0 ca HCA _ X4.tl.tl.tl.hd.wd).mono ?_; rintro e u5 ⟨rfl, hb⟩; have X5 := X4.next hb; have Y5 := Y4.trans (hb.mono Y4.size); clear hb)
    | (go_at_call 37; refine (count_b (m : Int) A1 l1 c1 ws1 cb HCB _ X3.tl.tl.tl.tl.hd.wd).mono ?_; rintro e u4 ⟨rfl, hb⟩; have X4 := X3.next hb; have Y4 := Y3.trans (hb.mono Y3.size); clear hb)
    | (go_at_call 37; refine (count_b (m : Int) A0 l0 c0 ws0 ca HCA _ X2.tl.tl.tl.hd.wd).mono ?_; rintro e u3 ⟨rfl, hb⟩; have X3 := X2.next hb; have Y3 := Y2.trans (hb.mono Y2.size); clear hb)
    | (go_at_call 37; refine (count_b (m : Int) B2 L k2 W2 ci HCI _ X1.tl.hd.wd).mono ?_; rintro e u2 ⟨rfl, hb⟩; have X2 := X1.next hb; have Y2 := Y1.trans (hb.mono Y1.size); clear hb)
    | (go_at_call 37; refine (count_b (m : Int) B1 L k1 W1 cu HCU _ X0.drew.tl.tl.hd.wd).mono ?_; rintro e u1 ⟨rfl, hb⟩; have X1 := X0.drew.next hb; have Y1 := HB.out.drew.trans (hb.mono HB.out.drew.size); clear hb))
  go_wp2_with fail
  go_ret
  exact ⟨rfl, Y8⟩
end Go.Proofs.YtpapbpekihgnlaaDoor
