/-
  The walk over BitsetCombines.
-/
import Derived.Test.YtpapbpekihgnlaaDoorBsZc
namespace Go.Proofs.YtpapbpekihgnlaaDoor
open Go.RowKit

set_option maxRecDepth 100000 in
set_option maxHeartbeats 4000000 in
theorem combines_b (n0 : Int) (A0 : Option Addr) (l0 c0 : Nat) (ws0 : List Nat) (n1 : Int) (A1 : Option Addr) (l1 c1 : Nat) (ws1 : List Nat) (w : World) (hT : Tabs w) (hw0 : Wd w A0 l0 c0 ws0) (hw1 : Wd w A1 l1 c1 ws1) :
    Calls Tryd.prog 6 #[.agg #[.int .i64 n0, .slice A0 l0 c0], .agg #[.int .i64 n1, .slice A1 l1 c1]] w fun e w' => e = .returned (.bool true) ∧ Below w.heap.size w w' := by
  have hlm0 : l0 ≤ 9223372036854775807 := by have h1 := hw0.cap; have h2 := hw0.big; unfold maxLen at h2; omega
  have HW0 := Lib.hid hw0
  have hlm1 : l1 ≤ 9223372036854775807 := by have h1 := hw1.cap; have h2 := hw1.big; unfold maxLen at h2; omega
  have HW1 := Lib.hid hw1
  have HT := Lib.hid hT
  have HX := Lib.hid (boxT_below w n0 A0 l0 c0 n1 A1 l1 c1)
  have HCS0 := Lib.hid ((boxT_cs w n0 A0 l0 c0 n1 A1 l1 c1).1)
  have HCS1 := Lib.hid ((boxT_cs w n0 A0 l0 c0 n1 A1 l1 c1).2)
  clear hT hw0 hw1
  go_enter Tryd.func6, Tryd.ntmps6
  go_wp2_with fail
  go_at_call 12
  refine (known_b _ (HT.out.below HX.out)).mono ?_
  rintro e v0 ⟨rfl, hb⟩
  have HB := Lib.hid (HX.out.trans (hb.mono HX.out.size))
  have HS : Hid (Sets v0 [⟨w.heap.size, n0, A0, l0, c0, ws0⟩, ⟨w.heap.size + 1, n1, A1, l1, c1, ws1⟩]) := ⟨⟨HCS0.out.next hb, HW0.out.below HB.out⟩, ⟨HCS1.out.next hb, HW1.out.below HB.out⟩, trivial⟩
  clear hb HX HCS0 HCS1
  have q0a := HS.out.hd.c0
  have q0b := HS.out.hd.c1
  have q1a := HS.out.tl.hd.c0
  have q1b := HS.out.tl.hd.c1
  by_cases h640 : 64 < l0
  · have hd0 : decide ((64 : Int) < (l0 : Int)) = true := decide_eq_true (by omega)
    have he0 : (64 : Int) < (l0 : Int) := by omega
    go_wp2_with fail
    go_ret
    exact ⟨rfl, HB.out⟩
  have hd0 : decide ((64 : Int) < (l0 : Int)) = false := decide_eq_false (by omega)
  have he0 : ¬ ((64 : Int) < (l0 : Int)) := by omega
  by_cases h641 : 64 < l1
  · have hd1 : decide ((64 : Int) < (l1 : Int)) = true := decide_eq_true (by omega)
    have he1 : (64 : Int) < (l1 : Int) := by omega
    go_wp2_with fail
    go_ret
    exact ⟨rfl, HB.out⟩
  have hd1 : decide ((64 : Int) < (l1 : Int)) = false := decide_eq_false (by omega)
  have he1 : ¬ ((64 : Int) < (l1 : Int)) := by omega
  go_upto_region 5 with fail
  clear q0a q0b q1a q1b
  obtain ⟨⟨R1, R2, R3⟩, hR⟩ : ∃ R, comR (fun p q => p || q) n0 ws0 n1 ws1 = R := ⟨_, rfl⟩
  have hRl : R2.length ≤ 64 := by have := comR_len (fun p q => p || q) n0 ws0 n1 ws1; rw [hR] at this; exact this
  obtain ⟨lR, hlR⟩ : ∃ k, R2.length = k := ⟨_, rfl⟩
  rw [hlR] at hRl
  have HR := Lib.hid hR
  have HLR := Lib.hid hlR
  clear hR hlR
  obtain ⟨⟨T1, T2, T3⟩, hT⟩ : ∃ R, comR (fun p q => p && q) n0 ws0 n1 ws1 = R := ⟨_, rfl⟩
  have hTl : T2.length ≤ 64 := by have := comR_len (fun p q => p && q) n0 ws0 n1 ws1; rw [hT] at this; exact this
  obtain ⟨lT, hlT⟩ : ∃ k, T2.length = k := ⟨_, rfl⟩
  rw [hlT] at hTl
  have HT := Lib.hid hT
  have HLT := Lib.hid hlT
  clear hT hlT
  obtain ⟨⟨U1, U2, U3⟩, hU⟩ : ∃ R, comR (fun p q => p && !q) n0 ws0 n1 ws1 = R := ⟨_, rfl⟩
  have hUl : U2.length ≤ 64 := by have := comR_len (fun p q => p && !q) n0 ws0 n1 ws1; rw [hU] at this; exact this
  obtain ⟨lU, hlU⟩ : ∃ k, U2.length = k := ⟨_, rfl⟩
  rw [hlU] at hUl
  have HU := Lib.hid hU
  have HLU := Lib.hid hlU
  clear hU hlU
  obtain ⟨⟨V1, V2, V3⟩, hV⟩ : ∃ R, compR n0 ws0 = R := ⟨_, rfl⟩
  have hVl : V2.length ≤ 64 := by have := compR_len n0 ws0; rw [hV] at this; exact this
  obtain ⟨lV, hlV⟩ : ∃ k, V2.length = k := ⟨_, rfl⟩
  rw [hlV] at hVl
  have HV := Lib.hid hV
  have HLV := Lib.hid hlV
  clear hV hlV
  have q0a := HS.out.hd.c0
  have q0b := HS.out.hd.c1
  have q1a := HS.out.tl.hd.c0
  have q1b := HS.out.tl.hd.c1
  go_wp2_with fail
  go_at_call 30
  refine (union_b n0 A0 l0 c0 ws0 n1 A1 l1 c1 ws1 (R1, R2, R3) HR _ HS.out.hd.wd HS.out.tl.hd.wd).mono ?_
  rintro e v1 ⟨⟨B1, k1, rfl, hO⟩, hb⟩
  simp only [HLR.out] at hO ⊢
  obtain ⟨hs, hbb⟩ := HS.out.push HB.out (n := R1) hO hb
  have HSn := Lib.hid hs
  have HBn := Lib.hid hbb
  clear hO hb hs hbb HS HB q0a q0b q1a q1b
  go_upto_region 6 with fail
  obtain ⟨w1, hw⟩ : ∃ w1, v1.alloc (.cells #[.int .i64 R1, .slice B1 lR k1] 24) = w1 := ⟨_, rfl⟩
  obtain ⟨b1, hb⟩ : ∃ b, v1.heap.size = b := ⟨_, rfl⟩
  rw [hw, hb] at HSn
  rw [hw] at HBn
  rw [hw, hb]
  clear hw hb
  rename Hid (Sets _ _) => HS
  rename Hid (Below w.heap.size w _) => HB
  have q1a := HS.out.tl.hd.c0
  have q1b := HS.out.tl.hd.c1
  have q2a := HS.out.tl.tl.hd.c0
  have q2b := HS.out.tl.tl.hd.c1
  go_wp2_with fail
  go_at_call 31
  refine (intersect_b n0 A0 l0 c0 ws0 n1 A1 l1 c1 ws1 (T1, T2, T3) HT _ HS.out.tl.hd.wd HS.out.tl.tl.hd.wd).mono ?_
  rintro e v2 ⟨⟨B2, k2, rfl, hO⟩, hb⟩
  simp only [HLT.out] at hO ⊢
  obtain ⟨hs, hbb⟩ := HS.out.push HB.out (n := T1) hO hb
  have HSn := Lib.hid hs
  have HBn := Lib.hid hbb
  clear hO hb hs hbb HS HB q1a q1b q2a q2b
  go_upto_region 7 with fail
  obtain ⟨w2, hw⟩ : ∃ w2, v2.alloc (.cells #[.int .i64 T1, .slice B2 lT k2] 24) = w2 := ⟨_, rfl⟩
  obtain ⟨b2, hb⟩ : ∃ b, v2.heap.size = b := ⟨_, rfl⟩
  rw [hw, hb] at HSn
  rw [hw] at HBn
  rw [hw, hb]
  clear hw hb
  rename Hid (Sets _ _) => HS
  rename Hid (Below w.heap.size w _) => HB
  have q2a := HS.out.tl.tl.hd.c0
  have q2b := HS.out.tl.tl.hd.c1
  have q3a := HS.out.tl.tl.tl.hd.c0
  have q3b := HS.out.tl.tl.tl.hd.c1
  go_wp2_with fail
  go_at_call 32
  refine (minus_b n0 A0 l0 c0 ws0 n1 A1 l1 c1 ws1 (U1, U2, U3) HU _ HS.out.tl.tl.hd.wd HS.out.tl.tl.tl.hd.wd).mono ?_
  rintro e v3 ⟨⟨B3, k3, rfl, hO⟩, hb⟩
  simp only [HLU.out] at hO ⊢
  obtain ⟨hs, hbb⟩ := HS.out.push HB.out (n := U1) hO hb
  have HSn := Lib.hid hs
  have HBn := Lib.hid hbb
  clear hO hb hs hbb HS HB q2a q2b q3a q3b
  go_upto_region 8 with fail
  obtain ⟨w3, hw⟩ : ∃ w3, v3.alloc (.cells #[.int .i64 U1, .slice B3 lU k3] 24) = w3 := ⟨_, rfl⟩
  obtain ⟨b3, hb⟩ : ∃ b, v3.heap.size = b := ⟨_, rfl⟩
  rw [hw, hb] at HSn
  rw [hw] at HBn
  rw [hw, hb]
  clear hw hb
  rename Hid (Sets _ _) => HS
  rename Hid (Below w.heap.size w _) => HB
  have q3a := HS.out.tl.tl.tl.hd.c0
  have q3b := HS.out.tl.tl.tl.hd.c1
  go_wp2_with fail
  go_at_call 33
  refine (complement_b n0 A0 l0 c0 ws0 (V1, V2, V3) HV _ HS.out.tl.tl.tl.hd.wd).mono ?_
  rintro e v4 ⟨⟨B4, k4, rfl, hO⟩, hb⟩
  simp only [HLV.out] at hO ⊢
  obtain ⟨hs, hbb⟩ := HS.out.push HB.out (n := V1) hO hb
  have HSn := Lib.hid hs
  have HBn := Lib.hid hbb
  clear hO hb hs hbb HS HB q3a q3b
  go_upto_region 9 with fail
  obtain ⟨w4, hw⟩ : ∃ w4, v4.alloc (.cells #[.int .i64 V1, .slice B4 lV k4] 24) = w4 := ⟨_, rfl⟩
  obtain ⟨b4, hb⟩ : ∃ b, v4.heap.size = b := ⟨_, rfl⟩
  rw [hw, hb] at HSn
  rw [hw] at HBn
  rw [hw, hb]
  clear hw hb
  rename Hid (Sets _ _) => HS
  rename Hid (Below w.heap.size w _) => HB
  have q4a := HS.out.tl.tl.tl.tl.hd.c0
  have q4b := HS.out.tl.tl.tl.tl.hd.c1
  have q5a := HS.out.tl.tl.tl.tl.tl.hd.c0
  have q5b := HS.out.tl.tl.tl.tl.tl.hd.c1
  go_wp2_with fail
  go_at_call 34
  refine (runion_b n0 A0 l0 c0 ws0 n1 A1 l1 c1 ws1 (R1, R2, R3) HR _ HS.out.tl.tl.tl.tl.hd.wd HS.out.tl.tl.tl.tl.tl.hd.wd).mono ?_
  rintro e v5 ⟨⟨B5, k5, rfl, hO⟩, hb⟩
  simp only [HLR.out] at hO ⊢
  obtain ⟨hs, hbb⟩ := HS.out.push HB.out (n := R1) hO hb
  have HSn := Lib.hid hs
  have HBn := Lib.hid hbb
  clear hO hb hs hbb HS HB q4a q4b q5a q5b
  go_upto_region 10 with fail
  obtain ⟨w5, hw⟩ : ∃ w5, v5.alloc (.cells #[.int .i64 R1, .slice B5 lR k5] 24) = w5 := ⟨_, rfl⟩
  obtain ⟨b5, hb⟩ : ∃ b, v5.heap.size = b := ⟨_, rfl⟩
  rw [hw, hb] at HSn
  rw [hw] at HBn
  rw [hw, hb]
  clear hw hb
  rename Hid (Sets _ _) => HS
  rename Hid (Below w.heap.size w _) => HB
  have q5a := HS.out.tl.tl.tl.tl.tl.hd.c0
  have q5b := HS.out.tl.tl.tl.tl.tl.hd.c1
  have q6a := HS.out.tl.tl.tl.tl.tl.tl.hd.c0
  have q6b := HS.out.tl.tl.tl.tl.tl.tl.hd.c1
  go_wp2_with fail
  go_at_call 34
  refine (rintersect_b n0 A0 l0 c0 ws0 n1 A1 l1 c1 ws1 (T1, T2, T3) HT _ HS.out.tl.tl.tl.tl.tl.hd.wd HS.out.tl.tl.tl.tl.tl.tl.hd.wd).mono ?_
  rintro e v6 ⟨⟨B6, k6, rfl, hO⟩, hb⟩
  simp only [HLT.out] at hO ⊢
  obtain ⟨hs, hbb⟩ := HS.out.push HB.out (n := T1) hO hb
  have HSn := Lib.hid hs
  have HBn := Lib.hid hbb
  clear hO hb hs hbb HS HB q5a q5b q6a q6b
  go_upto_region 11 with fail
  obtain ⟨w6, hw⟩ : ∃ w6, v6.alloc (.cells #[.int .i64 T1, .slice B6 lT k6] 24) = w6 := ⟨_, rfl⟩
  obtain ⟨b6, hb⟩ : ∃ b, v6.heap.size = b := ⟨_, rfl⟩
  rw [hw, hb] at HSn
  rw [hw] at HBn
  rw [hw, hb]
  clear hw hb
  rename Hid (Sets _ _) => HS
  rename Hid (Below w.heap.size w _) => HB
  have q6a := HS.out.tl.tl.tl.tl.tl.tl.hd.c0
  have q6b := HS.out.tl.tl.tl.tl.tl.tl.hd.c1
  have q7a := HS.out.tl.tl.tl.tl.tl.tl.tl.hd.c0
  have q7b := HS.out.tl.tl.tl.tl.tl.tl.tl.hd.c1
  go_wp2_with fail
  go_at_call 34
  refine (rminus_b n0 A0 l0 c0 ws0 n1 A1 l1 c1 ws1 (U1, U2, U3) HU _ HS.out.tl.tl.tl.tl.tl.tl.hd.wd HS.out.tl.tl.tl.tl.tl.tl.tl.hd.wd).mono ?_
  rintro e v7 ⟨⟨B7, k7, rfl, hO⟩, hb⟩
  simp only [HLU.out] at hO ⊢
  obtain ⟨hs, hbb⟩ := HS.out.push HB.out (n := U1) hO hb
  have HSn := Lib.hid hs
  have HBn := Lib.hid hbb
  clear hO hb hs hbb HS HB q6a q6b q7a q7b
  go_upto_region 12 with fail
  obtain ⟨w7, hw⟩ : ∃ w7, v7.alloc (.cells #[.int .i64 U1, .slice B7 lU k7] 24) = w7 := ⟨_, rfl⟩
  obtain ⟨b7, hb⟩ : ∃ b, v7.heap.size = b := ⟨_, rfl⟩
  rw [hw, hb] at HSn
  rw [hw] at HBn
  rw [hw, hb]
  clear hw hb
  rename Hid (Sets _ _) => HS
  rename Hid (Below w.heap.size w _) => HB
  have q7a := HS.out.tl.tl.tl.tl.tl.tl.tl.hd.c0
  have q7b := HS.out.tl.tl.tl.tl.tl.tl.tl.hd.c1
  go_wp2_with fail
  go_at_call 35
  refine (rcomplement_b n0 A0 l0 c0 ws0 (V1, V2, V3) HV _ HS.out.tl.tl.tl.tl.tl.tl.tl.hd.wd).mono ?_
  rintro e v8 ⟨⟨B8, k8, rfl, hO⟩, hb⟩
  simp only [HLV.out] at hO ⊢
  obtain ⟨hs, hbb⟩ := HS.out.push HB.out (n := V1) hO hb
  have HSn := Lib.hid hs
  have HBn := Lib.hid hbb
  clear hO hb hs hbb HS HB q7a q7b
  go_upto_region 13 with fail
  obtain ⟨w8, hw⟩ : ∃ w8, v8.alloc (.cells #[.int .i64 V1, .slice B8 lV k8] 24) = w8 := ⟨_, rfl⟩
  obtain ⟨b8, hb⟩ : ∃ b, v8.heap.size = b := ⟨_, rfl⟩
  rw [hw, hb] at HSn
  rw [hw] at HBn
  rw [hw, hb]
  clear hw hb
  rename Hid (Sets _ _) => HS
  rename Hid (Below w.heap.size w _) => HB
  have X0 := HS.out
  have q0a := X0.hd.c0
  have q0b := X0.hd.c1
  have q1a := X0.tl.hd.c0
  have q1b := X0.tl.hd.c1
  have q2a := X0.tl.tl.hd.c0
  have q2b := X0.tl.tl.hd.c1
  have q3a := X0.tl.tl.tl.hd.c0
  have q3b := X0.tl.tl.tl.hd.c1
  have q4a := X0.tl.tl.tl.tl.hd.c0
  have q4b := X0.tl.tl.tl.tl.hd.c1
  have q5a := X0.tl.tl.tl.tl.tl.hd.c0
  have q5b := X0.tl.tl.tl.tl.tl.hd.c1
  have q6a := X0.tl.tl.tl.tl.tl.tl.hd.c0
  have q6b := X0.tl.tl.tl.tl.tl.tl.hd.c1
  have q7a := X0.tl.tl.tl.tl.tl.tl.tl.hd.c0
  have q7b := X0.tl.tl.tl.tl.tl.tl.tl.hd.c1
  have q8a := X0.tl.tl.tl.tl.tl.tl.tl.tl.hd.c0
  have q8b := X0.tl.tl.tl.tl.tl.tl.tl.tl.hd.c1
  have q9a := X0.tl.tl.tl.tl.tl.tl.tl.tl.tl.hd.c0
  have q9b := X0.tl.tl.tl.tl.tl.tl.tl.tl.tl.hd.c1
  go_wp2_with fail
  go_at_call 20
  refine (same_b R1 B1 lR k1 R2 R1 B5 lR k5 R2 true (same_val R1 R2) (by omega) _ X0.tl.tl.tl.tl.tl.tl.tl.hd.wd X0.tl.tl.tl.hd.wd).mono ?_
  rintro e u1 ⟨rfl, hb⟩
  have X1 := X0.next hb
  have Y1 := HB.out.trans (hb.mono HB.out.size)
  clear hb
  clear q0a q0b q1a q1b q2a q2b q3a q3b q4a q4b q5a q5b q6a q6b q7a q7b q8a q8b q9a q9b
  have q0a := X1.hd.c0
  have q0b := X1.hd.c1
  have q1a := X1.tl.hd.c0
  have q1b := X1.tl.hd.c1
  have q2a := X1.tl.tl.hd.c0
  have q2b := X1.tl.tl.hd.c1
  have q3a := X1.tl.tl.tl.hd.c0
  have q3b := X1.tl.tl.tl.hd.c1
  have q4a := X1.tl.tl.tl.tl.hd.c0
  have q4b := X1.tl.tl.tl.tl.hd.c1
  have q5a := X1.tl.tl.tl.tl.tl.hd.c0
  have q5b := X1.tl.tl.tl.tl.tl.hd.c1
  have q6a := X1.tl.tl.tl.tl.tl.tl.hd.c0
  have q6b := X1.tl.tl.tl.tl.tl.tl.hd.c1
  have q7a := X1.tl.tl.tl.tl.tl.tl.tl.hd.c0
  have q7b := X1.tl.tl.tl.tl.tl.tl.tl.hd.c1
  have q8a := X1.tl.tl.tl.tl.tl.tl.tl.tl.hd.c0
  have q8b := X1.tl.tl.tl.tl.tl.tl.tl.tl.hd.c1
  have q9a := X1.tl.tl.tl.tl.tl.tl.tl.tl.tl.hd.c0
  have q9b := X1.tl.tl.tl.tl.tl.tl.tl.tl.tl.hd.c1
  go_wp2_with fail
  go_at_call 20
  refine (same_b T1 B2 lT k2 T2 T1 B6 lT k6 T2 true (same_val T1 T2) (by omega) _ X1.tl.tl.tl.tl.tl.tl.hd.wd X1.tl.tl.hd.wd).mono ?_
  rintro e u2 ⟨rfl, hb⟩
  have X2 := X1.next hb
  have Y2 := Y1.trans (hb.mono Y1.size)
  clear hb
  clear q0a q0b q1a q1b q2a q2b q3a q3b q4a q4b q5a q5b q6a q6b q7a q7b q8a q8b q9a q9b
  have q0a := X2.hd.c0
  have q0b := X2.hd.c1
  have q1a := X2.tl.hd.c0
  have q1b := X2.tl.hd.c1
  have q2a := X2.tl.tl.hd.c0
  have q2b := X2.tl.tl.hd.c1
  have q3a := X2.tl.tl.tl.hd.c0
  have q3b := X2.tl.tl.tl.hd.c1
  have q4a := X2.tl.tl.tl.tl.hd.c0
  have q4b := X2.tl.tl.tl.tl.hd.c1
  have q5a := X2.tl.tl.tl.tl.tl.hd.c0
  have q5b := X2.tl.tl.tl.tl.tl.hd.c1
  have q6a := X2.tl.tl.tl.tl.tl.tl.hd.c0
  have q6b := X2.tl.tl.tl.tl.tl.tl.hd.c1
  have q7a := X2.tl.tl.tl.tl.tl.tl.tl.hd.c0
  have q7b := X2.tl.tl.tl.tl.tl.tl.tl.hd.c1
  have q8a := X2.tl.tl.tl.tl.tl.tl.tl.tl.hd.c0
  have q8b := X2.tl.tl.tl.tl.tl.tl.tl.tl.hd.c1
  have q9a := X2.tl.tl.tl.tl.tl.tl.tl.tl.tl.hd.c0
  have q9b := X2.tl.tl.tl.tl.tl.tl.tl.tl.tl.hd.c1
  go_wp2_with fail
  go_at_call 20
  refine (same_b U1 B3 lU k3 U2 U1 B7 lU k7 U2 true (same_val U1 U2) (by omega) _ X2.tl.tl.tl.tl.tl.hd.wd X2.tl.hd.wd).mono ?_
  rintro e u3 ⟨rfl, hb⟩
  have X3 := X2.next hb
  have Y3 := Y2.trans (hb.mono Y2.size)
  clear hb
  clear q0a q0b q1a q1b q2a q2b q3a q3b q4a q4b q5a q5b q6a q6b q7a q7b q8a q8b q9a q9b
  have q0a := X3.hd.c0
  have q0b := X3.hd.c1
  have q1a := X3.tl.hd.c0
  have q1b := X3.tl.hd.c1
  have q2a := X3.tl.tl.hd.c0
  have q2b := X3.tl.tl.hd.c1
  have q3a := X3.tl.tl.tl.hd.c0
  have q3b := X3.tl.tl.tl.hd.c1
  have q4a := X3.tl.tl.tl.tl.hd.c0
  have q4b := X3.tl.tl.tl.tl.hd.c1
  have q5a := X3.tl.tl.tl.tl.tl.hd.c0
  have q5b := X3.tl.tl.tl.tl.tl.hd.c1
  have q6a := X3.tl.tl.tl.tl.tl.tl.hd.c0
  have q6b := X3.tl.tl.tl.tl.tl.tl.hd.c1
  have q7a := X3.tl.tl.tl.tl.tl.tl.tl.hd.c0
  have q7b := X3.tl.tl.tl.tl.tl.tl.tl.hd.c1
  have q8a := X3.tl.tl.tl.tl.tl.tl.tl.tl.hd.c0
  have q8b := X3.tl.tl.tl.tl.tl.tl.tl.tl.hd.c1
  have q9a := X3.tl.tl.tl.tl.tl.tl.tl.tl.tl.hd.c0
  have q9b := X3.tl.tl.tl.tl.tl.tl.tl.tl.tl.hd.c1
  go_wp2_with fail
  go_at_call 20
  refine (same_b V1 B4 lV k4 V2 V1 B8 lV k8 V2 true (same_val V1 V2) (by omega) _ X3.tl.tl.tl.tl.hd.wd X3.hd.wd).mono ?_
  rintro e u4 ⟨rfl, hb⟩
  have X4 := X3.next hb
  have Y4 := Y3.trans (hb.mono Y3.size)
  clear hb
  clear q0a q0b q1a q1b q2a q2b q3a q3b q4a q4b q5a q5b q6a q6b q7a q7b q8a q8b q9a q9b
  go_wp2_with fail
  go_ret
  exact ⟨rfl, Y4⟩
end Go.Proofs.YtpapbpekihgnlaaDoor
