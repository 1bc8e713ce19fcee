/-
  The walk over BitsetBuilds.
-/
import Derived.Test.YtpapbpekihgnlaaDoorBsV
import Derived.Test.YtpapbpekihgnlaaDoorBsO
namespace Go.Proofs.YtpapbpekihgnlaaDoor
open Go.RowKit

set_option maxRecDepth 100000 in
set_option maxHeartbeats 4000000 in
theorem builds_b (n : Int) (A : Option Addr) (l c : Nat) (ws : List Nat) (z : Int) (B : Option Addr) (lb cb : Nat) (zs : List Int) (w : World) (hT : Tabs w) (hw : Wd w A l c ws) (hz : Zs w B lb cb zs) :
    Calls Tryd.prog 3 #[.agg #[.int .i64 n, .slice A l c], .int .i64 z, .slice B lb cb] w fun e w' => e = .returned (.bool true) ∧ Below w.heap.size w w' := by
  have hlm : l ≤ 9223372036854775807 := by have h1 := hw.cap; have h2 := hw.big; unfold maxLen at h2; omega
  have hlbm : lb ≤ 9223372036854775807 := by have h1 := hz.cap; have h2 := hz.big; unfold maxLen at h2; omega
  have HT := Lib.hid hT
  have HW := Lib.hid hw
  have HZ := Lib.hid hz
  clear hT hw hz
  go_enter Tryd.func3, Tryd.ntmps3
  go_wp2_with fail
  go_at_call 12
  refine (known_b _ (HT.out.below (boxS_below w n A l c))).mono ?_
  rintro e w0 ⟨rfl, hb⟩
  have HB0 := Lib.hid ((boxS_below w n A l c).trans (hb.mono (by simp [boxS])))
  have HS0 : Hid (Sets w0 [⟨w.heap.size, n, A, l, c, ws⟩]) := ⟨⟨(boxS_cs w n A l c).next hb, HW.out.below HB0.out⟩, trivial⟩
  clear hb
  have c0 := HS0.out.hd.c0
  have c1 := HS0.out.hd.c1
  by_cases h64 : 64 < l
  · have hd : decide ((64 : Int) < (l : Int)) = true := decide_eq_true (by omega)
    go_wp2_with fail
    go_ret
    exact ⟨rfl, HB0.out⟩
  by_cases h5 : 5000 < lb
  · have hd : decide ((64 : Int) < (l : Int)) = false := decide_eq_false (by omega)
    have hd5 : ((5000 : Int) < (lb : Int)) := by omega
    go_wp2_with fail
    go_ret
    exact ⟨rfl, HB0.out⟩
  have hd64 : decide ((64 : Int) < (l : Int)) = false := decide_eq_false (by omega)
  have hd5 : decide ((5000 : Int) < (lb : Int)) = false := decide_eq_false (by omega)
  have hl64 : ¬ ((64 : Int) < (l : Int)) := by omega
  have hl5 : ¬ ((5000 : Int) < (lb : Int)) := by omega
  obtain ⟨⟨R1, R2, R3⟩, hR⟩ : ∃ R, ofR z [] = R := ⟨_, rfl⟩
  obtain ⟨⟨S1, S2, S3⟩, hS⟩ : ∃ R, allR z = R := ⟨_, rfl⟩
  obtain ⟨⟨T1, T2, T3⟩, hTT⟩ : ∃ R, ofR z zs = R := ⟨_, rfl⟩
  have hRl : R2.length ≤ 64 := by have := ofR_len z []; rw [hR] at this; exact this
  have hSl : S2.length ≤ 64 := by have := allR_len z; rw [hS] at this; exact this
  have hTl : T2.length ≤ 64 := by have := ofR_len z zs; rw [hTT] at this; exact this
  obtain ⟨lr, hlr⟩ : ∃ k, R2.length = k := ⟨_, rfl⟩
  obtain ⟨ls, hls⟩ : ∃ k, S2.length = k := ⟨_, rfl⟩
  obtain ⟨lt, hlt⟩ : ∃ k, T2.length = k := ⟨_, rfl⟩
  rw [hlr] at hRl
  rw [hls] at hSl
  rw [hlt] at hTl
  have HR := Lib.hid hR
  have HS := Lib.hid hS
  have HTT := Lib.hid hTT
  have HLR := Lib.hid hlr
  have HLS := Lib.hid hls
  have HLT := Lib.hid hlt
  clear hR hS hTT hlr hls hlt
  go_wp2_with fail
  go_at_call 13
  refine (new_r z (R1, R2, R3) HR _).mono ?_
  rintro e v1 ⟨⟨A1, k1, rfl, hO⟩, hb⟩
  simp only [HLR.out] at hO ⊢
  obtain ⟨hs, hbb⟩ := HS0.out.push HB0.out (n := R1) hO hb
  have HS1 := Lib.hid hs
  have HB1 := Lib.hid hbb
  clear hO hb hs hbb HS0 HB0
  clear c0 c1
  go_upto_region 6 with fail
  obtain ⟨w1, hw⟩ : ∃ w1, v1.alloc (.cells #[.int .i64 R1, .slice A1 lr k1] 24) = w1 := ⟨_, rfl⟩
  obtain ⟨b1, hb⟩ : ∃ b, v1.heap.size = b := ⟨_, rfl⟩
  rw [hw, hb] at HS1
  rw [hw] at HB1
  rw [hw, hb]
  clear hw hb
  go_wp2_with fail
  go_at_call 14
  refine (all_r z (S1, S2, S3) HS _).mono ?_
  rintro e v2 ⟨⟨A2, k2, rfl, hO⟩, hb⟩
  simp only [HLS.out] at hO ⊢
  obtain ⟨hs, hbb⟩ := HS1.out.push HB1.out (n := S1) hO hb
  have HS2 := Lib.hid hs
  have HB2 := Lib.hid hbb
  clear hO hb hs hbb HS1 HB1
  go_upto_region 7 with fail
  obtain ⟨w2, hw⟩ : ∃ w2, v2.alloc (.cells #[.int .i64 S1, .slice A2 ls k2] 24) = w2 := ⟨_, rfl⟩
  obtain ⟨b2, hb⟩ : ∃ b, v2.heap.size = b := ⟨_, rfl⟩
  rw [hw, hb] at HS2
  rw [hw] at HB2
  rw [hw, hb]
  clear hw hb
  go_wp2_with fail
  go_at_call 15
  refine (of_b z B lb cb zs (by omega) (T1, T2, T3) HTT _ (HZ.out.below HB2.out)).mono ?_
  rintro e v3 ⟨⟨A3, k3, rfl, hO⟩, hb⟩
  simp only [HLT.out] at hO ⊢
  obtain ⟨hs, hbb⟩ := HS2.out.push HB2.out (n := T1) hO hb
  have HS3 := Lib.hid hs
  have HB3 := Lib.hid hbb
  clear hO hb hs hbb HS2 HB2
  go_upto_region 8 with fail
  obtain ⟨w3, hw⟩ : ∃ w3, v3.alloc (.cells #[.int .i64 T1, .slice A3 lt k3] 24) = w3 := ⟨_, rfl⟩
  obtain ⟨b3, hb⟩ : ∃ b, v3.heap.size = b := ⟨_, rfl⟩
  rw [hw, hb] at HS3
  rw [hw] at HB3
  rw [hw, hb]
  clear hw hb
  go_wp2_with fail
  go_at_call 16
  refine (rof_b z none 0 0 [] (by omega) (R1, R2, R3) HR _ (Zs.nil _)).mono ?_
  rintro e v4 ⟨⟨A4, k4, rfl, hO⟩, hb⟩
  simp only [HLR.out] at hO ⊢
  obtain ⟨hs, hbb⟩ := HS3.out.push HB3.out (n := R1) hO hb
  have HS4 := Lib.hid hs
  have HB4 := Lib.hid hbb
  clear hO hb hs hbb HS3 HB3
  go_upto_region 9 with fail
  obtain ⟨w4, hw⟩ : ∃ w4, v4.alloc (.cells #[.int .i64 R1, .slice A4 lr k4] 24) = w4 := ⟨_, rfl⟩
  obtain ⟨b4, hb⟩ : ∃ b, v4.heap.size = b := ⟨_, rfl⟩
  rw [hw, hb] at HS4
  rw [hw] at HB4
  rw [hw, hb]
  clear hw hb
  go_wp2_with fail
  go_at_call 17
  refine (rall_b z (S1, S2, S3) HS _).mono ?_
  rintro e v5 ⟨⟨A5, k5, rfl, hO⟩, hb⟩
  simp only [HLS.out] at hO ⊢
  obtain ⟨hs, hbb⟩ := HS4.out.push HB4.out (n := S1) hO hb
  have HS5 := Lib.hid hs
  have HB5 := Lib.hid hbb
  clear hO hb hs hbb HS4 HB4
  go_upto_region 10 with fail
  obtain ⟨w5, hw⟩ : ∃ w5, v5.alloc (.cells #[.int .i64 S1, .slice A5 ls k5] 24) = w5 := ⟨_, rfl⟩
  obtain ⟨b5, hb⟩ : ∃ b, v5.heap.size = b := ⟨_, rfl⟩
  rw [hw, hb] at HS5
  rw [hw] at HB5
  rw [hw, hb]
  clear hw hb
  go_wp2_with fail
  go_at_call 16
  refine (rof_b z B lb cb zs (by omega) (T1, T2, T3) HTT _ (HZ.out.below HB5.out)).mono ?_
  rintro e v6 ⟨⟨A6, k6, rfl, hO⟩, hb⟩
  simp only [HLT.out] at hO ⊢
  obtain ⟨hs, hbb⟩ := HS5.out.push HB5.out (n := T1) hO hb
  have HS6 := Lib.hid hs
  have HB6 := Lib.hid hbb
  clear hO hb hs hbb HS5 HB5
  go_upto_region 11 with fail
  obtain ⟨w6, hw⟩ : ∃ w6, v6.alloc (.cells #[.int .i64 T1, .slice A6 lt k6] 24) = w6 := ⟨_, rfl⟩
  obtain ⟨b6, hb⟩ : ∃ b, v6.heap.size = b := ⟨_, rfl⟩
  rw [hw, hb] at HS6
  rw [hw] at HB6
  rw [hw, hb]
  clear hw hb
  obtain ⟨v, hv⟩ : ∃ v, Bs.vld n ws = v := ⟨_, rfl⟩
  have HV := Lib.hid hv
  clear hv
  have X0 := HS6.out
  go_region_held3 (fun W => W.cell? ⟨b6, 0, none⟩ = some (.int .i64 T1) ∧ W.cell? ⟨b6, 1, none⟩ = some (.slice A6 lt k6) ∧ W.cell? ⟨b5, 0, none⟩ = some (.int .i64 S1) ∧ W.cell? ⟨b5, 1, none⟩ = some (.slice A5 ls k5) ∧ W.cell? ⟨b4, 0, none⟩ = some (.int .i64 R1) ∧ W.cell? ⟨b4, 1, none⟩ = some (.slice A4 lr k4) ∧ W.cell? ⟨b3, 0, none⟩ = some (.int .i64 T1) ∧ W.cell? ⟨b3, 1, none⟩ = some (.slice A3 lt k3) ∧ W.cell? ⟨b2, 0, none⟩ = some (.int .i64 S1) ∧ W.cell? ⟨b2, 1, none⟩ = some (.slice A2 ls k2) ∧ W.cell? ⟨b1, 0, none⟩ = some (.int .i64 R1) ∧ W.cell? ⟨b1, 1, none⟩ = some (.slice A1 lr k1) ∧ W.cell? ⟨w.heap.size, 0, none⟩ = some (.int .i64 n) ∧ W.cell? ⟨w.heap.size, 1, none⟩ = some (.slice A l c)) (first | exact ⟨X0.drew.hd.c0, X0.drew.hd.c1, X0.drew.tl.hd.c0, X0.drew.tl.hd.c1, X0.drew.tl.tl.hd.c0, X0.drew.tl.tl.hd.c1, X0.drew.tl.tl.tl.hd.c0, X0.drew.tl.tl.tl.hd.c1, X0.drew.tl.tl.tl.tl.hd.c0, X0.drew.tl.tl.tl.tl.hd.c1, X0.drew.tl.tl.tl.tl.tl.hd.c0, X0.drew.tl.tl.tl.tl.tl.hd.c1, X0.drew.tl.tl.tl.tl.tl.tl.hd.c0, X0.drew.tl.tl.tl.tl.tl.tl.hd.c1⟩ | exact ⟨X1.hd.c0, X1.hd.c1, X1.tl.hd.c0, X1.tl.hd.c1, X1.tl.tl.hd.c0, X1.tl.tl.hd.c1, X1.tl.tl.tl.hd.c0, X1.tl.tl.tl.hd.c1, X1.tl.tl.tl.tl.hd.c0, X1.tl.tl.tl.tl.hd.c1, X1.tl.tl.tl.tl.tl.hd.c0, X1.tl.tl.tl.tl.tl.hd.c1, X1.tl.tl.tl.tl.tl.tl.hd.c0, X1.tl.tl.tl.tl.tl.tl.hd.c1⟩ | exact ⟨X2.hd.c0, X2.hd.c1, X2.tl.hd.c0, X2.tl.hd.c1, X2.tl.tl.hd.c0, X2.tl.tl.hd.c1, X2.tl.tl.tl.hd.c0, X2.tl.tl.tl.hd.c1, X2.tl.tl.tl.tl.hd.c0, X2.tl.tl.tl.tl.hd.c1, X2.tl.tl.tl.tl.tl.hd.c0, X2.tl.tl.tl.tl.tl.hd.c1, X2.tl.tl.tl.tl.tl.tl.hd.c0, X2.tl.tl.tl.tl.tl.tl.hd.c1⟩ | exact ⟨X3.hd.c0, X3.hd.c1, X3.tl.hd.c0, X3.tl.hd.c1, X3.tl.tl.hd.c0, X3.tl.tl.hd.c1, X3.tl.tl.tl.hd.c0, X3.tl.tl.tl.hd.c1, X3.tl.tl.tl.tl.hd.c0, X3.tl.tl.tl.tl.hd.c1, X3.tl.tl.tl.tl.tl.hd.c0, X3.tl.tl.tl.tl.tl.hd.c1, X3.tl.tl.tl.tl.tl.tl.hd.c0, X3.tl.tl.tl.tl.tl.tl.hd.c1⟩ | exact ⟨X4.hd.c0, X4.hd.c1, X4.tl.hd.c0, X4.tl.hd.c1, X4.tl.tl.hd.c0, X4.tl.tl.hd.c1, X4.tl.tl.tl.hd.c0, X4.tl.tl.tl.hd.c1, X4.tl.tl.tl.tl.hd.c0, X4.tl.tl.tl.tl.hd.c1, X4.tl.tl.tl.tl.tl.hd.c0, X4.tl.tl.tl.tl.tl.hd.c1, X4.tl.tl.tl.tl.tl.tl.hd.c0, X4.tl.tl.tl.tl.tl.tl.hd.c1⟩ | exact ⟨X5.hd.c0, X5.hd.c1, X5.tl.hd.c0, X5.tl.hd.c1, X5.tl.tl.hd.c0, X5.tl.tl.hd.c1, X5.tl.tl.tl.hd.c0, X5.tl.tl.tl.hd.c1, X5.tl.tl.tl.tl.hd.c0, X5.tl.tl.tl.tl.hd.c1, X5.tl.tl.tl.tl.tl.hd.c0, X5.tl.tl.tl.tl.tl.hd.c1, X5.tl.tl.tl.tl.tl.tl.hd.c0, X5.tl.tl.tl.tl.tl.tl.hd.c1⟩) (first
    | (go_at_call 18; refine (valid_b n A l c ws v HV _ X0.drew.tl.tl.tl.tl.tl.tl.hd.wd).mono ?_; rintro e u1 ⟨rfl, hb⟩; have X1 := X0.drew.next hb; have Y1 := HB6.out.drew.trans (hb.mono HB6.out.drew.size); clear hb)
    | (go_at_call 19; refine (rvalid_b n A l c ws v HV _ X1.tl.tl.tl.tl.tl.tl.hd.wd).mono ?_; rintro e u2 ⟨rfl, hb⟩; have X2 := X1.next hb; have Y2 := Y1.trans (hb.mono Y1.size); clear hb)
    | (go_at_call_of 20 A1; refine (same_b R1 A1 lr k1 R2 R1 A4 lr k4 R2 true (same_val R1 R2) (by omega) _ X2.tl.tl.tl.tl.tl.hd.wd X2.tl.tl.hd.wd).mono ?_; rintro e u3 ⟨rfl, hb⟩; have X3 := X2.next hb; have Y3 := Y2.trans (hb.mono Y2.size); clear hb)
    | (go_at_call_of 20 A2; refine (same_b S1 A2 ls k2 S2 S1 A5 ls k5 S2 true (same_val S1 S2) (by omega) _ X3.tl.tl.tl.tl.hd.wd X3.tl.hd.wd).mono ?_; rintro e u4 ⟨rfl, hb⟩; have X4 := X3.next hb; have Y4 := Y3.trans (hb.mono Y3.size); clear hb)
    | (go_at_call_of 20 A3; refine (same_b T1 A3 lt k3 T2 T1 A6 lt k6 T2 true (same_val T1 T2) (by omega) _ X4.tl.tl.tl.hd.wd X4.hd.wd).mono ?_; rintro e u5 ⟨rfl, hb⟩; have X5 := X4.next hb; have Y5 := Y4.trans (hb.mono Y4.size); clear hb))
  go_wp2_with fail
  go_ret
  exact ⟨rfl, Y5⟩
end Go.Proofs.YtpapbpekihgnlaaDoor
