/-
  The walk over BitsetChanges.
-/
import Derived.Test.YtpapbpekihgnlaaDoorBsZc
namespace Go.Proofs.YtpapbpekihgnlaaDoor
open Go.RowKit

set_option maxRecDepth 100000 in
set_option maxHeartbeats 4000000 in
theorem changes_b (n0 : Int) (A0 : Option Addr) (l0 c0 : Nat) (ws0 : List Nat) (z1 : Int) (w : World) (hT : Tabs w) (hw0 : Wd w A0 l0 c0 ws0) :
    Calls Tryd.prog 4 #[.agg #[.int .i64 n0, .slice A0 l0 c0], .int .i64 z1] w fun e w' => e = .returned (.bool true) ∧ Below w.heap.size w w' := by
  have hlm0 : l0 ≤ 9223372036854775807 := by have h1 := hw0.cap; have h2 := hw0.big; unfold maxLen at h2; omega
  have HW0 := Lib.hid hw0
  have HT := Lib.hid hT
  have HX := Lib.hid (boxS_below w n0 A0 l0 c0)
  have HCS0 := Lib.hid (boxS_cs w n0 A0 l0 c0)
  clear hT hw0
  go_enter Tryd.func4, Tryd.ntmps4
  go_wp2_with fail
  go_at_call 12
  refine (known_b _ (HT.out.below HX.out)).mono ?_
  rintro e v0 ⟨rfl, hb⟩
  have HB := Lib.hid (HX.out.trans (hb.mono HX.out.size))
  have HS : Hid (Sets v0 [⟨w.heap.size, n0, A0, l0, c0, ws0⟩]) := ⟨⟨HCS0.out.next hb, HW0.out.below HB.out⟩, trivial⟩
  clear hb HX HCS0
  have q0a := HS.out.hd.c0
  have q0b := HS.out.hd.c1
  by_cases hh640 : 64 < l0
  · have hd0 : decide ((64 : Int) < (l0 : Int)) = true := decide_eq_true (by omega)
    have he0 : (64 : Int) < (l0 : Int) := by omega
    go_wp2_with fail
    go_ret
    exact ⟨rfl, HB.out⟩
  have hd0 : decide ((64 : Int) < (l0 : Int)) = false := decide_eq_false (by omega)
  have he0 : ¬ ((64 : Int) < (l0 : Int)) := by omega
  go_upto_region 5 with fail
  clear q0a q0b
  obtain ⟨⟨R1, R2, R3⟩, hR⟩ : ∃ R, chR n0 ws0 z1 true = R := ⟨_, rfl⟩
  have hRl : R2.length ≤ 64 := by have := chR_len n0 ws0 z1 true; rw [hR] at this; exact this
  obtain ⟨lR, hlR⟩ : ∃ k, R2.length = k := ⟨_, rfl⟩
  rw [hlR] at hRl
  have HR := Lib.hid hR
  have HLR := Lib.hid hlR
  clear hR hlR
  obtain ⟨⟨T1, T2, T3⟩, hT⟩ : ∃ R, chR n0 ws0 z1 false = R := ⟨_, rfl⟩
  have hTl : T2.length ≤ 64 := by have := chR_len n0 ws0 z1 false; rw [hT] at this; exact this
  obtain ⟨lT, hlT⟩ : ∃ k, T2.length = k := ⟨_, rfl⟩
  rw [hlT] at hTl
  have HT := Lib.hid hT
  have HLT := Lib.hid hlT
  clear hT hlT
  have q0a := HS.out.hd.c0
  have q0b := HS.out.hd.c1
  go_wp2_with fail
  go_at_call 21
  refine (with_b n0 A0 l0 c0 ws0 z1 (R1, R2, R3) HR _ HS.out.hd.wd).mono ?_
  rintro e v1 ⟨⟨B1, k1, rfl, hO⟩, hb⟩
  simp only [HLR.out] at hO ⊢
  obtain ⟨hs, hbb⟩ := HS.out.push HB.out (n := R1) hO hb
  have HSn := Lib.hid hs
  have HBn := Lib.hid hbb
  clear hO hb hs hbb HS HB q0a q0b
  go_upto_region 6 with fail
  obtain ⟨w1, hw⟩ : ∃ w1, v1.alloc (.cells #[.int .i64 R1, .slice B1 lR k1] 24) = w1 := ⟨_, rfl⟩
  obtain ⟨b1, hb⟩ : ∃ b, v1.heap.size = b := ⟨_, rfl⟩
  rw [hw, hb] at HSn
  rw [hw] at HBn
  rw [hw, hb]
  clear hw hb
  rename Hid (Sets _ _) => HS
  rename Hid (Below w.heap.size w _) => HB
  have q1a := HS.out.tl.hd.c0
  have q1b := HS.out.tl.hd.c1
  go_wp2_with fail
  go_at_call 22
  refine (without_b n0 A0 l0 c0 ws0 z1 (T1, T2, T3) HT _ HS.out.tl.hd.wd).mono ?_
  rintro e v2 ⟨⟨B2, k2, rfl, hO⟩, hb⟩
  simp only [HLT.out] at hO ⊢
  obtain ⟨hs, hbb⟩ := HS.out.push HB.out (n := T1) hO hb
  have HSn := Lib.hid hs
  have HBn := Lib.hid hbb
  clear hO hb hs hbb HS HB q1a q1b
  go_upto_region 7 with fail
  obtain ⟨w2, hw⟩ : ∃ w2, v2.alloc (.cells #[.int .i64 T1, .slice B2 lT k2] 24) = w2 := ⟨_, rfl⟩
  obtain ⟨b2, hb⟩ : ∃ b, v2.heap.size = b := ⟨_, rfl⟩
  rw [hw, hb] at HSn
  rw [hw] at HBn
  rw [hw, hb]
  clear hw hb
  rename Hid (Sets _ _) => HS
  rename Hid (Below w.heap.size w _) => HB
  have q2a := HS.out.tl.tl.hd.c0
  have q2b := HS.out.tl.tl.hd.c1
  go_wp2_with fail
  go_at_call 23
  refine (rput_b n0 A0 l0 c0 ws0 z1 true (R1, R2, R3) HR _ HS.out.tl.tl.hd.wd).mono ?_
  rintro e v3 ⟨⟨B3, k3, rfl, hO⟩, hb⟩
  simp only [HLR.out] at hO ⊢
  obtain ⟨hs, hbb⟩ := HS.out.push HB.out (n := R1) hO hb
  have HSn := Lib.hid hs
  have HBn := Lib.hid hbb
  clear hO hb hs hbb HS HB q2a q2b
  go_upto_region 8 with fail
  obtain ⟨w3, hw⟩ : ∃ w3, v3.alloc (.cells #[.int .i64 R1, .slice B3 lR k3] 24) = w3 := ⟨_, rfl⟩
  obtain ⟨b3, hb⟩ : ∃ b, v3.heap.size = b := ⟨_, rfl⟩
  rw [hw, hb] at HSn
  rw [hw] at HBn
  rw [hw, hb]
  clear hw hb
  rename Hid (Sets _ _) => HS
  rename Hid (Below w.heap.size w _) => HB
  have q3a := HS.out.tl.tl.tl.hd.c0
  have q3b := HS.out.tl.tl.tl.hd.c1
  go_wp2_with fail
  go_at_call 23
  refine (rput_b n0 A0 l0 c0 ws0 z1 false (T1, T2, T3) HT _ HS.out.tl.tl.tl.hd.wd).mono ?_
  rintro e v4 ⟨⟨B4, k4, rfl, hO⟩, hb⟩
  simp only [HLT.out] at hO ⊢
  obtain ⟨hs, hbb⟩ := HS.out.push HB.out (n := T1) hO hb
  have HSn := Lib.hid hs
  have HBn := Lib.hid hbb
  clear hO hb hs hbb HS HB q3a q3b
  go_upto_region 9 with fail
  obtain ⟨w4, hw⟩ : ∃ w4, v4.alloc (.cells #[.int .i64 T1, .slice B4 lT k4] 24) = w4 := ⟨_, rfl⟩
  obtain ⟨b4, hb⟩ : ∃ b, v4.heap.size = b := ⟨_, rfl⟩
  rw [hw, hb] at HSn
  rw [hw] at HBn
  rw [hw, hb]
  clear hw hb
  rename Hid (Sets _ _) => HS
  rename Hid (Below w.heap.size w _) => HB
  obtain ⟨h, hh⟩ : ∃ h, hasR n0 ws0 z1 = h := ⟨_, rfl⟩
  have HH := Lib.hid hh
  clear hh
  have X0 := HS.out
  go_region_held3 (fun W => W.cell? ⟨b4, 0, none⟩ = some (.int .i64 T1) ∧ W.cell? ⟨b4, 1, none⟩ = some (.slice B4 lT k4) ∧ W.cell? ⟨b3, 0, none⟩ = some (.int .i64 R1) ∧ W.cell? ⟨b3, 1, none⟩ = some (.slice B3 lR k3) ∧ W.cell? ⟨b2, 0, none⟩ = some (.int .i64 T1) ∧ W.cell? ⟨b2, 1, none⟩ = some (.slice B2 lT k2) ∧ W.cell? ⟨b1, 0, none⟩ = some (.int .i64 R1) ∧ W.cell? ⟨b1, 1, none⟩ = some (.slice B1 lR k1) ∧ W.cell? ⟨w.heap.size, 0, none⟩ = some (.int .i64 n0) ∧ W.cell? ⟨w.heap.size, 1, none⟩ = some (.slice A0 l0 c0)) (first | exact ⟨X0.drew.hd.c0, X0.drew.hd.c1, X0.drew.tl.hd.c0, X0.drew.tl.hd.c1, X0.drew.tl.tl.hd.c0, X0.drew.tl.tl.hd.c1, X0.drew.tl.tl.tl.hd.c0, X0.drew.tl.tl.tl.hd.c1, X0.drew.tl.tl.tl.tl.hd.c0, X0.drew.tl.tl.tl.tl.hd.c1⟩ | exact ⟨X1.hd.c0, X1.hd.c1, X1.tl.hd.c0, X1.tl.hd.c1, X1.tl.tl.hd.c0, X1.tl.tl.hd.c1, X1.tl.tl.tl.hd.c0, X1.tl.tl.tl.hd.c1, X1.tl.tl.tl.tl.hd.c0, X1.tl.tl.tl.tl.hd.c1⟩ | exact ⟨X2.hd.c0, X2.hd.c1, X2.tl.hd.c0, X2.tl.hd.c1, X2.tl.tl.hd.c0, X2.tl.tl.hd.c1, X2.tl.tl.tl.hd.c0, X2.tl.tl.tl.hd.c1, X2.tl.tl.tl.tl.hd.c0, X2.tl.tl.tl.tl.hd.c1⟩ | exact ⟨X3.hd.c0, X3.hd.c1, X3.tl.hd.c0, X3.tl.hd.c1, X3.tl.tl.hd.c0, X3.tl.tl.hd.c1, X3.tl.tl.tl.hd.c0, X3.tl.tl.tl.hd.c1, X3.tl.tl.tl.tl.hd.c0, X3.tl.tl.tl.tl.hd.c1⟩ | exact ⟨X4.hd.c0, X4.hd.c1, X4.tl.hd.c0, X4.tl.hd.c1, X4.tl.tl.hd.c0, X4.tl.tl.hd.c1, X4.tl.tl.tl.hd.c0, X4.tl.tl.tl.hd.c1, X4.tl.tl.tl.tl.hd.c0, X4.tl.tl.tl.tl.hd.c1⟩) (first
    | (go_at_call 24; refine (has_b n0 A0 l0 c0 ws0 z1 h HH _ X0.drew.tl.tl.tl.tl.hd.wd).mono ?_; rintro e u1 ⟨rfl, hb⟩; have X1 := X0.drew.next hb; have Y1 := HB.out.drew.trans (hb.mono HB.out.drew.size); clear hb)
    | (go_at_call 25; refine (rhas_b n0 A0 l0 c0 ws0 z1 h HH _ X1.tl.tl.tl.tl.hd.wd).mono ?_; rintro e u2 ⟨rfl, hb⟩; have X2 := X1.next hb; have Y2 := Y1.trans (hb.mono Y1.size); clear hb)
    | (go_at_call_of 20 B1; refine (same_b R1 B1 lR k1 R2 R1 B3 lR k3 R2 true (same_val R1 R2) (by omega) _ X2.tl.tl.tl.hd.wd X2.tl.hd.wd).mono ?_; rintro e u3 ⟨rfl, hb⟩; have X3 := X2.next hb; have Y3 := Y2.trans (hb.mono Y2.size); clear hb)
    | (go_at_call_of 20 B2; refine (same_b T1 B2 lT k2 T2 T1 B4 lT k4 T2 true (same_val T1 T2) (by omega) _ X3.tl.tl.hd.wd X3.hd.wd).mono ?_; rintro e u4 ⟨rfl, hb⟩; have X4 := X3.next hb; have Y4 := Y3.trans (hb.mono Y3.size); clear hb))
  go_wp2_with fail
  go_ret
  exact ⟨rfl, Y4⟩
end Go.Proofs.YtpapbpekihgnlaaDoor
