/-
  The walk over BitsetCounts.
-/
import Derived.Test.YtpapbpekihgnlaaDoorBsZc
namespace Go.Proofs.YtpapbpekihgnlaaDoor
open Go.RowKit

set_option maxRecDepth 100000 in
set_option maxHeartbeats 4000000 in
theorem counts_b (n0 : Int) (A0 : Option Addr) (l0 c0 : Nat) (ws0 : List Nat) (z1 : Int) (w : World) (hT : Tabs w) (hw0 : Wd w A0 l0 c0 ws0) :
    Calls Tryd.prog 7 #[.agg #[.int .i64 n0, .slice A0 l0 c0], .int .i64 z1] w fun e w' => e = .returned (.bool true) ∧ Below w.heap.size w w' := by
  have hlm0 : l0 ≤ 9223372036854775807 := by have h1 := hw0.cap; have h2 := hw0.big; unfold maxLen at h2; omega
  have HW0 := Lib.hid hw0
  have HT := Lib.hid hT
  have HX := Lib.hid (boxS_below w n0 A0 l0 c0)
  have HCS0 := Lib.hid (boxS_cs w n0 A0 l0 c0)
  clear hT hw0
  go_enter Tryd.func7, Tryd.ntmps7
  go_wp2_with fail
  go_at_call 12
  refine (known_b _ (HT.out.below HX.out)).mono ?_
  rintro e v0 ⟨rfl, hb⟩
  have HB := Lib.hid (HX.out.trans (hb.mono HX.out.size))
  have HS : Hid (Sets v0 [⟨w.heap.size, n0, A0, l0, c0, ws0⟩]) := ⟨⟨HCS0.out.next hb, HW0.out.below HB.out⟩, trivial⟩
  clear hb HX HCS0
  have q0a := HS.out.hd.c0
  have q0b := HS.out.hd.c1
  by_cases h640 : 64 < l0
  · have hd0 : decide ((64 : Int) < (l0 : Int)) = true := decide_eq_true (by omega)
    have he0 : (64 : Int) < (l0 : Int) := by omega
    go_wp2_with fail
    go_ret
    exact ⟨rfl, HB.out⟩
  have hd0 : decide ((64 : Int) < (l0 : Int)) = false := decide_eq_false (by omega)
  have he0 : ¬ ((64 : Int) < (l0 : Int)) := by omega
  go_upto_region 5 with fail
  clear q0a q0b
  obtain ⟨r, hr⟩ : ∃ r, membR n0 ws0 = r := ⟨_, rfl⟩
  have hr6 : r.length ≤ 4096 := by rw [← hr]; exact membR_len _ _
  obtain ⟨lr, hlr⟩ : ∃ k, r.length = k := ⟨_, rfl⟩
  have hcn : (membR n0 ws0).length = lr := by rw [hr, hlr]
  obtain ⟨p, hp⟩ : ∃ p, nextR n0 ws0 (-1) = p := ⟨_, rfl⟩
  obtain ⟨q, hq⟩ : ∃ q, nextR n0 ws0 z1 = q := ⟨_, rfl⟩
  rw [hlr] at hr6
  have HR := Lib.hid hr
  have HLR := Lib.hid hlr
  have HCN := Lib.hid hcn
  have HP := Lib.hid hp
  have HQ := Lib.hid hq
  clear hr hlr hcn hp hq
  have q0a := HS.out.hd.c0
  have q0b := HS.out.hd.c1
  go_wp2_with fail
  go_at_call 36
  refine (rmembers_b n0 A0 l0 c0 ws0 r HR _ HS.out.hd.wd).mono ?_
  rintro e v1 ⟨⟨B1, k1, rfl, hO⟩, hb⟩
  simp only [HLR.out] at hO ⊢
  have hz := (own_zs (by rw [HLR.out]; exact hO)).2
  have HZ := Lib.hid hz
  have HSn := Lib.hid (HS.out.next hb)
  have HBn := Lib.hid (HB.out.trans (hb.mono HB.out.size))
  clear hO hb hz HS HB
  rename Hid (Sets _ _) => HS
  rename Hid (Below w.heap.size w _) => HB
  clear q0a q0b
  go_upto_region 6 with fail
  have X0 := HS.out
  go_region_held3 (fun W => W.cell? ⟨w.heap.size, 0, none⟩ = some (.int .i64 n0) ∧ W.cell? ⟨w.heap.size, 1, none⟩ = some (.slice A0 l0 c0)) (first | exact ⟨X0.drew.hd.c0, X0.drew.hd.c1⟩ | exact ⟨X1.hd.c0, X1.hd.c1⟩ | exact ⟨X2.hd.c0, X2.hd.c1⟩ | exact ⟨X3.hd.c0, X3.hd.c1⟩ | exact ⟨X4.hd.c0, X4.hd.c1⟩ | exact ⟨X5.hd.c0, X5.hd.c1⟩ | exact ⟨X6.hd.c0, X6.hd.c1⟩ | exact ⟨X7.hd.c0, X7.hd.c1⟩) (first
    | (go_at_call_of 41 z1; refine (rnext_b n0 A0 l0 c0 ws0 z1 q HQ _ X6.hd.wd).mono ?_; rintro e u7 ⟨rfl, hb⟩; have X7 := X6.next hb; have Y7 := Y6.trans (hb.mono Y6.size); clear hb)
    | (go_at_call 37; refine (count_b n0 A0 l0 c0 ws0 lr HCN _ X0.drew.hd.wd).mono ?_; rintro e u1 ⟨rfl, hb⟩; have X1 := X0.drew.next hb; have Y1 := HB.out.drew.trans (hb.mono HB.out.drew.size); have Z1 := (HZ.out.below (Below.refl _ _).drew).below hb; clear hb)
    | (go_at_call 39; refine (members_b n0 A0 l0 c0 ws0 r HR _ (HT.out.below Y1).1 X1.hd.wd).mono ?_; rintro e u2 ⟨⟨M, km, rfl, hM⟩, hb⟩; have X2 := X1.next hb; have Y2 := Y1.trans (hb.mono Y1.size); simp only [HLR.out] at hM ⊢; have Z2 := Z1.below hb; have M2 := (own_zs (by rw [HLR.out]; exact hM)).2; clear hb)
    | (go_at_call 38; refine (equalI_b M lr km (ints r) B1 lr k1 (ints r) true (same_ints (ints r)) _ M2 Z2 (by omega)).mono ?_; rintro e u3 ⟨rfl, hb⟩; have X3 := X2.next hb; have Y3 := Y2.trans (hb.mono Y2.size); clear hb)
    | (go_at_call 40; refine (least_b n0 A0 l0 c0 ws0 p HP _ X3.hd.wd).mono ?_; rintro e u4 ⟨rfl, hb⟩; have X4 := X3.next hb; have Y4 := Y3.trans (hb.mono Y3.size); clear hb)
    | (go_at_call 41; refine (rnext_b n0 A0 l0 c0 ws0 (-1) p HP _ X4.hd.wd).mono ?_; rintro e u5 ⟨rfl, hb⟩; have X5 := X4.next hb; have Y5 := Y4.trans (hb.mono Y4.size); clear hb)
    | (go_at_call 42; refine (next_b n0 A0 l0 c0 ws0 z1 q HQ _ X5.hd.wd).mono ?_; rintro e u6 ⟨rfl, hb⟩; have X6 := X5.next hb; have Y6 := Y5.trans (hb.mono Y5.size); clear hb))
  go_wp2_with fail
  go_ret
  exact ⟨rfl, Y7⟩
end Go.Proofs.YtpapbpekihgnlaaDoor
