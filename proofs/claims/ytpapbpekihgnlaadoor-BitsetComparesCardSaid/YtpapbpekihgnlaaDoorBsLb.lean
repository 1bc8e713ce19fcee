/-
  The walk over BitsetCompares.
-/
import Derived.Test.YtpapbpekihgnlaaDoorBsZc
namespace Go.Proofs.YtpapbpekihgnlaaDoor
open Go.RowKit

set_option maxRecDepth 100000 in
set_option maxHeartbeats 4000000 in
theorem compares_b (n0 : Int) (A0 : Option Addr) (l0 c0 : Nat) (ws0 : List Nat) (n1 : Int) (A1 : Option Addr) (l1 c1 : Nat) (ws1 : List Nat) (w : World) (hT : Tabs w) (hw0 : Wd w A0 l0 c0 ws0) (hw1 : Wd w A1 l1 c1 ws1) :
    Calls Tryd.prog 5 #[.agg #[.int .i64 n0, .slice A0 l0 c0], .agg #[.int .i64 n1, .slice A1 l1 c1]] w fun e w' => e = .returned (.bool true) ∧ Below w.heap.size w w' := by
  have hlm0 : l0 ≤ 9223372036854775807 := by have h1 := hw0.cap; have h2 := hw0.big; unfold maxLen at h2; omega
  have HW0 := Lib.hid hw0
  have hlm1 : l1 ≤ 9223372036854775807 := by have h1 := hw1.cap; have h2 := hw1.big; unfold maxLen at h2; omega
  have HW1 := Lib.hid hw1
  have HT := Lib.hid hT
  have HX := Lib.hid (boxT_below w n0 A0 l0 c0 n1 A1 l1 c1)
  have HCS0 := Lib.hid ((boxT_cs w n0 A0 l0 c0 n1 A1 l1 c1).1)
  have HCS1 := Lib.hid ((boxT_cs w n0 A0 l0 c0 n1 A1 l1 c1).2)
  clear hT hw0 hw1
  go_enter Tryd.func5, Tryd.ntmps5
  go_wp2_with fail
  go_at_call 12
  refine (known_b _ (HT.out.below HX.out)).mono ?_
  rintro e v0 ⟨rfl, hb⟩
  have HB := Lib.hid (HX.out.trans (hb.mono HX.out.size))
  have HS : Hid (Sets v0 [⟨w.heap.size, n0, A0, l0, c0, ws0⟩, ⟨w.heap.size + 1, n1, A1, l1, c1, ws1⟩]) := ⟨⟨HCS0.out.next hb, HW0.out.below HB.out⟩, ⟨HCS1.out.next hb, HW1.out.below HB.out⟩, trivial⟩
  clear hb HX HCS0 HCS1
  have q0a := HS.out.hd.c0
  have q0b := HS.out.hd.c1
  have q1a := HS.out.tl.hd.c0
  have q1b := HS.out.tl.hd.c1
  by_cases h640 : 64 < l0
  · have hd0 : decide ((64 : Int) < (l0 : Int)) = true := decide_eq_true (by omega)
    have he0 : (64 : Int) < (l0 : Int) := by omega
    go_wp2_with fail
    go_ret
    exact ⟨rfl, HB.out⟩
  have hd0 : decide ((64 : Int) < (l0 : Int)) = false := decide_eq_false (by omega)
  have he0 : ¬ ((64 : Int) < (l0 : Int)) := by omega
  by_cases h641 : 64 < l1
  · have hd1 : decide ((64 : Int) < (l1 : Int)) = true := decide_eq_true (by omega)
    have he1 : (64 : Int) < (l1 : Int) := by omega
    go_wp2_with fail
    go_ret
    exact ⟨rfl, HB.out⟩
  have hd1 : decide ((64 : Int) < (l1 : Int)) = false := decide_eq_false (by omega)
  have he1 : ¬ ((64 : Int) < (l1 : Int)) := by omega
  go_upto_region 5 with fail
  clear q0a q0b q1a q1b
  obtain ⟨p, hp⟩ : ∃ p, eqR n0 ws0 n1 ws1 = p := ⟨_, rfl⟩
  obtain ⟨q, hq⟩ : ∃ q, subR n0 ws0 n1 ws1 = q := ⟨_, rfl⟩
  obtain ⟨v, hv⟩ : ∃ v, Bs.vld n0 ws0 = v := ⟨_, rfl⟩
  have he : eqR n0 ws0 n0 ws0 = v := by rw [← hv]; exact eqR_self _ _
  have HP := Lib.hid hp
  have HQ := Lib.hid hq
  have HV := Lib.hid hv
  have HE := Lib.hid he
  clear hp hq hv he
  have X0 := HS.out
  go_region_held3 (fun W => W.cell? ⟨w.heap.size, 0, none⟩ = some (.int .i64 n0) ∧ W.cell? ⟨w.heap.size, 1, none⟩ = some (.slice A0 l0 c0) ∧ W.cell? ⟨w.heap.size + 1, 0, none⟩ = some (.int .i64 n1) ∧ W.cell? ⟨w.heap.size + 1, 1, none⟩ = some (.slice A1 l1 c1)) (first | exact ⟨X0.drew.hd.c0, X0.drew.hd.c1, X0.drew.tl.hd.c0, X0.drew.tl.hd.c1⟩ | exact ⟨X1.hd.c0, X1.hd.c1, X1.tl.hd.c0, X1.tl.hd.c1⟩ | exact ⟨X2.hd.c0, X2.hd.c1, X2.tl.hd.c0, X2.tl.hd.c1⟩ | exact ⟨X3.hd.c0, X3.hd.c1, X3.tl.hd.c0, X3.tl.hd.c1⟩ | exact ⟨X4.hd.c0, X4.hd.c1, X4.tl.hd.c0, X4.tl.hd.c1⟩ | exact ⟨X5.hd.c0, X5.hd.c1, X5.tl.hd.c0, X5.tl.hd.c1⟩ | exact ⟨X6.hd.c0, X6.hd.c1, X6.tl.hd.c0, X6.tl.hd.c1⟩) (first
    | (go_at_call_of 26 A1; refine (equal_b n0 A0 l0 c0 ws0 n1 A1 l1 c1 ws1 p HP _ X0.drew.hd.wd X0.drew.tl.hd.wd).mono ?_; rintro e u1 ⟨rfl, hb⟩; have X1 := X0.drew.next hb; have Y1 := HB.out.drew.trans (hb.mono HB.out.drew.size); clear hb)
    | (go_at_call 27; refine (requal_b n0 A0 l0 c0 ws0 n1 A1 l1 c1 ws1 p HP _ X1.hd.wd X1.tl.hd.wd).mono ?_; rintro e u2 ⟨rfl, hb⟩; have X2 := X1.next hb; have Y2 := Y1.trans (hb.mono Y1.size); clear hb)
    | (go_at_call 28; refine (subset_b n0 A0 l0 c0 ws0 n1 A1 l1 c1 ws1 q HQ _ X2.hd.wd X2.tl.hd.wd).mono ?_; rintro e u3 ⟨rfl, hb⟩; have X3 := X2.next hb; have Y3 := Y2.trans (hb.mono Y2.size); clear hb)
    | (go_at_call 29; refine (rsubset_b n0 A0 l0 c0 ws0 n1 A1 l1 c1 ws1 q HQ _ X3.hd.wd X3.tl.hd.wd).mono ?_; rintro e u4 ⟨rfl, hb⟩; have X4 := X3.next hb; have Y4 := Y3.trans (hb.mono Y3.size); clear hb)
    | (go_at_call 26; refine (equal_b n0 A0 l0 c0 ws0 n0 A0 l0 c0 ws0 v HE _ X4.hd.wd X4.hd.wd).mono ?_; rintro e u5 ⟨rfl, hb⟩; have X5 := X4.next hb; have Y5 := Y4.trans (hb.mono Y4.size); clear hb)
    | (go_at_call 19; refine (rvalid_b n0 A0 l0 c0 ws0 v HV _ X5.hd.wd).mono ?_; rintro e u6 ⟨rfl, hb⟩; have X6 := X5.next hb; have Y6 := Y5.trans (hb.mono Y5.size); clear hb))
  go_wp2_with fail
  go_ret
  exact ⟨rfl, Y6⟩
end Go.Proofs.YtpapbpekihgnlaaDoor
