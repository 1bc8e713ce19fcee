/-
  The worked example of the chapter; the walk over Same.
-/
import Derived.Test.YtpapbpekihgnlaaDoorBsN
namespace Go.Proofs.YtpapbpekihgnlaaDoor
open Go.RowKit

theorem of_known : ofR 8 [3, 0, 3] = (8, [9], 0) := by decide
theorem comp_known : compR 8 [9] = (8, [246], 0) := by decide
theorem dec_small (u : Nat) (h : u < 10) : Lib.decDigits u = [UInt8.ofNat (48 + u)] := by unfold Lib.decDigits; rw [dif_pos h]
theorem memb_known : membR 8 [9] = [0, 3] := by decide
theorem text_known : textR 8 [9] = [123, 48, 44, 32, 51, 125, 47, 56] := by
  unfold textR
  rw [if_pos (by decide), memb_known]
  simp only [parts, List.length_cons, List.length_nil]
  rw [show ([0, 3] : List Nat).getD 0 0 = 0 from rfl, show ([0, 3] : List Nat).getD (0 + 1) 0 = 3 from rfl, dec_small 0 (by omega), dec_small 3 (by omega), show (8 : Int).toNat = 8 from rfl, dec_small 8 (by omega)]
  rfl
theorem next_known0 : nextR 8 [9] 0 = 3 := by decide
theorem next_known3 : nextR 8 [9] 3 = -1 := by decide
theorem Wd.one {W : World} {A : Option Addr} {c x : Nat} (h : Wd W A 1 c [x]) : ∃ g f, A = some ⟨g, f, none⟩ ∧ g < W.heap.size ∧ W.cell? ⟨g, f, none⟩ = some (.int .u64 x) := by
  obtain ⟨g, f, h1, h2, h3⟩ := h.mem (by omega)
  exact ⟨g, f, h1, h2, h3 0 (by omega)⟩

set_option maxHeartbeats 2000000 in
theorem known_b (w : World) (hT : Tabs w) :
    Calls Tryd.prog 12 #[] w fun e w' => e = .returned (.bool true) ∧ Below w.heap.size w w' := by
  have HT := Lib.hid hT
  clear hT
  go_enter Tryd.func12, Tryd.ntmps12
  go_wp2_with fail
  go_at_call 15
  have hz : Zs (w.alloc (.cells #[.int .i64 3, .int .i64 0, .int .i64 3] 3)) (some ⟨w.heap.size, 0, none⟩) 3 3 [3, 0, 3] := by
    have hcs := Cs.new w #[.int .i64 3, .int .i64 0, .int .i64 3] 3
    refine ⟨rfl, Nat.le_refl _, by unfold maxLen; omega, fun _ => ⟨w.heap.size, 0, rfl, hcs.lt, fun j hj => ?_⟩⟩
    rw [Nat.zero_add]
    match j, hj with
    | 0, _ => exact hcs.at 0 _ rfl
    | 1, _ => exact hcs.at 1 _ rfl
    | 2, _ => exact hcs.at 2 _ rfl
  refine (of_b 8 _ 3 3 [3, 0, 3] (by omega) _ of_known _ hz).mono ?_
  rintro e w2 ⟨⟨A, c, rfl, hO⟩, hb⟩
  have HB := Lib.hid (Below.trans ((Below.refl _ w).alloc (Nat.le_refl _) (.cells #[.int .i64 3, .int .i64 0, .int .i64 3] 3)) (hb.mono (by simp)))
  have HW := Lib.hid (hO.wd : Wd w2 A 1 c [9])
  clear hO hb hz
  go_wp2_with fail
  go_at_call 33
  refine (complement_b 8 A 1 c [9] _ comp_known _ (HW.out.below (boxS_below w2 8 A 1 c))).mono ?_
  rintro e w3 ⟨⟨A', c', rfl, hO⟩, hb⟩
  have HC := Lib.hid ((boxS_cs w2 8 A 1 c).next hb)
  have HB3 := Lib.hid (HB.out.trans (((boxS_below w2 8 A 1 c).trans (hb.mono (by simp [boxS]))).mono HB.out.size))
  have HW3 := Lib.hid (HW.out.below ((boxS_below w2 8 A 1 c).trans (hb.mono (by simp [boxS]))))
  have HW3' := Lib.hid (hO.wd : Wd w3 A' 1 c' [246])
  clear hO hb HB HW
  obtain ⟨g, f, hA, hg, hc⟩ := HW3.out.one
  obtain ⟨g', f', hA', hg', hc'⟩ := HW3'.out.one
  subst hA hA'
  have hlt := HC.out.lt
  have c0 := HC.out.at 0 _ rfl
  have c1 := HC.out.at 1 _ rfl
  go_wp2_with fail
  go_at_call 43
  have HBx := Lib.hid (boxS_below w3 8 (some ⟨g', f', none⟩) 1 c')
  have HCx := Lib.hid (boxS_cs w3 8 (some ⟨g', f', none⟩) 1 c')
  refine (text_b 8 (some ⟨g, f, none⟩) 1 c [9] _ text_known _ (HT.out.below (HB3.out.trans (HBx.out.mono HB3.out.size))) (HW3.out.below HBx.out)).mono ?_
  rintro e w4 ⟨rfl, hb⟩
  have HB34 : Hid (Below w3.heap.size w3 w4) := HBx.out.trans (hb.mono HBx.out.size)
  have HC4 := Lib.hid (HC.out.next HB34.out)
  have HD4 := Lib.hid (HCx.out.next hb)
  have HW4 := Lib.hid (HW3.out.below HB34.out)
  have HW4' := Lib.hid (HW3'.out.below HB34.out)
  have HB4 := Lib.hid (HB3.out.trans (HB34.out.mono HB3.out.size))
  clear hb HB34 HBx HCx HC HW3 HW3' hlt c0 c1 hg hg' hc hc' HB3
  obtain ⟨g, f, hA, hg, hc⟩ := HW4.out.one
  obtain ⟨g', f', hA', hg', hc'⟩ := HW4'.out.one
  cases hA
  cases hA'
  have c0 := HC4.out.at 0 _ rfl
  have c1 := HC4.out.at 1 _ rfl
  have d0 := HD4.out.at 0 _ rfl
  have d1 := HD4.out.at 1 _ rfl
  go_wp2_with fail
  go_at_call 42
  refine (next_b 8 (some ⟨g, f, none⟩) 1 c [9] 0 _ next_known0 _ HW4.out).mono ?_
  rintro e w5 ⟨rfl, hb⟩
  have HC5 := Lib.hid (HC4.out.next hb)
  have HW5 := Lib.hid (HW4.out.below hb)
  have HB5 := Lib.hid (HB4.out.trans (hb.mono HB4.out.size))
  clear hb HC4 HD4 HW4 HW4' c0 c1 d0 d1 hg hg' hc hc' HB4
  have c0 := HC5.out.at 0 _ rfl
  have c1 := HC5.out.at 1 _ rfl
  go_wp2_with fail
  go_at_call 42
  refine (next_b 8 (some ⟨g, f, none⟩) 1 c [9] 3 _ next_known3 _ HW5.out).mono ?_
  rintro e w6 ⟨rfl, hb⟩
  have HB6 := Lib.hid (HB5.out.trans (hb.mono HB5.out.size))
  clear hb
  go_wp2_with fail
  go_ret
  exact ⟨rfl, HB6.out⟩
end Go.Proofs.YtpapbpekihgnlaaDoor
