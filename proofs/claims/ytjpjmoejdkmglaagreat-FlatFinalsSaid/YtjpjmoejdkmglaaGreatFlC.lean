/-
  The walks over hull and corners.
-/
import Derived.Test.YtjpjmoejdkmglaaGreatFlB
namespace Go.Proofs.YtjpjmoejdkmglaaGreat
open Go.RowKit

set_option maxHeartbeats 1000000 in
theorem hull_b (a0 a1 b0 b1 r0 r1 : Int) (H0 : Hid (min a0 b0 = r0)) (H1 : Hid (max a1 b1 = r1)) (w : World) :
    Calls Tryz.prog 111 #[.agg #[.int .i64 a0, .int .i64 a1], .agg #[.int .i64 b0, .int .i64 b1]] w fun e w' => e = .returned (.agg #[.int .i64 r0, .int .i64 r1]) ∧ Below w.heap.size w w' := by
  have e0 : r0 = if b0 < a0 then b0 else a0 := by have := H0.out; split <;> omega
  have e1 : r1 = if a1 < b1 then b1 else a1 := by have := H1.out; split <;> omega
  clear H0 H1
  by_cases h0 : b0 < a0 <;> by_cases h1 : a1 < b1 <;> (
    simp only [h0, h1, if_true, if_false] at e0 e1
    subst e0 e1
    go_enter Tryz.func111, Tryz.ntmps111
    go_wp2_with fail
    go_returns
    exact ⟨rfl, by go_grown⟩)

set_option maxHeartbeats 1000000 in
theorem mul_b (a b r : Int) (H : Hid (a * b = r)) (ha : -2097152 ≤ a) (ha' : a ≤ 2097152) (hb : -2097152 ≤ b) (hb' : b ≤ 2097152) (w : World) :
    Calls Tryz.prog 110 #[.int .i64 a, .int .i64 b] w fun e w' => e = .returned (.int .i64 r) ∧ w = w' := by
  have h1 : -4398046511104 ≤ a * b ∧ a * b ≤ 4398046511104 := by
    have e1 : (a * b).natAbs ≤ 2097152 * 2097152 := by
      rw [Int.natAbs_mul]
      exact Nat.mul_le_mul (by omega) (by omega)
    omega
  have hwr : IntKind.i64.wrap (a * b) = a * b := IntWalk.i64_in _ (by omega)
  clear h1
  go_enter Tryz.func110, Tryz.ntmps110
  go_wp2_with fail
  go_ret
  exact ⟨ret_int (by first | exact H.out | (rw [hwr]; exact H.out)), rfl⟩

/-- The least and the greatest of the products at the ends. -/
def mulR (a0 a1 b0 b1 : Int) : Int × Int := (min (min (min (a0 * b0) (a0 * b1)) (a1 * b0)) (a1 * b1), max (max (max (a0 * b0) (a0 * b1)) (a1 * b0)) (a1 * b1))

set_option maxRecDepth 100000 in
set_option maxHeartbeats 2000000 in
theorem corners_b (a0 a1 b0 b1 : Int) (R : Int × Int) (H : Hid (mulR a0 a1 b0 b1 = R)) (ha : -2097152 ≤ a0) (ha' : a0 ≤ 2097152) (hc : -2097152 ≤ a1) (hc' : a1 ≤ 2097152) (hb : -2097152 ≤ b0) (hb' : b0 ≤ 2097152) (hd : -2097152 ≤ b1) (hd' : b1 ≤ 2097152) (w : World) :
    Calls Tryz.prog 109 #[.agg #[.int .i64 a0, .int .i64 a1], .agg #[.int .i64 b0, .int .i64 b1], .func (Fn.func 110) #[] #[]] w fun e w' => e = .returned (.agg #[.int .i64 R.1, .int .i64 R.2]) ∧ Below w.heap.size w w' := by
  obtain ⟨m0, hm0⟩ : ∃ x, a0 * b0 = x := ⟨_, rfl⟩
  obtain ⟨m1, hm1⟩ : ∃ x, a0 * b1 = x := ⟨_, rfl⟩
  obtain ⟨m2, hm2⟩ : ∃ x, a1 * b0 = x := ⟨_, rfl⟩
  obtain ⟨m3, hm3⟩ : ∃ x, a1 * b1 = x := ⟨_, rfl⟩
  unfold mulR at H
  rw [hm0, hm1, hm2, hm3] at H
  have HM0 := Lib.hid hm0
  have HM1 := Lib.hid hm1
  have HM2 := Lib.hid hm2
  have HM3 := Lib.hid hm3
  clear hm0 hm1 hm2 hm3
  go_enter Tryz.func109, Tryz.ntmps109
  go_wp2_with fail
  go_at_call 110
  refine (mul_b a0 b0 m0 HM0 ha ha' hb hb' _).mono ?_
  rintro e w2 ⟨rfl, rfl⟩
  go_upto_region 3 with fail
  obtain ⟨b, hbs⟩ : ∃ b, w.heap.size = b := ⟨_, rfl⟩
  have HW4 : Hid (Below w.heap.size w ((((w.alloc (.cells #[.int .i64 a0, .int .i64 a1] 132)).alloc (.cells #[.int .i64 b0, .int .i64 b1] 132)).alloc (.cells #[.int .i64 0, .int .i64 0] 132)).alloc (.cells #[.int .i64 m0, .int .i64 m0] 132))) := by show Below _ _ _; go_grown
  have ha4 := (((Cs.new w #[.int .i64 a0, .int .i64 a1] 132).alloc (.cells #[.int .i64 b0, .int .i64 b1] 132)).alloc (.cells #[.int .i64 0, .int .i64 0] 132)).alloc (.cells #[.int .i64 m0, .int .i64 m0] 132)
  have hb4 := ((Cs.new1 w (.cells #[.int .i64 a0, .int .i64 a1] 132) #[.int .i64 b0, .int .i64 b1] 132).alloc (.cells #[.int .i64 0, .int .i64 0] 132)).alloc (.cells #[.int .i64 m0, .int .i64 m0] 132)
  have hr4 := (Cs.new1 (w.alloc (.cells #[.int .i64 a0, .int .i64 a1] 132)) (.cells #[.int .i64 b0, .int .i64 b1] 132) #[.int .i64 0, .int .i64 0] 132).alloc (.cells #[.int .i64 m0, .int .i64 m0] 132)
  have ho4 := Cs.new1 ((w.alloc (.cells #[.int .i64 a0, .int .i64 a1] 132)).alloc (.cells #[.int .i64 b0, .int .i64 b1] 132)) (.cells #[.int .i64 0, .int .i64 0] 132) #[.int .i64 m0, .int .i64 m0] 132
  rw [show (w.alloc (.cells #[.int .i64 a0, .int .i64 a1] 132)).heap.size + 1 = w.heap.size + 1 + 1 by simp] at hr4
  rw [show ((w.alloc (.cells #[.int .i64 a0, .int .i64 a1] 132)).alloc (.cells #[.int .i64 b0, .int .i64 b1] 132)).heap.size + 1 = w.heap.size + 1 + 1 + 1 by simp] at ho4
  generalize hw4 : (((w.alloc (.cells #[.int .i64 a0, .int .i64 a1] 132)).alloc (.cells #[.int .i64 b0, .int .i64 b1] 132)).alloc (.cells #[.int .i64 0, .int .i64 0] 132)).alloc (.cells #[.int .i64 m0, .int .i64 m0] 132) = w4 at HW4 ha4 hb4 hr4 ho4 ⊢
  rw [hbs] at ha4 hb4 hr4 ho4 ⊢
  have HA := Lib.hid ha4
  have HB := Lib.hid hb4
  have HR := Lib.hid hr4
  have HO := Lib.hid ho4
  have HBS := Lib.hid hbs
  clear ha4 hb4 hr4 ho4 hw4 hbs
  have kp : ∀ W, Below w4.heap.size w4 W → (W.cell? ⟨b, 0, none⟩ = some (.int .i64 a0) ∧ W.cell? ⟨b, 1, none⟩ = some (.int .i64 a1) ∧ W.cell? ⟨b + 1, 0, none⟩ = some (.int .i64 b0) ∧ W.cell? ⟨b + 1, 1, none⟩ = some (.int .i64 b1)) := fun W h => ⟨(HA.out.next h).at 0 _ rfl, (HA.out.next h).at 1 _ rfl, (HB.out.next h).at 0 _ rfl, (HB.out.next h).at 1 _ rfl⟩
  have KP := Lib.hid kp
  clear kp
  go_region_held3 (fun W => W.cell? ⟨b, 0, none⟩ = some (.int .i64 a0) ∧ W.cell? ⟨b, 1, none⟩ = some (.int .i64 a1) ∧ W.cell? ⟨b + 1, 0, none⟩ = some (.int .i64 b0) ∧ W.cell? ⟨b + 1, 1, none⟩ = some (.int .i64 b1)) (exact KP.out _ (by go_grown)) (first
    | (go_at_call_of 110 a0; refine (mul_b a0 b1 m1 HM1 ha ha' hd hd' _).mono ?_; rintro e w3 ⟨rfl, rfl⟩)
    | (go_at_call_of 110 b0; refine (mul_b a1 b0 m2 HM2 hc hc' hb hb' _).mono ?_; rintro e w3 ⟨rfl, rfl⟩)
    | (go_at_call 110; refine (mul_b a1 b1 m3 HM3 hc hc' hd hd' _).mono ?_; rintro e w3 ⟨rfl, rfl⟩))
  rename_i hHeld
  clear hHeld
  have hba := ((Below.refl w4.heap.size w4).alloc (Nat.le_refl _) (.cells #[.int .i64 m1, .int .i64 m2, .int .i64 m3] 3)).drew
  have HM5 := Lib.hid ((Cs.new w4 #[.int .i64 m1, .int .i64 m2, .int .i64 m3] 3).drew)
  have HR5 := Lib.hid (HR.out.next hba)
  have HO5 := Lib.hid (HO.out.next hba)
  have HB5 := Lib.hid (HW4.out.trans (hba.mono HW4.out.size))
  have hg5 : b + 1 + 1 + 1 < w4.heap.size := HO.out.lt
  obtain ⟨g, hg⟩ : ∃ g, w4.heap.size = g := ⟨_, rfl⟩
  obtain ⟨w5, hw5⟩ : ∃ w5, (w4.alloc (.cells #[.int .i64 m1, .int .i64 m2, .int .i64 m3] 3)).drew = w5 := ⟨_, rfl⟩
  rw [hg, hw5] at HM5
  rw [hw5] at HR5 HO5 HB5
  rw [hg] at hg5
  rw [hg, hw5]
  clear hba hg hw5 KP HA HB HR HO HW4 HM0 HM1 HM2 HM3 ha ha' hb hb' hc hc' hd hd'
  obtain ⟨M, hM⟩ : ∃ M : List Int, M = [m1, m2, m3] := ⟨_, rfl⟩
  have HMM := Lib.hid hM
  have HML : Hid (M.length = 3) := by show _ = _; rw [hM]; rfl
  have HMV : Hid (∀ W, Cs W g [.int .i64 m1, .int .i64 m2, .int .i64 m3] → ∀ k, k < 3 → W.cell? ⟨g, k, none⟩ = some (.int .i64 (M.getD k 0))) := by
    intro W h k hk
    rw [hM]
    match k, hk with
    | 0, _ => exact h.at 0 _ rfl
    | 1, _ => exact h.at 1 _ rfl
    | 2, _ => exact h.at 2 _ rfl
  clear hM
  go_wp2_with fail
  go_loopw [40] (fun v wr => ∃ (k : Nat) (lo hi : Int), k ≤ 3 ∧ v = .int .i64 k ∧ Hid (lo = (M.take k).foldl min m0) ∧ Hid (hi = (M.take k).foldl max m0) ∧ Hid (Cs wr (b + 1 + 1) [.int .i64 0, .int .i64 0]) ∧ Hid (Cs wr (b + 1 + 1 + 1) [.int .i64 lo, .int .i64 hi]) ∧ Hid (Cs wr g [.int .i64 m1, .int .i64 m2, .int .i64 m3]) ∧ Hid (Below w.heap.size w wr)) (fun v _ => 3 - (intOf v).toNat)
  case atStart => exact ⟨0, m0, m0, by omega, rfl, rfl, rfl, HR5, HO5, HM5, HB5⟩
  case round =>
    clear HR5 HO5 HM5 HB5
    obtain ⟨k, lo, hi, hk, rfl, HLO, HHI, HR, HO, HM, HB⟩ := hrel
    have o0 := HO.out.at 0 _ rfl
    have o1 := HO.out.at 1 _ rfl
    have p0 := HO.out.free 0
    have p1 := HO.out.free 1
    have hol := HO.out.lt
    by_cases hlt : k < 3
    · have hcell := HMV.out _ HM.out k hlt
      obtain ⟨x, hx⟩ : ∃ x, M.getD k 0 = x := ⟨_, rfl⟩
      rw [hx] at hcell
      have htk : M.take (k + 1) = M.take k ++ [x] := by
        rw [take_one M k (by rw [HML.out]; exact hlt), ← hx, List.getD_eq_getElem?_getD, List.getElem?_eq_getElem (by rw [HML.out]; exact hlt)]
        rfl
      obtain ⟨lo', hlo'⟩ : ∃ y, min lo x = y := ⟨_, rfl⟩
      obtain ⟨hi', hhi'⟩ : ∃ y, max hi x = y := ⟨_, rfl⟩
      have HLO' : Hid (lo' = (M.take (k + 1)).foldl min m0) := by show _ = _; rw [htk, List.foldl_append, ← HLO.out, ← hlo']; rfl
      have HHI' : Hid (hi' = (M.take (k + 1)).foldl max m0) := by show _ = _; rw [htk, List.foldl_append, ← HHI.out, ← hhi']; rfl
      have H1 := Lib.hid hlo'
      have H2 := Lib.hid hhi'
      have hlt' : (k : Int) < 3 := by omega
      clear hx htk hlo' hhi' HLO HHI
      go_wp2_with fail
      go_at_call 111
      refine (hull_b lo hi x x lo' hi' H1 H2 _).mono ?_
      rintro e w6 ⟨rfl, hb⟩
      have HR6 := Lib.hid (HR.out.next hb)
      have HO6 := Lib.hid (HO.out.next hb)
      have HM6 := Lib.hid (HM.out.next hb)
      have HB6 := Lib.hid (HB.out.trans (hb.mono HB.out.size))
      clear hb HR HO HM HB o0 o1 p0 p1 hcell
      have o0 := HO6.out.at 0 _ rfl
      have o1 := HO6.out.at 1 _ rfl
      have p0 := HO6.out.free 0
      have p1 := HO6.out.free 1
      have hol6 := HO6.out.lt
      have hbw : w.heap.size ≤ b + 1 + 1 + 1 := by rw [HBS.out]; omega
      have HO7 := Lib.hid ((HO6.out.set 0 (.int .i64 lo') (by simp)).set 1 (.int .i64 hi') (by simp))
      have HR7 := Lib.hid ((HR6.out.other (p := ⟨b + 1 + 1 + 1, 0, none⟩) (by show b + 1 + 1 + 1 ≠ _; omega) (.int .i64 lo')).other (p := ⟨b + 1 + 1 + 1, 1, none⟩) (by show b + 1 + 1 + 1 ≠ _; omega) (.int .i64 hi'))
      have HM7 := Lib.hid ((HM6.out.other (p := ⟨b + 1 + 1 + 1, 0, none⟩) (by show b + 1 + 1 + 1 ≠ _; omega) (.int .i64 lo')).other (p := ⟨b + 1 + 1 + 1, 1, none⟩) (by show b + 1 + 1 + 1 ≠ _; omega) (.int .i64 hi'))
      have HB7 := Lib.hid ((HB6.out.setCell (p := ⟨b + 1 + 1 + 1, 0, none⟩) hbw (.int .i64 lo')).setCell (p := ⟨b + 1 + 1 + 1, 1, none⟩) hbw (.int .i64 hi'))
      go_wp2_with fail
      go_roundw
      case rel => exact ⟨k + 1, lo', hi', by omega, by go_num, HLO', HHI', HR7, HO7, HM7, HB7⟩
      case measure => simp [intOf]; omega
    · obtain rfl : k = 3 := by omega
      have r0 := HR.out.at 0 _ rfl
      have r1 := HR.out.at 1 _ rfl
      have f0 := HR.out.free 0
      have f1 := HR.out.free 1
      have e1 : R.1 = lo := by rw [← H.out, HLO.out, HMM.out]; rfl
      have e2 : R.2 = hi := by rw [← H.out, HHI.out, HMM.out]; rfl
      have E1 := Lib.hid e1
      have E2 := Lib.hid e2
      have hbw : w.heap.size ≤ b + 1 + 1 := by rw [HBS.out]; omega
      clear e1 e2 HLO HHI
      go_wp2_with fail
      have k0 := World.cell?_setCell_same wr ⟨b + 1 + 1, 0, none⟩ (.int .i64 lo) r0
      have k1 := World.cell?_setCell_same (wr.setCell ⟨b + 1 + 1, 0, none⟩ (.int .i64 lo)) ⟨b + 1 + 1, 1, none⟩ (.int .i64 hi) ((HR.out.set 0 (.int .i64 lo) (by simp)).at 1 _ rfl)
      refine bodyPost_ret (v := .agg #[.int .i64 lo, .int .i64 hi]) (by simp [results, Tryz.results109, go_sem, k0, k1]) rfl ?_
      refine ⟨by rw [E1.out, E2.out], (HB.out.setCell (p := ⟨b + 1 + 1, 0, none⟩) hbw _).setCell (p := ⟨b + 1 + 1, 1, none⟩) hbw _⟩
end Go.Proofs.YtjpjmoejdkmglaaGreat
