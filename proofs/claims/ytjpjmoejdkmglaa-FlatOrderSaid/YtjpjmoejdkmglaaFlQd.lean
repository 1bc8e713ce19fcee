/-
  The walk over FlatOrder.
-/
import Derived.Test.YtjpjmoejdkmglaaFlQc
import Derived.Deep.CutRange
namespace Go.Proofs.Ytjpjmoejdkmglaa
open Go.RowKit

theorem cmpZ_in (a b : Int) : cmpZ a b = -1 ∨ cmpZ a b = 0 ∨ cmpZ a b = 1 := by rcases cmpZ_cases a b with h | h | h <;> omega
theorem cmpO_in (a b : List Int) (s t : Int) : cmpO a b s t = -1 ∨ cmpO a b s t = 0 ∨ cmpO a b s t = 1 := by
  unfold cmpO; split
  · exact cmpL_in a b
  · exact cmpZ_in s t

set_option maxRecDepth 100000 in
set_option maxHeartbeats 8000000 in
theorem order_walk (us bs cs : List Int) (sa sb sc : Int) (Aa : Option Addr) (la ca : Nat) (Ab : Option Addr) (lb cb : Nat) (Ac : Option Addr) (lc cc : Nat) (w : World) (hza : Zs w Aa la ca us) (hzb : Zs w Ab lb cb bs) (hzc : Zs w Ac lc cc cs) (hr : la * 8 ≤ 140737488355328) :
    Calls Try.prog 8 #[.agg #[.slice Aa la ca, .int .i64 sa], .agg #[.slice Ab lb cb, .int .i64 sb], .agg #[.slice Ac lc cc, .int .i64 sc]] w fun e w' => e = .returned (.bool true) ∧ Below w.heap.size w w' := by
  obtain ⟨x, hx⟩ : ∃ z, cmpO us bs sa sb = z := ⟨_, rfl⟩
  obtain ⟨y, hy⟩ : ∃ z, cmpO bs cs sb sc = z := ⟨_, rfl⟩
  obtain ⟨z, hz⟩ : ∃ z, cmpO us cs sa sc = z := ⟨_, rfl⟩
  obtain ⟨x', hx'⟩ : ∃ z, cmpO bs us sb sa = z := ⟨_, rfl⟩
  have hxx : x = -x' := by rw [← hx, ← hx']; exact cmpO_neg us bs sa sb
  have ix : x' = -1 ∨ x' = 0 ∨ x' = 1 := by rw [← hx']; exact cmpO_in _ _ _ _
  have iy : y = -1 ∨ y = 0 ∨ y = 1 := by rw [← hy]; exact cmpO_in _ _ _ _
  have iz : z = -1 ∨ z = 0 ∨ z = 1 := by rw [← hz]; exact cmpO_in _ _ _ _
  have t1 : x ≤ 0 → y ≤ 0 → z ≤ 0 := fun h1 h2 => by rw [← hz]; exact cmpO_trans us bs cs sa sb sc (by omega) (by omega)
  have t2 : 0 ≤ x → 0 ≤ y → 0 ≤ z := fun h1 h2 => by rw [← hz]; exact cmpO_trans' us bs cs sa sb sc (by omega) (by omega)
  have hsm : ((sa == sb) && (us == bs)) = (x == 0) := by
    rw [Bool.eq_iff_iff, Bool.and_eq_true, beq_iff_eq, beq_iff_eq, beq_iff_eq, ← hx]
    exact (cmpO_eq us bs sa sb).symm
  have HX := Lib.hid hx
  have HY := Lib.hid hy
  have HZ := Lib.hid hz
  have HX' := Lib.hid hx'
  have HXX := Lib.hid hxx
  have IX := Lib.hid ix
  have IY := Lib.hid iy
  have IZ := Lib.hid iz
  have T1 := Lib.hid t1
  have T2 := Lib.hid t2
  have HSM := Lib.hid hsm
  have hb1 := (Below.refl w.heap.size w).alloc (Nat.le_refl _) (.cells #[.slice Aa la ca, .int .i64 sa] 36)
  have hb2 := hb1.alloc hb1.size (.cells #[.slice Ab lb cb, .int .i64 sb] 36)
  have hb3 := hb2.alloc hb2.size (.cells #[.slice Ac lc cc, .int .i64 sc] 36)
  have HB := Lib.hid hb3
  have HA := Lib.hid (((Cs.new w #[.slice Aa la ca, .int .i64 sa] 36).alloc (.cells #[.slice Ab lb cb, .int .i64 sb] 36)).alloc (.cells #[.slice Ac lc cc, .int .i64 sc] 36))
  have HBb := Lib.hid ((Cs.new1 w (.cells #[.slice Aa la ca, .int .i64 sa] 36) #[.slice Ab lb cb, .int .i64 sb] 36).alloc (.cells #[.slice Ac lc cc, .int .i64 sc] 36))
  have HC : Hid (Cs (((w.alloc (.cells #[.slice Aa la ca, .int .i64 sa] 36)).alloc (.cells #[.slice Ab lb cb, .int .i64 sb] 36)).alloc (.cells #[.slice Ac lc cc, .int .i64 sc] 36)) (w.heap.size + 1 + 1) [.slice Ac lc cc, .int .i64 sc]) := by
    have h := Cs.new ((w.alloc (.cells #[.slice Aa la ca, .int .i64 sa] 36)).alloc (.cells #[.slice Ab lb cb, .int .i64 sb] 36)) #[.slice Ac lc cc, .int .i64 sc] 36
    simp only [World.size_alloc] at h
    exact h
  have HZA := Lib.hid (hza.below hb3)
  have HZB := Lib.hid (hzb.below hb3)
  have HZC := Lib.hid (hzc.below hb3)
  clear hx hy hz hx' hxx ix iy iz t1 t2 hsm hb1 hb2 hb3 hza hzb hzc
  go_enter Try.func8, Try.ntmps8
  go_upto_region 1 with fail
  obtain ⟨w1, hw1⟩ : ∃ w1, ((w.alloc (.cells #[.slice Aa la ca, .int .i64 sa] 36)).alloc (.cells #[.slice Ab lb cb, .int .i64 sb] 36)).alloc (.cells #[.slice Ac lc cc, .int .i64 sc] 36) = w1 := ⟨_, rfl⟩
  obtain ⟨pa, hpa⟩ : ∃ p, w.heap.size = p := ⟨_, rfl⟩
  rw [hw1] at HB HA HBb HC HZA HZB HZC
  rw [hpa] at HA HBb HC
  rw [hw1, hpa]
  clear hw1 hpa
  go_wp2_with fail
  go_at_call 10
  refine (known_b _).mono ?_
  rintro e w2 ⟨rfl, hb⟩
  have HBx := Lib.hid (HB.out.trans (hb.mono HB.out.size))
  have HAx := Lib.hid (HA.out.next hb)
  have HBbx := Lib.hid (HBb.out.next hb)
  have HCx := Lib.hid (HC.out.next hb)
  have HZAx := Lib.hid (HZA.out.below hb)
  have HZBx := Lib.hid (HZB.out.below hb)
  have HZCx := Lib.hid (HZC.out.below hb)
  clear hb HB HA HBb HC HZA HZB HZC 
  have HB := HBx
  have HA := HAx
  have HBb := HBbx
  have HC := HCx
  have HZA := HZAx
  have HZB := HZBx
  have HZC := HZCx
  clear HBx HAx HBbx HCx HZAx HZBx HZCx
  go_wp2_with fail
  have KP : Hid (∀ W, Below w2.heap.size w2 W → (W.cell? ⟨pa, 0, none⟩ = some (.slice Aa la ca) ∧ W.cell? ⟨pa, 1, none⟩ = some (.int .i64 sa) ∧ W.cell? ⟨pa + 1, 0, none⟩ = some (.slice Ab lb cb) ∧ W.cell? ⟨pa + 1, 1, none⟩ = some (.int .i64 sb) ∧ W.cell? ⟨pa + 1 + 1, 0, none⟩ = some (.slice Ac lc cc) ∧ W.cell? ⟨pa + 1 + 1, 1, none⟩ = some (.int .i64 sc))) := fun W h => ⟨(HA.out.next h).at 0 _ rfl, (HA.out.next h).at 1 _ rfl, (HBb.out.next h).at 0 _ rfl, (HBb.out.next h).at 1 _ rfl, (HC.out.next h).at 0 _ rfl, (HC.out.next h).at 1 _ rfl⟩
  have HD0 := Lib.hid (Below.refl w2.heap.size w2).drew
  go_region_held3 (fun W => W.cell? ⟨pa, 0, none⟩ = some (.slice Aa la ca) ∧ W.cell? ⟨pa, 1, none⟩ = some (.int .i64 sa) ∧ W.cell? ⟨pa + 1, 0, none⟩ = some (.slice Ab lb cb) ∧ W.cell? ⟨pa + 1, 1, none⟩ = some (.int .i64 sb) ∧ W.cell? ⟨pa + 1 + 1, 0, none⟩ = some (.slice Ac lc cc) ∧ W.cell? ⟨pa + 1 + 1, 1, none⟩ = some (.int .i64 sc)) (first | exact KP.out _ HD3.out | exact KP.out _ HD2.out | exact KP.out _ HD1.out | exact KP.out _ HD0.out) (first
    | (go_at_call 23; refine (Compare_b us cs sa sc Aa Ac la ca lc cc z HZ _ (HZA.out.below HD2.out) (HZC.out.below HD2.out)).mono ?_; rintro e w5 ⟨rfl, hb⟩; have HD3 := Lib.hid (HD2.out.trans (hb.mono HD2.out.size)); clear hb)
    | (go_at_call 23; refine (Compare_b bs cs sb sc Ab Ac lb cb lc cc y HY _ (HZB.out.below HD1.out) (HZC.out.below HD1.out)).mono ?_; rintro e w4 ⟨rfl, hb⟩; have HD2 := Lib.hid (HD1.out.trans (hb.mono HD1.out.size)); clear hb)
    | (go_at_call 23; refine (Compare_b us bs sa sb Aa Ab la ca lb cb x HX _ (HZA.out.below HD0.out) (HZB.out.below HD0.out)).mono ?_; rintro e w3 ⟨rfl, hb⟩; have HD1 := Lib.hid (HD0.out.trans (hb.mono HD0.out.size)); clear hb))
  have hb := HD3.out
  clear KP HD0 HD1 HD2 HD3
  have HBx := Lib.hid (HB.out.trans (hb.mono HB.out.size))
  have HAx := Lib.hid (HA.out.next hb)
  have HBbx := Lib.hid (HBb.out.next hb)
  have HCx := Lib.hid (HC.out.next hb)
  have HZAx := Lib.hid (HZA.out.below hb)
  have HZBx := Lib.hid (HZB.out.below hb)
  have HZCx := Lib.hid (HZC.out.below hb)
  clear hb HB HA HBb HC HZA HZB HZC 
  have HB := HBx
  have HA := HAx
  have HBb := HBbx
  have HC := HCx
  have HZA := HZAx
  have HZB := HZBx
  have HZC := HZCx
  clear HBx HAx HBbx HCx HZAx HZBx HZCx
  have a0 := HA.out.at 0 _ rfl
  have a1 := HA.out.at 1 _ rfl
  have b0 := HBb.out.at 0 _ rfl
  have b1 := HBb.out.at 1 _ rfl
  have c0 := HC.out.at 0 _ rfl
  have c1 := HC.out.at 1 _ rfl
  have ix := IX.out
  have hxx := HXX.out
  go_wp2_with fail
  go_at_call 23
  refine (Compare_b bs us sb sa Ab Aa lb cb la ca x' HX' _ HZB.out HZA.out).mono ?_
  rintro e w6 ⟨rfl, hb⟩
  rcases IX.out with rfl | rfl | rfl
  · have HBx := Lib.hid (HB.out.trans (hb.mono HB.out.size))
    have HAx := Lib.hid (HA.out.next hb)
    have HBbx := Lib.hid (HBb.out.next hb)
    have HCx := Lib.hid (HC.out.next hb)
    have HZAx := Lib.hid (HZA.out.below hb)
    have HZBx := Lib.hid (HZB.out.below hb)
    have HZCx := Lib.hid (HZC.out.below hb)
    clear hb HB HA HBb HC HZA HZB HZC a0 a1 b0 b1 c0 c1
    have HB := HBx
    have HA := HAx
    have HBb := HBbx
    have HC := HCx
    have HZA := HZAx
    have HZB := HZBx
    have HZC := HZCx
    clear HBx HAx HBbx HCx HZAx HZBx HZCx
    have hx1 : x = 1 := by have := HXX.out; omega
    clear hxx HXX IX ix HX'
    subst hx1
    have hs : ((sa == sb) && (us == bs)) = false := HSM.out.trans (by decide)
    have HS := Lib.hid hs
    clear hs HSM
    have a0 := HA.out.at 0 _ rfl
    have a1 := HA.out.at 1 _ rfl
    have b0 := HBb.out.at 0 _ rfl
    have b1 := HBb.out.at 1 _ rfl
    have c0 := HC.out.at 0 _ rfl
    have c1 := HC.out.at 1 _ rfl
    go_wp2_with fail
    go_at_call 16
    refine (Same_b us bs sa sb Aa Ab la ca lb cb false HS _ HZA.out HZB.out).mono ?_
    rintro e w7 ⟨rfl, hb⟩
    have HBx := Lib.hid (HB.out.trans (hb.mono HB.out.size))
    have HAx := Lib.hid (HA.out.next hb)
    have HBbx := Lib.hid (HBb.out.next hb)
    have HCx := Lib.hid (HC.out.next hb)
    have HZAx := Lib.hid (HZA.out.below hb)
    have HZBx := Lib.hid (HZB.out.below hb)
    have HZCx := Lib.hid (HZC.out.below hb)
    clear hb HB HA HBb HC HZA HZB HZC a0 a1 b0 b1 c0 c1
    have HB := HBx
    have HA := HAx
    have HBb := HBbx
    have HC := HCx
    have HZA := HZAx
    have HZB := HZBx
    have HZC := HZCx
    clear HBx HAx HBbx HCx HZAx HZBx HZCx
    have a0 := HA.out.at 0 _ rfl
    have a1 := HA.out.at 1 _ rfl
    have b0 := HBb.out.at 0 _ rfl
    have b1 := HBb.out.at 1 _ rfl
    have c0 := HC.out.at 0 _ rfl
    have c1 := HC.out.at 1 _ rfl
    go_wp2_with fail
    go_at_call 24
    refine (rCompare_b us bs sa sb Aa Ab la ca lb cb (1) HX _ HZA.out HZB.out).mono ?_
    rintro e w8 ⟨rfl, hb⟩
    have HBx := Lib.hid (HB.out.trans (hb.mono HB.out.size))
    have HAx := Lib.hid (HA.out.next hb)
    have HBbx := Lib.hid (HBb.out.next hb)
    have HCx := Lib.hid (HC.out.next hb)
    have HZAx := Lib.hid (HZA.out.below hb)
    have HZBx := Lib.hid (HZB.out.below hb)
    have HZCx := Lib.hid (HZC.out.below hb)
    clear hb HB HA HBb HC HZA HZB HZC a0 a1 b0 b1 c0 c1
    have HB := HBx
    have HA := HAx
    have HBb := HBbx
    have HC := HCx
    have HZA := HZAx
    have HZB := HZBx
    have HZC := HZCx
    clear HBx HAx HBbx HCx HZAx HZBx HZCx
    go_upto_region 6 with fail
    go_cut [63] from 42 to 63 (fun u wc => u = .bool false ∧ w8 = wc)
    case first =>
      have t1 := T1.out
      have t2 := T2.out
      clear T1 T2 HZ HY HX HS
      rcases IY.out with rfl | rfl | rfl <;> rcases IZ.out with rfl | rfl | rfl <;> first
        | (exfalso; (first | exact absurd (t1 (by decide) (by decide)) (by decide) | exact absurd (t2 (by decide) (by decide)) (by decide)); done)
        | (clear t1 t2 IY IZ; go_wp2_with fail; go_meet; (case rel => exact ⟨rfl, rfl⟩))
    case rest =>
      obtain ⟨rfl, rfl⟩ := hcut
      clear T1 T2 HY HZ HX HS IY IZ
      have HSA : Hid (((sa == sa) && (us == us)) = true) := Lib.hid (by simp)
      have HSZ : Hid ((((0 : Int) == 0) && (us == us)) = true) := Lib.hid (by simp)
      have a0 := HA.out.at 0 _ rfl
      have a1 := HA.out.at 1 _ rfl
      have b0 := HBb.out.at 0 _ rfl
      have b1 := HBb.out.at 1 _ rfl
      have c0 := HC.out.at 0 _ rfl
      have c1 := HC.out.at 1 _ rfl
      go_upto_region 8 with fail
      have KP : Hid (∀ W, Below w8.heap.size w8 W → (W.cell? ⟨pa, 0, none⟩ = some (.slice Aa la ca) ∧ W.cell? ⟨pa, 1, none⟩ = some (.int .i64 sa))) := fun W h => ⟨(HA.out.next h).at 0 _ rfl, (HA.out.next h).at 1 _ rfl⟩
      have HD0 := Lib.hid (Below.refl w8.heap.size w8).drew
      clear a0 a1 b0 b1 c0 c1
      have G1 : True := trivial
      have G2 : True := trivial
      go_region_held3 (fun W => W.cell? ⟨pa, 0, none⟩ = some (.slice Aa la ca) ∧ W.cell? ⟨pa, 1, none⟩ = some (.int .i64 sa)) (first | exact KP.out _ HD4.out | exact KP.out _ HD3.out | exact KP.out _ HD2.out | exact KP.out _ HD1.out | exact KP.out _ HD0.out) (first
        | (go_at_call 16; refine (Same_b us us 0 0 A3 Aa la c3 la ca true HSZ _ (h3.out.below (Below.refl _ _)) (HZA.out.below HD3.out)).mono ?_; rintro e w12 ⟨rfl, hb⟩; have HD4 := Lib.hid (HD3.out.trans (hb.mono HD3.out.size)); clear hb)
        | (go_at_call 25; refine (Seen_false us sa Aa la ca _ (HZA.out.below HD2.out) hr).mono ?_; rintro e w11 ⟨A3, c3, rfl, h3', hb⟩; have h3 := Lib.hid h3'; have HD3 := Lib.hid (HD2.out.trans (hb.mono HD2.out.size)); clear hb h3')
        | (go_at_call 16; refine (Same_b us us sa sa A2 Aa la c2 la ca true HSA _ (h2.out.below (Below.refl _ _)) (HZA.out.below HD1.out)).mono ?_; rintro e w10 ⟨rfl, hb⟩; have HD2 := Lib.hid (HD1.out.trans (hb.mono HD1.out.size)); clear hb)
        | (go_at_call 25; refine (Seen_true us sa Aa la ca _ (HZA.out.below HD0.out) hr).mono ?_; rintro e w9 ⟨A2, c2, rfl, h2', hb⟩; have h2 := Lib.hid h2'; have HD1 := Lib.hid (HD0.out.trans (hb.mono HD0.out.size)); clear hb h2'))
      go_wp2_with fail
      go_ret
      exact ⟨rfl, HB.out.trans (HD4.out.mono HB.out.size)⟩
  · have HBx := Lib.hid (HB.out.trans (hb.mono HB.out.size))
    have HAx := Lib.hid (HA.out.next hb)
    have HBbx := Lib.hid (HBb.out.next hb)
    have HCx := Lib.hid (HC.out.next hb)
    have HZAx := Lib.hid (HZA.out.below hb)
    have HZBx := Lib.hid (HZB.out.below hb)
    have HZCx := Lib.hid (HZC.out.below hb)
    clear hb HB HA HBb HC HZA HZB HZC a0 a1 b0 b1 c0 c1
    have HB := HBx
    have HA := HAx
    have HBb := HBbx
    have HC := HCx
    have HZA := HZAx
    have HZB := HZBx
    have HZC := HZCx
    clear HBx HAx HBbx HCx HZAx HZBx HZCx
    have hx1 : x = 0 := by have := HXX.out; omega
    clear hxx HXX IX ix HX'
    subst hx1
    have hs : ((sa == sb) && (us == bs)) = true := HSM.out.trans (by decide)
    have HS := Lib.hid hs
    clear hs HSM
    have a0 := HA.out.at 0 _ rfl
    have a1 := HA.out.at 1 _ rfl
    have b0 := HBb.out.at 0 _ rfl
    have b1 := HBb.out.at 1 _ rfl
    have c0 := HC.out.at 0 _ rfl
    have c1 := HC.out.at 1 _ rfl
    go_wp2_with fail
    go_at_call 16
    refine (Same_b us bs sa sb Aa Ab la ca lb cb true HS _ HZA.out HZB.out).mono ?_
    rintro e w7 ⟨rfl, hb⟩
    have HBx := Lib.hid (HB.out.trans (hb.mono HB.out.size))
    have HAx := Lib.hid (HA.out.next hb)
    have HBbx := Lib.hid (HBb.out.next hb)
    have HCx := Lib.hid (HC.out.next hb)
    have HZAx := Lib.hid (HZA.out.below hb)
    have HZBx := Lib.hid (HZB.out.below hb)
    have HZCx := Lib.hid (HZC.out.below hb)
    clear hb HB HA HBb HC HZA HZB HZC a0 a1 b0 b1 c0 c1
    have HB := HBx
    have HA := HAx
    have HBb := HBbx
    have HC := HCx
    have HZA := HZAx
    have HZB := HZBx
    have HZC := HZCx
    clear HBx HAx HBbx HCx HZAx HZBx HZCx
    have a0 := HA.out.at 0 _ rfl
    have a1 := HA.out.at 1 _ rfl
    have b0 := HBb.out.at 0 _ rfl
    have b1 := HBb.out.at 1 _ rfl
    have c0 := HC.out.at 0 _ rfl
    have c1 := HC.out.at 1 _ rfl
    go_wp2_with fail
    go_at_call 24
    refine (rCompare_b us bs sa sb Aa Ab la ca lb cb (0) HX _ HZA.out HZB.out).mono ?_
    rintro e w8 ⟨rfl, hb⟩
    have HBx := Lib.hid (HB.out.trans (hb.mono HB.out.size))
    have HAx := Lib.hid (HA.out.next hb)
    have HBbx := Lib.hid (HBb.out.next hb)
    have HCx := Lib.hid (HC.out.next hb)
    have HZAx := Lib.hid (HZA.out.below hb)
    have HZBx := Lib.hid (HZB.out.below hb)
    have HZCx := Lib.hid (HZC.out.below hb)
    clear hb HB HA HBb HC HZA HZB HZC a0 a1 b0 b1 c0 c1
    have HB := HBx
    have HA := HAx
    have HBb := HBbx
    have HC := HCx
    have HZA := HZAx
    have HZB := HZBx
    have HZC := HZCx
    clear HBx HAx HBbx HCx HZAx HZBx HZCx
    go_upto_region 6 with fail
    go_cut [63] from 42 to 63 (fun u wc => u = .bool false ∧ w8 = wc)
    case first =>
      have t1 := T1.out
      have t2 := T2.out
      clear T1 T2 HZ HY HX HS
      rcases IY.out with rfl | rfl | rfl <;> rcases IZ.out with rfl | rfl | rfl <;> first
        | (exfalso; (first | exact absurd (t1 (by decide) (by decide)) (by decide) | exact absurd (t2 (by decide) (by decide)) (by decide)); done)
        | (clear t1 t2 IY IZ; go_wp2_with fail; go_meet; (case rel => exact ⟨rfl, rfl⟩))
    case rest =>
      obtain ⟨rfl, rfl⟩ := hcut
      clear T1 T2 HY HZ HX HS IY IZ
      have HSA : Hid (((sa == sa) && (us == us)) = true) := Lib.hid (by simp)
      have HSZ : Hid ((((0 : Int) == 0) && (us == us)) = true) := Lib.hid (by simp)
      have a0 := HA.out.at 0 _ rfl
      have a1 := HA.out.at 1 _ rfl
      have b0 := HBb.out.at 0 _ rfl
      have b1 := HBb.out.at 1 _ rfl
      have c0 := HC.out.at 0 _ rfl
      have c1 := HC.out.at 1 _ rfl
      go_upto_region 8 with fail
      have KP : Hid (∀ W, Below w8.heap.size w8 W → (W.cell? ⟨pa, 0, none⟩ = some (.slice Aa la ca) ∧ W.cell? ⟨pa, 1, none⟩ = some (.int .i64 sa))) := fun W h => ⟨(HA.out.next h).at 0 _ rfl, (HA.out.next h).at 1 _ rfl⟩
      have HD0 := Lib.hid (Below.refl w8.heap.size w8).drew
      clear a0 a1 b0 b1 c0 c1
      have G1 : True := trivial
      have G2 : True := trivial
      go_region_held3 (fun W => W.cell? ⟨pa, 0, none⟩ = some (.slice Aa la ca) ∧ W.cell? ⟨pa, 1, none⟩ = some (.int .i64 sa)) (first | exact KP.out _ HD4.out | exact KP.out _ HD3.out | exact KP.out _ HD2.out | exact KP.out _ HD1.out | exact KP.out _ HD0.out) (first
        | (go_at_call 16; refine (Same_b us us 0 0 A3 Aa la c3 la ca true HSZ _ (h3.out.below (Below.refl _ _)) (HZA.out.below HD3.out)).mono ?_; rintro e w12 ⟨rfl, hb⟩; have HD4 := Lib.hid (HD3.out.trans (hb.mono HD3.out.size)); clear hb)
        | (go_at_call 25; refine (Seen_false us sa Aa la ca _ (HZA.out.below HD2.out) hr).mono ?_; rintro e w11 ⟨A3, c3, rfl, h3', hb⟩; have h3 := Lib.hid h3'; have HD3 := Lib.hid (HD2.out.trans (hb.mono HD2.out.size)); clear hb h3')
        | (go_at_call 16; refine (Same_b us us sa sa A2 Aa la c2 la ca true HSA _ (h2.out.below (Below.refl _ _)) (HZA.out.below HD1.out)).mono ?_; rintro e w10 ⟨rfl, hb⟩; have HD2 := Lib.hid (HD1.out.trans (hb.mono HD1.out.size)); clear hb)
        | (go_at_call 25; refine (Seen_true us sa Aa la ca _ (HZA.out.below HD0.out) hr).mono ?_; rintro e w9 ⟨A2, c2, rfl, h2', hb⟩; have h2 := Lib.hid h2'; have HD1 := Lib.hid (HD0.out.trans (hb.mono HD0.out.size)); clear hb h2'))
      go_wp2_with fail
      go_ret
      exact ⟨rfl, HB.out.trans (HD4.out.mono HB.out.size)⟩
  · have HBx := Lib.hid (HB.out.trans (hb.mono HB.out.size))
    have HAx := Lib.hid (HA.out.next hb)
    have HBbx := Lib.hid (HBb.out.next hb)
    have HCx := Lib.hid (HC.out.next hb)
    have HZAx := Lib.hid (HZA.out.below hb)
    have HZBx := Lib.hid (HZB.out.below hb)
    have HZCx := Lib.hid (HZC.out.below hb)
    clear hb HB HA HBb HC HZA HZB HZC a0 a1 b0 b1 c0 c1
    have HB := HBx
    have HA := HAx
    have HBb := HBbx
    have HC := HCx
    have HZA := HZAx
    have HZB := HZBx
    have HZC := HZCx
    clear HBx HAx HBbx HCx HZAx HZBx HZCx
    have hx1 : x = -1 := by have := HXX.out; omega
    clear hxx HXX IX ix HX'
    subst hx1
    have hs : ((sa == sb) && (us == bs)) = false := HSM.out.trans (by decide)
    have HS := Lib.hid hs
    clear hs HSM
    have a0 := HA.out.at 0 _ rfl
    have a1 := HA.out.at 1 _ rfl
    have b0 := HBb.out.at 0 _ rfl
    have b1 := HBb.out.at 1 _ rfl
    have c0 := HC.out.at 0 _ rfl
    have c1 := HC.out.at 1 _ rfl
    go_wp2_with fail
    go_at_call 16
    refine (Same_b us bs sa sb Aa Ab la ca lb cb false HS _ HZA.out HZB.out).mono ?_
    rintro e w7 ⟨rfl, hb⟩
    have HBx := Lib.hid (HB.out.trans (hb.mono HB.out.size))
    have HAx := Lib.hid (HA.out.next hb)
    have HBbx := Lib.hid (HBb.out.next hb)
    have HCx := Lib.hid (HC.out.next hb)
    have HZAx := Lib.hid (HZA.out.below hb)
    have HZBx := Lib.hid (HZB.out.below hb)
    have HZCx := Lib.hid (HZC.out.below hb)
    clear hb HB HA HBb HC HZA HZB HZC a0 a1 b0 b1 c0 c1
    have HB := HBx
    have HA := HAx
    have HBb := HBbx
    have HC := HCx
    have HZA := HZAx
    have HZB := HZBx
    have HZC := HZCx
    clear HBx HAx HBbx HCx HZAx HZBx HZCx
    have a0 := HA.out.at 0 _ rfl
    have a1 := HA.out.at 1 _ rfl
    have b0 := HBb.out.at 0 _ rfl
    have b1 := HBb.out.at 1 _ rfl
    have c0 := HC.out.at 0 _ rfl
    have c1 := HC.out.at 1 _ rfl
    go_wp2_with fail
    go_at_call 24
    refine (rCompare_b us bs sa sb Aa Ab la ca lb cb (-1) HX _ HZA.out HZB.out).mono ?_
    rintro e w8 ⟨rfl, hb⟩
    have HBx := Lib.hid (HB.out.trans (hb.mono HB.out.size))
    have HAx := Lib.hid (HA.out.next hb)
    have HBbx := Lib.hid (HBb.out.next hb)
    have HCx := Lib.hid (HC.out.next hb)
    have HZAx := Lib.hid (HZA.out.below hb)
    have HZBx := Lib.hid (HZB.out.below hb)
    have HZCx := Lib.hid (HZC.out.below hb)
    clear hb HB HA HBb HC HZA HZB HZC a0 a1 b0 b1 c0 c1
    have HB := HBx
    have HA := HAx
    have HBb := HBbx
    have HC := HCx
    have HZA := HZAx
    have HZB := HZBx
    have HZC := HZCx
    clear HBx HAx HBbx HCx HZAx HZBx HZCx
    go_upto_region 6 with fail
    go_cut [63] from 42 to 63 (fun u wc => u = .bool false ∧ w8 = wc)
    case first =>
      have t1 := T1.out
      have t2 := T2.out
      clear T1 T2 HZ HY HX HS
      rcases IY.out with rfl | rfl | rfl <;> rcases IZ.out with rfl | rfl | rfl <;> first
        | (exfalso; (first | exact absurd (t1 (by decide) (by decide)) (by decide) | exact absurd (t2 (by decide) (by decide)) (by decide)); done)
        | (clear t1 t2 IY IZ; go_wp2_with fail; go_meet; (case rel => exact ⟨rfl, rfl⟩))
    case rest =>
      obtain ⟨rfl, rfl⟩ := hcut
      clear T1 T2 HY HZ HX HS IY IZ
      have HSA : Hid (((sa == sa) && (us == us)) = true) := Lib.hid (by simp)
      have HSZ : Hid ((((0 : Int) == 0) && (us == us)) = true) := Lib.hid (by simp)
      have a0 := HA.out.at 0 _ rfl
      have a1 := HA.out.at 1 _ rfl
      have b0 := HBb.out.at 0 _ rfl
      have b1 := HBb.out.at 1 _ rfl
      have c0 := HC.out.at 0 _ rfl
      have c1 := HC.out.at 1 _ rfl
      go_upto_region 8 with fail
      have KP : Hid (∀ W, Below w8.heap.size w8 W → (W.cell? ⟨pa, 0, none⟩ = some (.slice Aa la ca) ∧ W.cell? ⟨pa, 1, none⟩ = some (.int .i64 sa))) := fun W h => ⟨(HA.out.next h).at 0 _ rfl, (HA.out.next h).at 1 _ rfl⟩
      have HD0 := Lib.hid (Below.refl w8.heap.size w8).drew
      clear a0 a1 b0 b1 c0 c1
      have G1 : True := trivial
      have G2 : True := trivial
      go_region_held3 (fun W => W.cell? ⟨pa, 0, none⟩ = some (.slice Aa la ca) ∧ W.cell? ⟨pa, 1, none⟩ = some (.int .i64 sa)) (first | exact KP.out _ HD4.out | exact KP.out _ HD3.out | exact KP.out _ HD2.out | exact KP.out _ HD1.out | exact KP.out _ HD0.out) (first
        | (go_at_call 16; refine (Same_b us us 0 0 A3 Aa la c3 la ca true HSZ _ (h3.out.below (Below.refl _ _)) (HZA.out.below HD3.out)).mono ?_; rintro e w12 ⟨rfl, hb⟩; have HD4 := Lib.hid (HD3.out.trans (hb.mono HD3.out.size)); clear hb)
        | (go_at_call 25; refine (Seen_false us sa Aa la ca _ (HZA.out.below HD2.out) hr).mono ?_; rintro e w11 ⟨A3, c3, rfl, h3', hb⟩; have h3 := Lib.hid h3'; have HD3 := Lib.hid (HD2.out.trans (hb.mono HD2.out.size)); clear hb h3')
        | (go_at_call 16; refine (Same_b us us sa sa A2 Aa la c2 la ca true HSA _ (h2.out.below (Below.refl _ _)) (HZA.out.below HD1.out)).mono ?_; rintro e w10 ⟨rfl, hb⟩; have HD2 := Lib.hid (HD1.out.trans (hb.mono HD1.out.size)); clear hb)
        | (go_at_call 25; refine (Seen_true us sa Aa la ca _ (HZA.out.below HD0.out) hr).mono ?_; rintro e w9 ⟨A2, c2, rfl, h2', hb⟩; have h2 := Lib.hid h2'; have HD1 := Lib.hid (HD0.out.trans (hb.mono HD0.out.size)); clear hb h2'))
      go_wp2_with fail
      go_ret
      exact ⟨rfl, HB.out.trans (HD4.out.mono HB.out.size)⟩
end Go.Proofs.Ytjpjmoejdkmglaa
