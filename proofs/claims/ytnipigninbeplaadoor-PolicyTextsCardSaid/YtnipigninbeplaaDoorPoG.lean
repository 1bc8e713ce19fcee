/-
  The walk over the program's checkLabels.
-/
import Derived.Test.YtnipigninbeplaaDoorPoM
import Derived.Test.YtnipigninbeplaaDoorPD
import Derived.StringKeys
namespace Go.Proofs.YtnipigninbeplaaDoor
open Go.RowKit Go.Maps Go.ChangeMaps

set_option maxRecDepth 100000 in
set_option maxHeartbeats 4000000 in
theorem checkLabels_b (xs : List Lb) (n : Int) (A : Option Addr) (l c : Nat) (r : Int) (H : Hid (labelsC n [] xs = r)) (w : World) (hx : LbOk w A l c xs) (hlv : l < maxLen) :
    Calls Tryd.prog 24 #[.slice A l c, .int .i64 n] w fun e w' => e = .returned (.int .i64 r) ∧ Below w.heap.size w w' := by
  have hlm : l ≤ 9223372036854775807 := by have := hlv; unfold maxLen at this; omega
  have HX := Lib.hid hx
  have HL := Lib.hid hx.len
  have hmm := @run_makeMap Tryd.prog
  clear hx
  go_enter Tryd.func24, Tryd.ntmps24
  go_wp2_with fail
  go_loopw [11] (fun v wr => ∃ (i : Nat) (D : DataW Unit), i ≤ l ∧ v = .int .i64 i ∧ Hid (labelsC n ((xs.take i).map Lb.name) (xs.drop i) = r) ∧ Hid (FlIn wr w.heap.size i ((xs.take i).map Lb.name) D) ∧ Hid (Below w.heap.size w wr)) (fun v _ => l - (intOf v).toNat)
  case atStart => exact ⟨0, _, by omega, rfl, H, Lib.hid (FlIn.made w), Lib.hid ((Below.refl _ _).alloc (Nat.le_refl _) _)⟩
  case round =>
    clear H
    obtain ⟨i, D, hi, rfl, HR, HM, HB⟩ := hrel
    by_cases hlt : i < l
    · have hlt' : (i : Int) < (l : Int) := by omega
      have hi0 : (0 : Int) ≤ (i : Int) := by omega
      obtain ⟨s, v, g, f, ht, hs, hA, hg, k0, k1⟩ := (HX.out.below HB.out).at i hlt
      subst hA
      have HAT := Lib.hid (labelsC_at (n := n) ht)
      have HT := Lib.hid ht
      clear ht
      have HN := Lib.hid (Cs.new wr #[.string s, .int .i64 v] 71)
      have HM1 := Lib.hid (HM.out.alloc (.cells #[.string s, .int .i64 v] 71))
      have HB1 := Lib.hid (HB.out.alloc HB.out.size (.cells #[.string s, .int .i64 v] 71))
      clear HM HB
      go_upto_region 5 with fail
      obtain ⟨w5, hwn⟩ : ∃ w5, wr.alloc (.cells #[.string s, .int .i64 v] 71) = w5 := ⟨_, rfl⟩
      obtain ⟨q, hqn⟩ : ∃ q, wr.heap.size = q := ⟨_, rfl⟩
      rw [hwn] at HN HM1 HB1
      rw [hqn] at HN
      rw [hwn, hqn]
      clear hwn hqn k0 k1
      have n0 := HN.out.at 0 _ rfl
      have n1 := HN.out.at 1 _ rfl
      have hkey : keyOf Tryd.prog 9 (.string s) = some (.string s.data.toList) := Go.WideMaps.keyOf_string_mk tString hs
      have HKEY := Lib.hid hkey
      clear hkey
      obtain ⟨b1, hb1⟩ : ∃ z, nameB s = z := ⟨_, rfl⟩
      have HN1 := Lib.hid hb1
      clear hb1
      go_wp2_with fail
      go_at_call 48
      refine (pisName_b s b1 HN1 hs _).mono ?_
      rintro e wy ⟨rfl, rfl⟩
      cases b1 with
      | false =>
        have hr : r = 7 := by rw [← HR.out, HAT.out, if_pos HN1.out]
        subst hr
        clear HR HAT
        go_wp2_with fail
        go_ret
        exact ⟨rfl, HB1.out⟩
      | true =>
        obtain ⟨b2, hb2⟩ : ∃ z, amongB ((xs.take i).map Lb.name) s = z := ⟨_, rfl⟩
        have HB2 := Lib.hid hb2
        clear hb2
        cases b2 with
        | true =>
          have hr : r = 8 := by rw [← HR.out, HAT.out, if_neg (by rw [HN1.out]; decide), if_pos HB2.out]
          subst hr
          clear HR HAT
          go_wp2_with (first | (at_lookup; refine wpList_lookup_own_bool _ rfl _ _ 100 rfl 9 4 lawS tMapB tBool (zBool _) w.heap.size i D rfl HM1.out.1 _ _ rfl HKEY.out true (by rw [HM1.out.2 s, HB2.out]) ?_) | fail)
          go_ret
          exact ⟨rfl, HB1.out⟩
        | false =>
          have HRR : Hid ((if v < 0 ∨ n ≤ v then 3 else labelsC n ((xs.take (i + 1)).map Lb.name) (xs.drop (i + 1))) = r) := by
            have h := HAT.out
            rw [if_neg (show ¬ nameB s = false by rw [HN1.out]; decide), if_neg (show ¬ amongB ((xs.take i).map Lb.name) s = true by rw [HB2.out]; decide)] at h
            show _ = _
            rw [← h]
            exact HR.out
          clear HR HAT
          by_cases hv0 : v < 0
          · have hr : r = 3 := by rw [← HRR.out, if_pos (Or.inl hv0)]
            subst hr
            clear HRR
            go_wp2_with (first | (at_lookup; refine wpList_lookup_own_bool _ rfl _ _ 100 rfl 9 4 lawS tMapB tBool (zBool _) w.heap.size i D rfl HM1.out.1 _ _ rfl HKEY.out false (by rw [HM1.out.2 s, HB2.out]) ?_) | fail)
            go_ret
            exact ⟨rfl, HB1.out⟩
          by_cases hvn : n ≤ v
          · have hr : r = 3 := by rw [← HRR.out, if_pos (Or.inr hvn)]
            subst hr
            clear HRR
            go_wp2_with (first | (at_lookup; refine wpList_lookup_own_bool _ rfl _ _ 100 rfl 9 4 lawS tMapB tBool (zBool _) w.heap.size i D rfl HM1.out.1 _ _ rfl HKEY.out false (by rw [HM1.out.2 s, HB2.out]) ?_) | fail)
            go_ret
            exact ⟨rfl, HB1.out⟩
          · have HR2 : Hid (labelsC n ((xs.take (i + 1)).map Lb.name) (xs.drop (i + 1)) = r) := by
              have h := HRR.out
              rw [if_neg (by omega)] at h
              exact h
            clear HRR
            go_wp2_with (first | (at_lookup; refine wpList_lookup_own_bool _ rfl _ _ 100 rfl 9 4 lawS tMapB tBool (zBool _) w.heap.size i D rfl HM1.out.1 _ _ rfl HKEY.out false (by rw [HM1.out.2 s, HB2.out]) ?_) | (at_mapUpdate; refine wpList_mapUpdate_own _ rfl _ _ _ 100 rfl 9 4 lawS tMapB _ w.heap.size i D rfl HM1.out.1 (by omega) _ _ _ rfl rfl HKEY.out _ [] (plainElem_bool tBool true) ?_; intro w6 hown6 hgrow6) | fail)
            have HM6 := Lib.hid (HM1.out.put s hown6)
            have HB6 := Lib.hid (HB1.out.grown hgrow6 HB1.out.size (fun j hj => by cases hj; exact Nat.le_refl _))
            clear hown6 hgrow6
            go_roundw
            case rel => exact ⟨i + 1, _, by omega, by go_num, HR2, by rw [List.take_add_one, HT.out]; simpa using HM6, HB6⟩
            case measure => simp [intOf]; omega
    · have hr : r = 0 := by rw [← HR.out]; exact labelsC_end (by rw [HL.out]; omega) _
      subst hr
      clear HR
      have hge : ¬ ((i : Int) < (l : Int)) := by omega
      go_wp2_with fail
      go_ret
      exact ⟨rfl, HB.out⟩
end Go.Proofs.YtnipigninbeplaaDoor
