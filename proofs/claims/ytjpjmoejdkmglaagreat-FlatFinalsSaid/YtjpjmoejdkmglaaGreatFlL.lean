/-
  The walk over value.
-/
import Derived.Test.YtjpjmoejdkmglaaGreatFlK
import Derived.Laws.EntriesVeiled
namespace Go.Proofs.YtjpjmoejdkmglaaGreat
open Go.RowKit

set_option maxRecDepth 100000 in
set_option maxHeartbeats 4000000 in
theorem value_any (vs : List Vr) (hvb : vB vs) (inp : Bool) (vals : List Int) (hva : valOk vs vals) (Ax : Option Addr) (lx cx : Nat) (m : Nat) : (∀ (o n : Int) (ks : List Tm) (l : Nat) (A : Option Addr) (c : Nat) (w : World) (r : Int), ks.length = l → Tm.cnt (.mk o n ks) ≤ m → TOk w A c ks → Zs w Ax lx cx vals → Hid (formedB vs inp (.mk o n ks) = true) → Hid ((rangedP vs (.mk o n ks)).isSome = true) → Hid (valueP vals (.mk o n ks) = r) →
    Calls Tryz.prog 41 #[.slice Ax lx cx, .agg #[.int .i64 o, .int .i64 n, .slice A l c]] w fun e w' => e = .returned (.int .i64 r) ∧ Below w.heap.size w w') := by
  induction m with
  | zero => intro o n ks l A c w r _ h; have := Tm.cnt_pos (.mk o n ks); omega
  | succ m ih =>
    intro o n ks l A c w r hl hm ht hz HFB HRG H
    have hml : Tm.cntL ks ≤ m := by simp only [Tm.cnt] at hm; omega
    have hff : formedN vs inp o n ks.length = true ∧ formedL vs inp ks = true := by
      have := HFB.out
      rw [formedB, Bool.and_eq_true] at this
      exact this
    have hf : ∀ i (hi : i < ks.length), formedB vs inp ks[i] = true := fun i hi => by
      cases hc : formedB vs inp ks[i]
      · rw [formedL_take vs inp ks i hi hc] at hff; cases hff.2
      · rfl
    have hgk : ∃ k, rangedL vs ks = some k := by
      have := HRG.out
      rw [rangedP] at this
      cases h : rangedL vs ks with
      | none => rw [h] at this; cases this
      | some k => exact ⟨k, rfl⟩
    obtain ⟨k, hk⟩ := hgk
    obtain ⟨hkl, hkg⟩ := rangedL_get ks k hk
    have hg : ∀ i (hi : i < ks.length), (rangedP vs ks[i]).isSome = true := fun i hi => by rw [hkg i hi]; rfl
    have HVB : Hid (∀ j, j < l → -1048576 ≤ (valuesL vals ks).getD j 0 ∧ (valuesL vals ks).getD j 0 ≤ 1048576) := fun j hj => by
      have hjk : j < ks.length := by omega
      have e1 := value_in hva inp _ ks[j] (Nat.le_refl _) (hf j hjk) _ (hkg j hjk)
      have e2 := (ranged_ok hvb _ ks[j] (Nat.le_refl _) _ (hkg j hjk)).2
      rw [valuesL_get vals ks j hjk]
      unfold inB at e2
      omega
    have KID := Lib.hid (kid_b vs inp vals Ax lx cx m (Lib.hid ih) o n ks l A c hl hml hf hg)
    have HFN : Hid (formedN vs inp o n l = true) := by show _ = _; rw [← hl]; exact hff.1
    have HVA := Lib.hid hva
    have HZ0 := Lib.hid hz
    have HL := Lib.hid hl
    have hlm : l ≤ 9223372036854775807 := by have h1 := ht.1; have h2 := ht.2.1; unfold maxLen at h2; omega
    have hxm : lx ≤ 9223372036854775807 := by have h1 := hz.cap; have h2 := hz.big; unfold maxLen at h2; omega
    have hbx : Below w.heap.size w ((w.alloc (.cells #[.slice Ax lx cx] 27)).alloc (.cells #[.int .i64 o, .int .i64 n, .slice A l c] 53)) := by go_grown
    have h2 := (Cs.new w #[.slice Ax lx cx] 27).alloc (.cells #[.int .i64 o, .int .i64 n, .slice A l c] 53)
    have h3 := Cs.new1 w (.cells #[.slice Ax lx cx] 27) #[.int .i64 o, .int .i64 n, .slice A l c] 53
    have HV0 : Hid (Vw _ w.heap.size (w.heap.size + 1) Ax lx cx vals o n A l c ks) := ⟨h2, h3, ht.below hbx, hz.below hbx⟩
    have HB0 := Lib.hid hbx
    obtain ⟨W, hW⟩ : ∃ W, (w.alloc (.cells #[.slice Ax lx cx] 27)).alloc (.cells #[.int .i64 o, .int .i64 n, .slice A l c] 53) = W := ⟨_, rfl⟩
    rw [hW] at HV0 HB0
    have HW := Lib.hid hW
    have hcs := kids_cases (formedN_kids HFN.out).1
    clear hl hm ht hz hml hff hf hk hkl hkg hg hbx h2 h3 hW hva hvb HFB HRG ih
    rcases hcs with rfl | rfl | rfl | rfl | hop | rfl | rfl
    · have hr : r = n := by rw [← H.out, valueP]; rfl
      subst hr
      clear H
      have d0 := HV0.out.c3.at 0 _ rfl
      have d1 := HV0.out.c3.at 1 _ rfl
      have d2 := HV0.out.c3.at 2 _ rfl
      have e0 := HV0.out.c2.at 0 _ rfl
      go_enter Tryz.func41, Tryz.ntmps41
      go_upto_region 1 with fail
      rw [HW.out]
      go_wp2_with fail
      go_ret
      exact ⟨rfl, HB0.out⟩
    · obtain ⟨q1, q2⟩ := (formedN_kids HFN.out).2.2.2 rfl
      obtain ⟨i, rfl⟩ : ∃ i : Nat, n = i := ⟨n.toNat, by omega⟩
      have hil : i < lx := by have h1 := HVA.out.1; have h2 := HZ0.out.len; omega
      have hr : r = vals.getD i 0 := by rw [← H.out, valueP]; rfl
      obtain ⟨g, f, hA, hg, hc⟩ := HV0.out.zs.mem (by omega)
      subst hA
      have hcell := hc i hil
      rw [← hr] at hcell
      have hil' : (i : Int) < (lx : Int) := by omega
      clear hc hr H
      have d0 := HV0.out.c3.at 0 _ rfl
      have d1 := HV0.out.c3.at 1 _ rfl
      have d2 := HV0.out.c3.at 2 _ rfl
      have e0 := HV0.out.c2.at 0 _ rfl
      go_enter Tryz.func41, Tryz.ntmps41
      go_upto_region 1 with fail
      rw [HW.out]
      go_wp2_with fail
      go_ret
      exact ⟨rfl, HB0.out⟩
    · have hl1 : 1 ≤ l := by have := (formedN_kids HFN.out).2.1; rw [show kidsP 6 = (1, 1) by decide] at this; simp only at this; omega
      obtain ⟨v0, hv0⟩ : ∃ v, (valuesL vals ks).getD 0 0 = v := ⟨_, rfl⟩
      have H0 := Lib.hid hv0
      have b0 := HVB.out 0 (by omega)
      rw [hv0] at b0
      have hr : r = -v0 := by rw [← H.out, valueP, ← hv0]; rfl
      subst hr
      clear H hv0
      have d0 := HV0.out.c3.at 0 _ rfl
      have d1 := HV0.out.c3.at 1 _ rfl
      have d2 := HV0.out.c3.at 2 _ rfl
      have e0 := HV0.out.c2.at 0 _ rfl
      go_enter Tryz.func41, Tryz.ntmps41
      go_upto_region 1 with fail
      rw [HW.out]
      go_wp2_with fail
      go_at_call 70
      refine (KID.out 0 v0 (by omega) H0 _ _ _ HV0.out).mono ?_
      rintro e u1 ⟨rfl, hb⟩
      have HV1 := Lib.hid (HV0.out.next hb)
      have HB1 := Lib.hid (HB0.out.trans (hb.mono HB0.out.size))
      clear hb
      go_wp2_with fail
      go_ret
      exact ⟨rfl, HB1.out⟩
    · have hl1 : 1 ≤ l := by have := (formedN_kids HFN.out).2.1; rw [show kidsP 7 = (1, 1) by decide] at this; simp only at this; omega
      obtain ⟨v0, hv0⟩ : ∃ v, (valuesL vals ks).getD 0 0 = v := ⟨_, rfl⟩
      have H0 := Lib.hid hv0
      have b0 := HVB.out 0 (by omega)
      rw [hv0] at b0
      have hr : r = flagP (decide (v0 = 0)) := by rw [← H.out, valueP, ← hv0]; rfl
      clear H hv0
      have d0 := HV0.out.c3.at 0 _ rfl
      have d1 := HV0.out.c3.at 1 _ rfl
      have d2 := HV0.out.c3.at 2 _ rfl
      have e0 := HV0.out.c2.at 0 _ rfl
      by_cases hz : v0 = 0
      · have hd : (v0 == 0) = true := by rw [beq_iff_eq]; exact hz
        rw [decide_eq_true hz] at hr
        clear hz
        go_enter Tryz.func41, Tryz.ntmps41
        go_upto_region 1 with fail
        rw [HW.out]
        go_wp2_with fail
        go_at_call 70
        refine (KID.out 0 v0 (by omega) H0 _ _ _ HV0.out).mono ?_
        rintro e u1 ⟨rfl, hb⟩
        have HV1 := Lib.hid (HV0.out.next hb)
        have HB1 := Lib.hid (HB0.out.trans (hb.mono HB0.out.size))
        clear hb
        go_wp2_with fail
        go_at_call 71
        refine (flag_b true _).mono ?_
        rintro e u2 ⟨rfl, rfl⟩
        go_wp2_with fail
        go_ret
        exact ⟨by rw [hr]; rfl, HB1.out⟩
      · have hd := beq_of hz
        rw [decide_eq_false hz] at hr
        clear hz
        go_enter Tryz.func41, Tryz.ntmps41
        go_upto_region 1 with fail
        rw [HW.out]
        go_wp2_with fail
        go_at_call 70
        refine (KID.out 0 v0 (by omega) H0 _ _ _ HV0.out).mono ?_
        rintro e u1 ⟨rfl, hb⟩
        have HV1 := Lib.hid (HV0.out.next hb)
        have HB1 := Lib.hid (HB0.out.trans (hb.mono HB0.out.size))
        clear hb
        go_wp2_with fail
        go_at_call 71
        refine (flag_b false _).mono ?_
        rintro e u2 ⟨rfl, rfl⟩
        go_wp2_with fail
        go_ret
        exact ⟨by rw [hr]; rfl, HB1.out⟩
    · have hk2 : 1 < l := by
        obtain ⟨_, q2, q3, _⟩ := formedN_kids HFN.out
        rw [kids_two hop] at q2 q3
        simp only at q2 q3
        omega
      obtain ⟨v0, hv0⟩ : ∃ v, (valuesL vals ks).getD 0 0 = v := ⟨_, rfl⟩
      have H0 := Lib.hid hv0
      have b0 := HVB.out 0 (by omega)
      rw [hv0] at b0
      obtain ⟨v1, hv1⟩ : ∃ v, (valuesL vals ks).getD 1 0 = v := ⟨_, rfl⟩
      have H1 := Lib.hid hv1
      have b1 := HVB.out 1 (by omega)
      rw [hv1] at b1
      have hr : binP o v0 v1 = r := by
        rw [← H.out, valueP, ← hv0, ← hv1]
        unfold nodeV
        rw [if_neg (by omega), if_neg (by omega), if_neg (by omega), if_neg (by omega), if_neg (by omega), if_neg (by omega)]
      have HR := Lib.hid hr
      have HX0 := Lib.hid (HV0.out.drew)
      have HY0 := Lib.hid (HB0.out.drew)
      have n0 := beq_of (show o ≠ 0 by omega)
      have n24 := beq_of (show o ≠ 24 by omega)
      have n6 := beq_of (show o ≠ 6 by omega)
      have n7 := beq_of (show o ≠ 7 by omega)
      have n23 := beq_of (show o ≠ 23 by omega)
      have n25 := beq_of (show o ≠ 25 by omega)
      have HOP := Lib.hid hop
      clear H hv0 hv1 hr hop
      have d0 := HV0.out.c3.at 0 _ rfl
      have d1 := HV0.out.c3.at 1 _ rfl
      have d2 := HV0.out.c3.at 2 _ rfl
      have e0 := HV0.out.c2.at 0 _ rfl
      go_enter Tryz.func41, Tryz.ntmps41
      go_upto_region 1 with fail
      rw [HW.out]
      go_upto_region 17 with fail
      go_region_held3 (fun W' => W'.cell? ⟨w.heap.size + 1, 0, none⟩ = some (.int .i64 o)) (first | exact HX0.out.c3.at 0 _ rfl | exact HX1.out.c3.at 0 _ rfl | exact HX2.out.c3.at 0 _ rfl) (first
        | (go_at_call 70; refine (KID.out 1 v1 (by omega) H1 _ _ _ HX1.out).mono ?_; rintro e u2 ⟨rfl, hb⟩; have HX2 := Lib.hid (HX1.out.next hb); have HY2 := Lib.hid (HY1.out.trans (hb.mono HY1.out.size)); clear hb)
        | (go_at_call 70; refine (KID.out 0 v0 (by omega) H0 _ _ _ HX0.out).mono ?_; rintro e u1 ⟨rfl, hb⟩; have HX1 := Lib.hid (HX0.out.next hb); have HY1 := Lib.hid (HY0.out.trans (hb.mono HY0.out.size)); clear hb)
        | (go_at_call 72; refine (binary_b o v0 v1 r HOP.out HR b0.1 b0.2 b1.1 b1.2 _).mono ?_; rintro e u3 ⟨rfl, rfl⟩))
      go_wp2_with fail
      go_ret
      exact ⟨rfl, HY2.out⟩
    · have hl3 : 2 < l := by
        obtain ⟨_, q2, q3, _⟩ := formedN_kids HFN.out
        rw [show kidsP 23 = (3, 3) by decide] at q2 q3
        simp only at q2 q3
        omega
      obtain ⟨v0, hv0⟩ : ∃ v, (valuesL vals ks).getD 0 0 = v := ⟨_, rfl⟩
      have H0 := Lib.hid hv0
      have b0 := HVB.out 0 (by omega)
      rw [hv0] at b0
      obtain ⟨v1, hv1⟩ : ∃ v, (valuesL vals ks).getD 1 0 = v := ⟨_, rfl⟩
      have H1 := Lib.hid hv1
      have b1 := HVB.out 1 (by omega)
      rw [hv1] at b1
      obtain ⟨v2, hv2⟩ : ∃ v, (valuesL vals ks).getD 2 0 = v := ⟨_, rfl⟩
      have H2 := Lib.hid hv2
      have b2 := HVB.out 2 (by omega)
      rw [hv2] at b2
      have hr : r = if v0 ≠ 0 then v1 else v2 := by rw [← H.out, valueP, ← hv0, ← hv1, ← hv2]; rfl
      clear H hv0 hv1 hv2
      have d0 := HV0.out.c3.at 0 _ rfl
      have d1 := HV0.out.c3.at 1 _ rfl
      have d2 := HV0.out.c3.at 2 _ rfl
      have e0 := HV0.out.c2.at 0 _ rfl
      by_cases hz : v0 = 0
      · have hd : (v0 != 0) = false := by rw [hz]; rfl
        rw [if_neg (fun h => h hz)] at hr
        subst hr
        clear hz
        go_enter Tryz.func41, Tryz.ntmps41
        go_upto_region 1 with fail
        rw [HW.out]
        go_wp2_with fail
        go_at_call 70
        refine (KID.out 0 v0 (by omega) H0 _ _ _ HV0.out).mono ?_
        rintro e u1 ⟨rfl, hb⟩
        have HV1 := Lib.hid (HV0.out.next hb)
        have HB1 := Lib.hid (HB0.out.trans (hb.mono HB0.out.size))
        clear hb
        clear d0 d1 d2 e0
        have d0 := HV1.out.c3.at 0 _ rfl
        have d1 := HV1.out.c3.at 1 _ rfl
        have d2 := HV1.out.c3.at 2 _ rfl
        have e0 := HV1.out.c2.at 0 _ rfl
        go_wp2_with fail
        go_at_call 70
        refine (KID.out 2 r (by omega) H2 _ _ _ HV1.out).mono ?_
        rintro e u2 ⟨rfl, hb⟩
        have HV2 := Lib.hid (HV1.out.next hb)
        have HB2 := Lib.hid (HB1.out.trans (hb.mono HB1.out.size))
        clear hb
        go_wp2_with fail
        go_ret
        exact ⟨rfl, HB2.out⟩
      · have hd := bne_of hz
        rw [if_pos hz] at hr
        subst hr
        clear hz
        go_enter Tryz.func41, Tryz.ntmps41
        go_upto_region 1 with fail
        rw [HW.out]
        go_wp2_with fail
        go_at_call 70
        refine (KID.out 0 v0 (by omega) H0 _ _ _ HV0.out).mono ?_
        rintro e u1 ⟨rfl, hb⟩
        have HV1 := Lib.hid (HV0.out.next hb)
        have HB1 := Lib.hid (HB0.out.trans (hb.mono HB0.out.size))
        clear hb
        clear d0 d1 d2 e0
        have d0 := HV1.out.c3.at 0 _ rfl
        have d1 := HV1.out.c3.at 1 _ rfl
        have d2 := HV1.out.c3.at 2 _ rfl
        have e0 := HV1.out.c2.at 0 _ rfl
        go_wp2_with fail
        go_at_call 70
        refine (KID.out 1 r (by omega) H1 _ _ _ HV1.out).mono ?_
        rintro e u2 ⟨rfl, hb⟩
        have HV2 := Lib.hid (HV1.out.next hb)
        have HB2 := Lib.hid (HB1.out.trans (hb.mono HB1.out.size))
        clear hb
        go_wp2_with fail
        go_ret
        exact ⟨rfl, HB2.out⟩
    · have hl2 : 2 ≤ l ∧ l ≤ 33 := by
        obtain ⟨_, q2, q3, _⟩ := formedN_kids HFN.out
        rw [show kidsP 25 = (2, 33) by decide] at q2 q3
        simp only at q2 q3
        omega
      obtain ⟨v0, hv0⟩ : ∃ v, (valuesL vals ks).getD 0 0 = v := ⟨_, rfl⟩
      have H0 := Lib.hid hv0
      have b0 := HVB.out 0 (by omega)
      rw [hv0] at b0
      obtain ⟨cl, hcl⟩ : ∃ x, clampP v0 0 ((l : Int) - 2) = x := ⟨_, rfl⟩
      have hclb : 0 ≤ cl ∧ cl ≤ (l : Int) - 2 := by rw [← hcl]; unfold clampP; omega
      obtain ⟨j, hj⟩ : ∃ j : Nat, 1 + cl = (j : Int) := ⟨(1 + cl).toNat, by omega⟩
      have hjl : j < l := by omega
      have hr : (valuesL vals ks).getD j 0 = r := by
        rw [← H.out, valueP]
        show _ = (valuesL vals ks).getD (1 + clampP ((valuesL vals ks).getD 0 0) 0 (((valuesL vals ks).length : Int) - 2)).toNat 0
        rw [valuesL_len, HL.out, hv0, hcl, hj, Int.toNat_natCast]
      have HR := Lib.hid hr
      have HCL := Lib.hid hcl
      have HJ : Hid (IntKind.i64.wrap (1 + cl) = (j : Int)) := by show _ = _; rw [← hj]; exact IntWalk.i64_in _ (by omega)
      have HWL : Hid (IntKind.i64.wrap ((l : Int) - 2) = (l : Int) - 2) := IntWalk.i64_in _ (by omega)
      have HX0 := Lib.hid (HV0.out.drew)
      have HY0 := Lib.hid (HB0.out.drew)
      have HJL := Lib.hid hjl
      clear H hv0 hr hcl hj hjl
      have d0 := HV0.out.c3.at 0 _ rfl
      have d1 := HV0.out.c3.at 1 _ rfl
      have d2 := HV0.out.c3.at 2 _ rfl
      have e0 := HV0.out.c2.at 0 _ rfl
      go_enter Tryz.func41, Tryz.ntmps41
      go_upto_region 1 with fail
      rw [HW.out]
      go_upto_region 16 with fail
      go_region_held3 (fun W' => W'.cell? ⟨w.heap.size + 1, 2, none⟩ = some (.slice A l c)) (first | exact HX0.out.c3.at 2 _ rfl | exact HX1.out.c3.at 2 _ rfl | exact HX2.out.c3.at 2 _ rfl) (first
        | (go_at_call 70; (first | rw [HJ.out] | skip); refine (KID.out j r HJL.out HR _ _ _ HX1.out).mono ?_; rintro e u2 ⟨rfl, hb⟩; have HX2 := Lib.hid (HX1.out.next hb); have HY2 := Lib.hid (HY1.out.trans (hb.mono HY1.out.size)); clear hb)
        | (go_at_call 70; refine (KID.out 0 v0 (by omega) H0 _ _ _ HX0.out).mono ?_; rintro e u1 ⟨rfl, hb⟩; have HX1 := Lib.hid (HX0.out.next hb); have HY1 := Lib.hid (HY0.out.trans (hb.mono HY0.out.size)); clear hb)
        | (go_at_call 40; (first | rw [HWL.out] | skip); refine (clamp_b v0 0 ((l : Int) - 2) cl HCL _).mono ?_; rintro e u3 ⟨rfl, rfl⟩))
      go_wp2_with fail
      go_ret
      exact ⟨rfl, HY2.out⟩
end Go.Proofs.YtjpjmoejdkmglaaGreat
