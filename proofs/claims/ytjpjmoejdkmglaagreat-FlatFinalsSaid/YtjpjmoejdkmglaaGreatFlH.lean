/-
  The walks over ranged and termCode.
-/
import Derived.Test.YtjpjmoejdkmglaaGreatFlG
namespace Go.Proofs.YtjpjmoejdkmglaaGreat
open Go.RowKit

set_option maxRecDepth 100000 in
set_option maxHeartbeats 4000000 in
theorem ranged_any (vs : List Vr) (hvb : vB vs) (Av : Option Addr) (lv cv : Nat) (inp : Bool) (m : Nat) : ∀ (o n : Int) (ks : List Tm) (l : Nat) (A : Option Addr) (c : Nat) (w : World) (x : Option (Int × Int)), ks.length = l → Tm.cnt (.mk o n ks) ≤ m → TOk w A c ks → VOk w Av lv cv vs → Hid (formedB vs inp (.mk o n ks) = true) → Hid (rangedP vs (.mk o n ks) = x) →
    Calls Tryz.prog 90 #[.slice Av lv cv, .agg #[.int .i64 o, .int .i64 n, .slice A l c]] w fun e w' => (∃ a b, e = .returned (.tuple #[.agg #[.int .i64 a, .int .i64 b], .bool x.isSome]) ∧ ∀ r, x = some r → r = (a, b)) ∧ Below w.heap.size w w' := by
  induction m with
  | zero => intro o n ks l A c w x _ h; have := Tm.cnt_pos (.mk o n ks); omega
  | succ m ih =>
    intro o n ks l A c w x hl hm ht hv HFB H
    have IH := Lib.hid ih
    have HM : Hid (Tm.cntL ks ≤ m) := by show _ ≤ _; simp only [Tm.cnt] at hm; omega
    have HL := Lib.hid hl
    have HT := Lib.hid ht
    have HV := Lib.hid hv
    have HVB := Lib.hid hvb
    have hff : formedN vs inp o n ks.length = true ∧ formedL vs inp ks = true := by
      have := HFB.out
      rw [formedB, Bool.and_eq_true] at this
      exact this
    have HFN : Hid (formedN vs inp o n l = true) := by show _ = _; rw [← hl]; exact hff.1
    have HFL : Hid (∀ i (hi : i < ks.length), formedB vs inp ks[i] = true) := fun i hi => by
      cases hc : formedB vs inp ks[i]
      · rw [formedL_take vs inp ks i hi hc] at hff; cases hff.2
      · rfl
    have hl33 : l ≤ 33 := by
      obtain ⟨h1, h2, h3, _⟩ := formedN_kids HFN.out
      rcases kids_cases h1 with rfl | rfl | rfl | rfl | h | rfl | rfl
      · have e : kidsP 0 = (0, 0) := by decide
        rw [e] at h3; simp only at h3; omega
      · have e : kidsP 24 = (0, 0) := by decide
        rw [e] at h3; simp only at h3; omega
      · have e : kidsP 6 = (1, 1) := by decide
        rw [e] at h3; simp only at h3; omega
      · have e : kidsP 7 = (1, 1) := by decide
        rw [e] at h3; simp only at h3; omega
      · rw [kids_two h] at h3; simp only at h3; omega
      · have e : kidsP 23 = (3, 3) := by decide
        rw [e] at h3; simp only at h3; omega
      · have e : kidsP 25 = (2, 33) := by decide
        rw [e] at h3; simp only at h3; omega
    have HB := Lib.hid (boxR_below w o n A l c)
    have HC := Lib.hid (boxR_cs w o n A l c).1
    have HR := Lib.hid (boxR_cs w o n A l c).2
    obtain ⟨i0, hi, hi0, hi1, hi2⟩ := info_parts (P := Tryz.prog) (e := 132) (z := .agg #[.int .i64 0, .int .i64 0]) (size := 2) (bytes := 16) (by kernel_rfl)
    obtain ⟨W, hW⟩ : ∃ W, boxR w o n A l c = W := ⟨_, rfl⟩
    have hWs : W.heap.size = w.heap.size + 2 := by rw [← hW]; simp [boxR, boxT]
    rw [hW] at HB HC HR
    unfold boxR boxT at hW
    have HW := Lib.hid hW
    have HWS := Lib.hid hWs
    clear ih hm hl ht hv hff hW hvb hWs
    have r0 := HC.out.at 0 _ rfl
    have r1 := HC.out.at 1 _ rfl
    have r2 := HC.out.at 2 _ rfl
    go_enter Tryz.func90, Tryz.ntmps90
    go_upto_region 1 with fail
    rw [HW.out]
    go_wp2_with fail
    go_loopw [6, 15] (fun a v wr => ∃ (k : Nat) (A2 : Option Addr) (c2 : Nat) (rs : List (Int × Int)), k ≤ l ∧ v = .int .i64 k ∧ a = .slice A2 k c2 ∧ Hid (rs.length = k) ∧ Hid (∀ i (hi : i < ks.length), i < k → rangedP vs ks[i] = some (rs.getD i (0, 0))) ∧ Hid (wr.ownsRow (w.heap.size + 2) 132 2 (.slice A2 k c2) k (rvals rs)) ∧ Hid (Cs wr w.heap.size [.int .i64 o, .int .i64 n, .slice A l c]) ∧ Hid (Cs wr (w.heap.size + 1) [.int .i64 0, .int .i64 0]) ∧ Hid (Below w.heap.size w wr)) (fun _ v _ => l - (intOf v).toNat)
    case atStart => exact ⟨0, none, 0, [], by omega, rfl, rfl, rfl, fun i _ hi => absurd hi (by omega), ⟨rfl, .inl ⟨rfl, rfl⟩⟩, HC, HR, HB⟩
    case round =>
      clear HC HR HB r0 r1 r2
      obtain ⟨k, A2, c2, rs, hk, rfl, rfl, HRL, HRK, HO, HC, HR, HB⟩ := hrel
      have r0 := HC.out.at 0 _ rfl
      have r1 := HC.out.at 1 _ rfl
      have r2 := HC.out.at 2 _ rfl
      have q0 := HR.out.at 0 _ rfl
      have q1 := HR.out.at 1 _ rfl
      have p0 := HR.out.free 0
      have p1 := HR.out.free 1
      have hrl := HR.out.lt
      by_cases hlt : k < l
      · have hkl : k < ks.length := by rw [HL.out]; exact hlt
        obtain ⟨o', n', ks', g, f, A', c', hkid, hA, hg, hok, k0, k1, k2⟩ := (HT.out.below HB.out).kid k hkl
        subst hA
        obtain ⟨l', hl'⟩ : ∃ l', ks'.length = l' := ⟨_, rfl⟩
        rw [hl'] at k2
        obtain ⟨y, hy⟩ : ∃ y, rangedP vs (.mk o' n' ks') = y := ⟨_, rfl⟩
        have HY := Lib.hid hy
        have HKID := Lib.hid hkid
        have HFK : Hid (formedB vs inp (.mk o' n' ks') = true) := by have := HFL.out k hkl; rw [hkid] at this; exact this
        have hcm : Tm.cnt (.mk o' n' ks') ≤ m := by have := Tm.cntL_get ks k hkl; rw [hkid] at this; exact Nat.le_trans this HM.out
        have HCM := Lib.hid hcm
        have hba := (Below.refl wr.heap.size wr).alloc (Nat.le_refl _) (.cells #[.int .i64 o', .int .i64 n', .slice A' l' c'] 53)
        have HOK := Lib.hid (hok.below hba)
        have HVK := Lib.hid ((HV.out.below HB.out).below hba)
        have HC2 := Lib.hid (HC.out.next hba)
        have HR2 := Lib.hid (HR.out.next hba)
        have HO2 := Lib.hid (own_below HO.out hba)
        have HB2 := Lib.hid (HB.out.trans (hba.mono HB.out.size))
        have HL' := Lib.hid hl'
        have hlt' : (k : Int) < (l : Int) := by omega
        clear hba hok hkid hl' hy hcm
        go_wp2_with fail
        go_at_call 90
        refine (IH.out o' n' ks' l' A' c' _ y HL'.out HCM.out HOK.out HVK.out HFK HY).mono ?_
        rintro e w3 ⟨⟨a, b, rfl, hab⟩, hb3⟩
        have HC3 := Lib.hid (HC2.out.next hb3)
        have HR3 := Lib.hid (HR2.out.next hb3)
        have HO3 := Lib.hid (own_below HO2.out hb3)
        have HB3 := Lib.hid (HB2.out.trans (hb3.mono HB2.out.size))
        have HAB := Lib.hid hab
        clear hb3 HB2 HOK HVK HB HC HR HO HC2 HR2 HO2 k0 k1 k2 r0 r1 r2 q0 q1 p0 p1 hrl hab
        have r0 := HC3.out.at 0 _ rfl
        have r1 := HC3.out.at 1 _ rfl
        have r2 := HC3.out.at 2 _ rfl
        have q0 := HR3.out.at 0 _ rfl
        have q1 := HR3.out.at 1 _ rfl
        have p0 := HR3.out.free 0
        have p1 := HR3.out.free 1
        have hrl := HR3.out.lt
        cases y with
        | none =>
          have hx : x = none := by
            rw [← H.out, rangedP, rangedL_none vs ks k hkl (by rw [HKID.out]; exact HY.out)]
          subst hx
          have hba := (Below.refl w3.heap.size w3).alloc (Nat.le_refl _) (.cells #[.int .i64 a, .int .i64 b] 132)
          have HRN := Lib.hid (((HR3.out.set 0 (.int .i64 0) (by simp)).set 1 (.int .i64 0) (by simp)).alloc (.cells #[.int .i64 a, .int .i64 b] 132))
          have HBF := fin_two (b := w.heap.size + 1) (by omega) HB3.out (.int .i64 0) (.int .i64 0)
          have HBG := Lib.hid (HBF.alloc HBF.size (.cells #[.int .i64 a, .int .i64 b] 132))
          have HRM := Lib.hid (HR3.out.alloc (.cells #[.int .i64 a, .int .i64 b] 132))
          have HBM := Lib.hid (HB3.out.alloc HB3.out.size (.cells #[.int .i64 a, .int .i64 b] 132))
          clear hba HBF H
          simp only [Option.isSome_none]
          go_wp2_with fail
          have z0 := HRN.out.at 0 _ rfl
          have z1 := HRN.out.at 1 _ rfl
          refine bodyPost_ret (v := .tuple #[.agg #[.int .i64 0, .int .i64 0], .bool false]) (by simp [results, Tryz.results90, go_sem, z0, z1]) rfl ?_
          first
            | exact ⟨⟨0, 0, rfl, fun r hr => by cases hr⟩, HBG.out⟩
            | exact ⟨⟨0, 0, rfl, fun r hr => by cases hr⟩, fin_two (b := w.heap.size + 1) (by omega) HBM.out _ _⟩
        | some r =>
          obtain rfl := HAB.out r rfl
          have HRK' : Hid (∀ i (hi : i < ks.length), i < k + 1 → rangedP vs ks[i] = some ((rs ++ [(a, b)]).getD i (0, 0))) := fun i hi hik => by
            by_cases hki : i = k
            · subst hki
              rw [HKID.out, HY.out, List.getD_eq_getElem?_getD, List.getElem?_append_right (by rw [HRL.out]; exact Nat.le_refl _), HRL.out, Nat.sub_self]
              rfl
            · rw [HRK.out i hi (by omega), List.getD_eq_getElem?_getD, List.getD_eq_getElem?_getD, List.getElem?_append_left (by rw [HRL.out]; omega)]
          have HRL' : Hid ((rs ++ [(a, b)]).length = k + 1) := by show _ = _; rw [List.length_append, HRL.out]; rfl
          have hrv := rvals_snoc rs a b
          have HRV := Lib.hid hrv
          have hba := (Below.refl w3.heap.size w3).alloc (Nat.le_refl _) (.cells #[.int .i64 a, .int .i64 b] 132)
          have HC4 := Lib.hid (HC3.out.next hba)
          have HR4 := Lib.hid (HR3.out.next hba)
          have HO4 := Lib.hid (own_below HO3.out hba)
          have HB4 := Lib.hid (HB3.out.trans (hba.mono HB3.out.size))
          have HN4 := Lib.hid (Cs.new w3 #[.int .i64 a, .int .i64 b] 132)
          clear hrv hba HRK HRL HAB HC3 HR3 HO3 HB3 r0 r1 r2 q0 q1 p0 p1 hrl
          simp only [Option.isSome_some]
          go_upto_region 6 with fail
          obtain ⟨w4, hw4⟩ : ∃ w4, w3.alloc (.cells #[.int .i64 a, .int .i64 b] 132) = w4 := ⟨_, rfl⟩
          obtain ⟨b4, hb4⟩ : ∃ b, w3.heap.size = b := ⟨_, rfl⟩
          rw [hw4] at HC4 HR4 HO4 HB4 HN4
          rw [hb4] at HN4
          rw [hw4, hb4]
          clear hw4 hb4
          have n0 := HN4.out.at 0 _ rfl
          have n1 := HN4.out.at 1 _ rfl
          have hrl4 := HR4.out.lt
          go_wp2_with (at_builtin; (refine wpList_append_own _ rfl _ _ 143 rfl (w.heap.size + 2) 132 i0 (.agg #[.int .i64 0, .int .i64 0]) 2 16 Tryz.underlying143 hi hi0 hi1 hi2 rfl (by decide) _ k (rvals rs) rfl (HO4.out.alloc _) ⟨w4.heap.size, 0, none⟩ 1 1 [.int .i64 a, .int .i64 b] rfl rfl ?q1 ?q2 ?q3 ?q4 ?q5 ?_))
          try (case q1 => intro j u hj; match j, hj with | 0, hj => simp at hj; subst hj; simp [Addr.add] | 1, hj => simp at hj; subst hj; simp [Addr.add])
          case q2 => first | rfl | exact ⟨rfl, rfl⟩ | (intro u hu; simp at hu; rcases hu with rfl | rfl <;> rfl)
          case q3 => unfold maxLen; omega
          case q4 => omega
          case q5 => first | omega | (simp; omega)
          intro v' w5 hown5 hgrow _
          have hbel : Below (w.heap.size + 2) w4 w5 := ((Below.refl _ w4).alloc (by omega) _).grown hgrow (by simp; omega) (fun q hq => (HO4.out.lt q hq).1)
          obtain ⟨A5, c5, rfl⟩ := own_form hown5
          rw [← HRV.out] at hown5
          have HO5 := Lib.hid hown5
          have HC5 := Lib.hid (cs_low HC4.out hbel (by omega))
          have HR5 := Lib.hid (cs_low HR4.out hbel (by omega))
          have HB5 := Lib.hid (HB4.out.trans (hbel.mono (by omega)))
          clear hown5 hgrow hbel HO4 HC4 HR4 HB4 HN4 n0 n1 hrl4
          go_wp2_with fail
          go_roundw
          case rel => exact ⟨k + 1, A5, c5, rs ++ [(a, b)], by omega, by go_num, rfl, HRL', HRK', HO5, HC5, HR5, HB5⟩
          case measure => simp [intOf]; omega
      · obtain rfl : k = l := by omega
        have hrall : rangedL vs ks = some rs := rangedL_all vs ks rs (by rw [HRL.out, HL.out]) fun i hi => HRK.out i hi (by have := HL.out; omega)
        have HI : Hid (∀ j, j < k → inB (rs.getD j (0, 0))) := fun j hj => by
          have hjk : j < ks.length := by rw [HL.out]; exact hj
          exact (ranged_ok HVB.out _ ks[j] (Nat.le_refl _) _ (HRK.out j hjk hj)).2
        obtain ⟨⟨R1, R2⟩, hRR⟩ : ∃ R, ruleP vs o n rs = R := ⟨_, rfl⟩
        have HRR := Lib.hid hRR
        have hx : x = if okR (R1, R2) = true then some (R1, R2) else none := by rw [← H.out, rangedP, hrall]; simp only [hRR]
        have HX := Lib.hid hx
        clear hrall hRR hx HRK
        go_wp2_with fail
        go_at_call 106
        refine (rule_b vs Av lv cv inp o n A k c rs A2 k c2 (R1, R2) HRR HFN HI _ (HV.out.below HB.out) (own_rs HRL.out HO.out)).mono ?_
        rintro e w6 ⟨rfl, hb6⟩
        have hba := (Below.refl w6.heap.size w6).alloc (Nat.le_refl _) (.cells #[.int .i64 R1, .int .i64 R2] 132)
        have hrl6 := (HR.out.next hb6).lt
        have HR7 := Lib.hid ((HR.out.next hb6).next hba)
        have hB6 := HB.out.trans (hb6.mono HB.out.size)
        have HB7 := Lib.hid (hB6.trans (hba.mono hB6.size))
        have HN7 := Lib.hid (Cs.new w6 #[.int .i64 R1, .int .i64 R2] 132)
        clear hb6 hba hB6 HC HR HB HO r0 r1 r2 q0 q1 p0 p1 hrl
        go_upto_region 11 with fail
        obtain ⟨w7, hw7⟩ : ∃ w7, w6.alloc (.cells #[.int .i64 R1, .int .i64 R2] 132) = w7 := ⟨_, rfl⟩
        obtain ⟨b7, hb7⟩ : ∃ b, w6.heap.size = b := ⟨_, rfl⟩
        rw [hw7] at HR7 HB7 HN7
        rw [hb7] at HN7
        rw [hw7, hb7]
        rw [hb7] at hrl6
        have hne : ¬ (w.heap.size + 1 = b7) := by omega
        have hne' : ¬ (b7 = w.heap.size + 1) := by omega
        clear hw7 hb7
        have q0 := HR7.out.at 0 _ rfl
        have q1 := HR7.out.at 1 _ rfl
        have p0 := HR7.out.free 0
        have p1 := HR7.out.free 1
        have n0 := HN7.out.at 0 _ rfl
        have n1 := HN7.out.at 1 _ rfl
        have hrl := HR7.out.lt
        have hnl := HN7.out.lt
        by_cases hg1 : -1048576 ≤ R1
        · have hd1 : decide (-1048576 ≤ R1) = true := decide_eq_true hg1
          by_cases hg2 : R2 ≤ 1048576
          · have hd2 : decide (R2 ≤ 1048576) = true := decide_eq_true hg2
            have hx : x = some (R1, R2) := by rw [HX.out, if_pos]; unfold okR; rw [hd1, hd2]; rfl
            subst hx
            go_region
            go_wp2_with fail
            obtain ⟨z0, z1⟩ := two_cells HR7.out (.int .i64 R1) (.int .i64 R2)
            refine bodyPost_ret (v := .tuple #[.agg #[.int .i64 R1, .int .i64 R2], .bool true]) (by simp [results, Tryz.results90, go_sem, z0, z1]) rfl ?_
            exact ⟨⟨R1, R2, rfl, fun r hr => (Option.some.inj hr).symm⟩, (fin_two (b := w.heap.size + 1) (by omega) HB7.out _ _).drew⟩
          · have hd2 : decide (R2 ≤ 1048576) = false := decide_eq_false hg2
            have hx : x = none := by rw [HX.out, if_neg]; unfold okR; rw [hd1, hd2]; simp
            subst hx
            go_region
            go_wp2_with fail
            obtain ⟨z0, z1⟩ := two_cells HR7.out (.int .i64 R1) (.int .i64 R2)
            refine bodyPost_ret (v := .tuple #[.agg #[.int .i64 R1, .int .i64 R2], .bool false]) (by simp [results, Tryz.results90, go_sem, z0, z1]) rfl ?_
            first | exact ⟨⟨R1, R2, rfl, (fun r hr => by cases hr)⟩, (fin_two (b := w.heap.size + 1) (by omega) HB7.out _ _).drew⟩ | exact ⟨⟨R1, R2, rfl⟩, (fin_two (b := w.heap.size + 1) (by omega) HB7.out _ _).drew⟩ | exact ⟨rfl, (fin_two (b := w.heap.size + 1) (by omega) HB7.out _ _).drew⟩
        · have hd1 : decide (-1048576 ≤ R1) = false := decide_eq_false hg1
          have hx : x = none := by rw [HX.out, if_neg]; unfold okR; rw [hd1]; simp
          subst hx
          go_region
          go_wp2_with fail
          obtain ⟨z0, z1⟩ := two_cells HR7.out (.int .i64 R1) (.int .i64 R2)
          refine bodyPost_ret (v := .tuple #[.agg #[.int .i64 R1, .int .i64 R2], .bool false]) (by simp [results, Tryz.results90, go_sem, z0, z1]) rfl ?_
          first | exact ⟨⟨R1, R2, rfl, (fun r hr => by cases hr)⟩, (fin_two (b := w.heap.size + 1) (by omega) HB7.out _ _).drew⟩ | exact ⟨⟨R1, R2, rfl⟩, (fin_two (b := w.heap.size + 1) (by omega) HB7.out _ _).drew⟩ | exact ⟨rfl, (fin_two (b := w.heap.size + 1) (by omega) HB7.out _ _).drew⟩
end Go.Proofs.YtjpjmoejdkmglaaGreat
