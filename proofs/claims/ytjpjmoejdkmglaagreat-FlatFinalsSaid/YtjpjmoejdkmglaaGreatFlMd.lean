/-
  The walk over the machine's run.
-/
import Derived.Test.YtjpjmoejdkmglaaGreatJI
import Derived.Deep.RegionLaw
import Derived.Deep.AppendLies
namespace Go.Proofs.YtjpjmoejdkmglaaGreat
open Go.RowKit

theorem infoI : (Tryz.prog.info? 3).map (fun i => (i.zero, i.size, i.bytes)) = some (some (.int .i64 0), 1, 8) := by kernel_rfl
theorem run_next {vs : List Vr} {hats : List Int} {ks : List Sp} {k nn : Nat} {x : Sp} {s s2 s' : Ms} (hkl : k < ks.length) (hkid : ks[k] = x) (hrs : runL vs hats (ks.drop k) s = s') (hev : runO vs hats x s = s2) (hft : Fit vs nn s) (hrm : nn + outL (ks.drop k) ≤ 1000) (hvb : vB vs) :
    runL vs hats (ks.drop (k + 1)) s2 = s' ∧ Fit vs (nn + outO x) s2 ∧ nn + outO x + outL (ks.drop (k + 1)) ≤ 1000 := by
  rw [runL_drop hkl, hkid, hev] at hrs
  rw [outL_drop hkl, hkid] at hrm
  refine ⟨hrs, ?_, by omega⟩
  have := runO_fit hvb (hats := hats) x nn s hft
  rwa [hev] at this

set_option maxRecDepth 100000 in
set_option maxHeartbeats 16000000 in
theorem run_any (vs : List Vr) (hvb : vB vs) (Av : Option Addr) (lv cv : Nat) (Ag : Option Addr) (lg cg : Nat) (Ay : Option Addr) (ly cy : Nat) (Ax : Option Addr) (cx : Nat) (Ah0 : Option Addr) (lh0 ch0 : Nat) (hats : List Int) (hhl : hats.length = lh0) (p : Nat) (w0 : World) (hv0 : VOk w0 Av lv cv vs) (m : Nat) : (∀ (ks : List Sp) (l : Nat) (A : Option Addr) (c : Nat) (w : World) (O : Value) (s : Ms) (n : Nat) (s' : Ms) (top : Bool), ks.length = l → Sp.cntL ks ≤ m → SOk w0 A c ks → Below w0.heap.size w0 w → Mk 3 w0.heap.size p (.slice Av lv cv) (.slice Ag lg cg) (.slice Ay ly cy) (.slice Ax lv cx) (.slice Ah0 lh0 ch0) hats w O s → stepsC vs lh0 top ks = 0 → Fit vs n s → n + outL ks ≤ 1000 → Hid (runL vs hats ks s = s') → Calls Tryz.prog 21 #[.pointer (some ⟨p, 0, none⟩), .slice A l c] w (Ran 3 w0.heap.size p (.slice Av lv cv) (.slice Ag lg cg) (.slice Ay ly cy) (.slice Ax lv cx) (.slice Ah0 lh0 ch0) hats w O s')) := by
  induction m with
  | zero =>
    intro ks l A c w O s n s' top hl hm ht hb hk hc hf hr H
    have hks : ks = [] := by
      cases ks with
      | nil => rfl
      | cons k ks => have := Sp.cnt_pos k; simp only [Sp.cntL] at hm; omega
    subst hks
    have hl0 : l = 0 := hl.symm
    subst hl0
    have hs : s = s' := by rw [← H.out, runL]
    subst hs
    have HK := Lib.hid hk
    clear ht hb hk hc hf hr H hhl hv0 hvb
    go_enter Tryz.func21, Tryz.ntmps21
    go_wp2_with fail
    go_loopw [8] (fun u wr => u = .int .i64 0 ∧ wr = w) (fun _ _ => 0)
    case atStart => exact ⟨rfl, rfl⟩
    case round =>
      obtain ⟨rfl, rfl⟩ := hrel
      go_wp2_with fail
      go_returns
      exact ⟨rfl, O, Went.refl HK.out⟩
  | succ m ih =>
    intro ks l A c w O s n s' top hl hm ht hb hk hc hf hr H
    have IH := Lib.hid ih
    have HVB := Lib.hid hvb
    have HV0 := Lib.hid hv0
    have HVL := Lib.hid hv0.len
    have HHL := Lib.hid hhl
    have HM := Lib.hid hm
    have HL := Lib.hid hl
    have HT := Lib.hid ht
    have HB := Lib.hid hb
    have HK := Lib.hid hk
    have HC := Lib.hid hc
    have HRS0 : Hid (runL vs hats (ks.drop 0) s = s') := H
    have HW0 := Lib.hid (Went.refl hk)
    have HFR0 : Hid (Fit vs n s ∧ n + outL (ks.drop 0) ≤ 1000) := Lib.hid ⟨hf, hr⟩
    have hlm : l ≤ 9223372036854775807 := by have h1 := ht.1; have h2 := ht.2.1; unfold maxLen at h2; omega
    clear ih hvb hv0 hhl hm hl ht hb hk hc hf hr H
    go_enter Tryz.func21, Tryz.ntmps21
    go_wp2_with fail
    go_loopw [8] (fun i wr => ∃ (k : Nat) (s1 : Ms) (O1 : Value) (nn : Nat), k ≤ l ∧ i = .int .i64 k ∧ Hid (runL vs hats (ks.drop k) s1 = s') ∧ Hid (Went 3 w0.heap.size p (.slice Av lv cv) (.slice Ag lg cg) (.slice Ay ly cy) (.slice Ax lv cx) (.slice Ah0 lh0 ch0) hats w O wr O1 s1) ∧ Hid (Fit vs nn s1 ∧ nn + outL (ks.drop k) ≤ 1000)) (fun i _ => l - (intOf i).toNat)
    case atStart => exact ⟨0, s, O, n, by omega, rfl, HRS0, HW0, HFR0⟩
    case round =>
      clear HRS0 HW0 HFR0
      obtain ⟨k, ⟨sv, so, st0⟩, O1, nn, hk, rfl, HRS, HW, HFR⟩ := hrel
      by_cases hlt : k < l
      · have hkl : k < ks.length := by rw [HL.out]; exact hlt
        have hlt' : (k : Int) < (l : Int) := by omega
        have hBl : w0.heap.size ≤ w.heap.size := HB.out.size
        have HBw := Lib.hid (HW.out.low HK.out HB.out hBl)
        obtain ⟨d, x1, v, n, o, tn, tk, th, el, bs, g, f, At, ct, Ah, ch, Ae, ce, Ab, cb, hkid, hA, hg, hsc, htok, hth, hel, hbs⟩ := (HT.out).step k hkl
        subst hA
        obtain ⟨lt, hlt1⟩ : ∃ l, tk.length = l := ⟨_, rfl⟩
        obtain ⟨lh, hlh⟩ : ∃ l, th.length = l := ⟨_, rfl⟩
        obtain ⟨le, hle⟩ : ∃ l, el.length = l := ⟨_, rfl⟩
        obtain ⟨lb, hlb⟩ : ∃ l, bs.length = l := ⟨_, rfl⟩
        rw [hlt1, hlh, hle, hlb] at hsc
        rw [hlb] at hbs
        have hdr : ks.drop k = .mk d x1 v n (.mk o tn tk) th el bs :: ks.drop (k + 1) := by rw [List.drop_eq_getElem_cons hkl, hkid]
        have hcm : 1 + Tm.cnt (.mk o tn tk) + Sp.cntL th + Sp.cntL el ≤ m + 1 := by
          have := Sp.cntL_get ks k hkl
          rw [hkid] at this
          simp only [Sp.cnt] at this
          have := HM.out
          omega
        have HLT := Lib.hid hlt1
        have HLH := Lib.hid hlh
        have HLE := Lib.hid hle
        have HLB := Lib.hid hlb
        have HCM := Lib.hid hcm
        obtain ⟨c0, c1, c2, c3, c4, c5, c6, c7, c8, c9⟩ := hsc
        obtain ⟨lastb, hst⟩ := stepsC_get ks vs lh0 top k hkl HC.out
        rw [hkid] at hst
        have HF := Lib.hid (stepC_fine hst)
        have HKID := Lib.hid hkid
        have HTK := Lib.hid htok
        have HTH := Lib.hid hth
        have HTE := Lib.hid hel
        have HTB := Lib.hid hbs
        have HFT0 := Lib.hid HFR.out.1
        have HRM := Lib.hid HFR.out.2
        obtain ⟨c0, c1, c2, c3, c4, c5, c6, c7, c8, c9⟩ : _ ∧ _ ∧ _ ∧ _ ∧ _ ∧ _ ∧ _ ∧ _ ∧ _ ∧ _ := ⟨(HBw.out.cell (p := ⟨g, _, none⟩) hg).trans c0, (HBw.out.cell (p := ⟨g, _, none⟩) hg).trans c1, (HBw.out.cell (p := ⟨g, _, none⟩) hg).trans c2, (HBw.out.cell (p := ⟨g, _, none⟩) hg).trans c3, (HBw.out.cell (p := ⟨g, _, none⟩) hg).trans c4, (HBw.out.cell (p := ⟨g, _, none⟩) hg).trans c5, (HBw.out.cell (p := ⟨g, _, none⟩) hg).trans c6, (HBw.out.cell (p := ⟨g, _, none⟩) hg).trans c7, (HBw.out.cell (p := ⟨g, _, none⟩) hg).trans c8, (HBw.out.cell (p := ⟨g, _, none⟩) hg).trans c9⟩
        have hgw : g < wr.heap.size := Nat.lt_of_lt_of_le hg HBw.out.size
        have hba := (Below.refl wr.heap.size wr).alloc (Nat.le_refl _) (.cells #[.int .i64 d, .int .i64 x1, .int .i64 v, .int .i64 n, .int .i64 o, .int .i64 tn, .slice At lt ct, .slice Ah lh ch, .slice Ae le ce, .slice Ab lb cb] 56)
        have HW3 := Lib.hid (HW.out.below hba)
        have HNO := Lib.hid (HW.out.st.fresh (Nat.le_refl wr.heap.size))
        have HQ3 := Lib.hid (Cs.new wr #[.int .i64 d, .int .i64 x1, .int .i64 v, .int .i64 n, .int .i64 o, .int .i64 tn, .slice At lt ct, .slice Ah lh ch, .slice Ae le ce, .slice Ab lb cb] 56)
        clear hkid hdr hcm hst htok hth hel hbs hlt1 hlh hle hlb hba HW HFR HBw
        go_upto_region 3 with fail
        obtain ⟨w3, hw3⟩ : ∃ w3, wr.alloc (.cells #[.int .i64 d, .int .i64 x1, .int .i64 v, .int .i64 n, .int .i64 o, .int .i64 tn, .slice At lt ct, .slice Ah lh ch, .slice Ae le ce, .slice Ab lb cb] 56) = w3 := ⟨_, rfl⟩
        obtain ⟨q, hq⟩ : ∃ q, wr.heap.size = q := ⟨_, rfl⟩
        rw [hw3] at HW3 HQ3
        rw [hq] at HQ3 HNO
        rw [hw3, hq]
        clear hw3 hq hgw c0 c1 c2 c3 c4 c5 c6 c7 c8 c9
        have n0 := HQ3.out.at 0 _ rfl
        have n1 := HQ3.out.at 1 _ rfl
        by_cases hd4 : d = 4
        · subst hd4
          have n2 := HQ3.out.at 2 _ rfl
          have n3 := HQ3.out.at 3 _ rfl
          have n4 := HQ3.out.at 4 _ rfl
          have n5 := HQ3.out.at 5 _ rfl
          have n6 := HQ3.out.at 6 _ rfl
          have n7 := HQ3.out.at 7 _ rfl
          have n8 := HQ3.out.at 8 _ rfl
          have n9 := HQ3.out.at 9 _ rfl
          obtain ⟨s2, hs2⟩ : ∃ z, loopM x1 (fun l => valueP l (.mk o tn tk)) (fun s => runL vs hats th s) n.toNat ⟨sv, so, st0⟩ = z := ⟨_, rfl⟩
          have HS2 := Lib.hid hs2
          have hev : runO vs hats (.mk 4 x1 v n (.mk o tn tk) th el bs) ⟨sv, so, st0⟩ = s2 := by rw [runO_loop, hs2]
          have HEV := Lib.hid hev
          have HRO : Hid (nn + n.toNat * outL th ≤ 1000) := Lib.hid (by have := HRM.out; rw [outL_drop hkl, HKID.out, outO_loop] at this; omega)
          have HB3 := Lib.hid (HW3.out.low HK.out HB.out hBl)
          clear hs2 hev
          go_wp2_with fail
          go_at_call 42
          refine (loop_b vs HVB.out Av lv cv Ag lg cg Ay ly cy Ax cx Ah0 lh0 ch0 hats p w0 HV0.out m IH 4 x1 v n o tn tk th el bs At lt ct Ah lh ch Ae le ce Ab lb cb HLT.out HLH.out (by have := HCM.out; omega) HTK.out HTH.out HF.out w3 O1 ⟨sv, so, st0⟩ nn s2 HB3.out HW3.out.st HFT0.out HRO.out HS2).mono ?_
          rintro e w4 ⟨rfl, O2, hw4⟩
          have HW4 := Lib.hid (HW3.out.trans hw4)
          have hev := HEV.out
          have hnx := run_next hkl HKID.out HRS.out hev HFT0.out HRM.out HVB.out
          have HN1 := Lib.hid hnx.1
          have HN2 := Lib.hid hnx.2
          clear hnx hev hw4 HW3 HQ3 HEV n0 n1 n2 n3 n4 n5 n6 n7 n8 n9
          go_wp2_with fail
          go_roundw
          case rel => exact ⟨k + 1, _, O2, _, by omega, by go_num, HN1, HW4, HN2⟩
          case measure => simp [intOf]; omega
        have hd4b := beq_of hd4
        obtain ⟨tz, htz⟩ : ∃ z, IntKind.i64.wrap (st0 + x1) = z := ⟨_, rfl⟩
        have HTZ : Hid (bumpT st0 x1 = tz) := htz
        have p6 := HW3.out.st.cs.at 6 _ rfl
        have pf6 := HW3.out.st.cs.free 6
        have hpl := HW3.out.st.cs.lt
        go_upto_region 5 with fail
        refine wp_region_still_tail 9 (by kernel_rfl) (by kernel_rfl) ?_
        simp only [List.take_succ_cons, List.take_zero, List.drop_succ_cons, List.drop_zero]
        repeat still_step
        refine wpStill_nil ?_
        change wpList _ _ _ _ _ w3.drew
        go_upto_region 6 with fail
        have HW2 := Lib.hid ((HW3.out.trans (HW3.out.st.time tz)).below (Below.refl _ _).drew)
        have HQ2 := Lib.hid ((HQ3.out.other (p := ⟨p, 6, none⟩) (fun e => HNO.out (.inl e.symm)) (.int .i64 tz)).drew)
        obtain ⟨w2, hw2⟩ : ∃ w2, (w3.setCell ⟨p, 6, none⟩ (.int .i64 tz)).drew = w2 := ⟨_, rfl⟩
        rw [hw2] at HW2 HQ2
        rw [hw2]
        simp only at HW2
        clear hw2 n0 n1 p6 pf6 hpl htz HW3 HQ3
        have HB2 := Lib.hid (HW2.out.low HK.out HB.out hBl)
        have HFT := Lib.hid (HFT0.out.time tz)
        have n0 := HQ2.out.at 0 _ rfl
        have hkd := HF.out.kind
        obtain rfl | rfl | rfl | rfl | rfl | rfl : d = 0 ∨ d = 1 ∨ d = 2 ∨ d = 3 ∨ d = 5 ∨ d = 6 := by omega
        · have HZ := Lib.hid (Zs.of_row HW2.out.st.v)
          obtain ⟨r, hr⟩ : ∃ r, valueP sv (.mk o tn tk) = r := ⟨_, rfl⟩
          have HRV := Lib.hid hr
          have hvr := HF.out.var (.inl rfl)
          have HHV := Lib.hid hvr
          have KP : Hid (∀ W, Below w2.heap.size w2 W → (W.cell? ⟨q, 2, none⟩ = some (.int .i64 v) ∧ W.cell? ⟨p, 3, none⟩ = some (.slice Ax lv cx) ∧ W.cell? ⟨q, 4, none⟩ = some (.int .i64 o) ∧ W.cell? ⟨q, 5, none⟩ = some (.int .i64 tn) ∧ W.cell? ⟨q, 6, none⟩ = some (.slice At lt ct))) := fun W h => ⟨(HQ2.out.next h).at 2 _ rfl, (HW2.out.st.cs.next h).at 3 _ rfl, (HQ2.out.next h).at 4 _ rfl, (HQ2.out.next h).at 5 _ rfl, (HQ2.out.next h).at 6 _ rfl⟩
          have hev : runO vs hats (.mk 0 x1 v n (.mk o tn tk) th el bs) ⟨sv, so, st0⟩ = ⟨setV vs sv v r, so, tz⟩ := by
            rw [(runO_act vs hats 0 x1 v n (.mk o tn tk) th el bs ⟨sv, so, st0⟩ (by decide) (by decide)), actM, if_pos rfl]
            simp only [hr, HTZ.out]
          have HEV := Lib.hid hev
          clear hr hvr hev
          go_upto_region 8 with fail
          go_region_held3 (fun W => W.cell? ⟨q, 2, none⟩ = some (.int .i64 v) ∧ W.cell? ⟨p, 3, none⟩ = some (.slice Ax lv cx) ∧ W.cell? ⟨q, 4, none⟩ = some (.int .i64 o) ∧ W.cell? ⟨q, 5, none⟩ = some (.int .i64 tn) ∧ W.cell? ⟨q, 6, none⟩ = some (.slice At lt ct)) (first | exact KP.out _ (Below.refl _ _).drew | exact KP.out _ HD1.out | exact KP5.out) (first
            | (go_at_call 43; refine (set_b vs Av lv cv (.slice Ag lg cg) (.slice Ay ly cy) (.slice Ax lv cx) (.slice Ah0 lh0 ch0) O1 hats w0.heap.size p w4 ⟨sv, so, tz⟩ (HW2.out.below HD1.out).st (HV0.out.below (HB2.out.trans (HD1.out.mono HB2.out.size))) v r HHV.out.1 (by rw [← HVL.out]; exact HHV.out.2) (by have := HFT.out.vlen; rw [HVL.out] at this; exact this)).mono ?_; rintro e w5 ⟨rfl, hs⟩; have HW5 := Lib.hid ((HW2.out.below HD1.out).trans hs); have HQ5 := Lib.hid (hs.keep (HQ2.out.next HD1.out) HNO.out); have KP5 : Hid (w5.cell? ⟨q, 2, none⟩ = some (.int .i64 v) ∧ w5.cell? ⟨p, 3, none⟩ = some (.slice Ax lv cx) ∧ w5.cell? ⟨q, 4, none⟩ = some (.int .i64 o) ∧ w5.cell? ⟨q, 5, none⟩ = some (.int .i64 tn) ∧ w5.cell? ⟨q, 6, none⟩ = some (.slice At lt ct)) := ⟨HQ5.out.at 2 _ rfl, HW5.out.st.cs.at 3 _ rfl, HQ5.out.at 4 _ rfl, HQ5.out.at 5 _ rfl, HQ5.out.at 6 _ rfl⟩; clear hs)
            | (go_at_call 41; refine (value_any vs HVB.out false sv HFT.out.1 Ax lv cx (Tm.cnt (.mk o tn tk)) o tn tk lt At ct _ r HLT.out (Nat.le_refl _) (HTK.out.below (HB2.out.drew)) (HZ.out.below (Below.refl _ _).drew) (Lib.hid HF.out.fm) (Lib.hid HF.out.rg) HRV).mono ?_; rintro e w4 ⟨rfl, hb1⟩; have HD1 := Lib.hid ((Below.refl w2.heap.size w2).drew.trans (hb1.mono (Nat.le_refl _))); clear hb1))
          have hev := HEV.out
          have hnx := run_next hkl HKID.out HRS.out hev HFT0.out HRM.out HVB.out
          have HN1 := Lib.hid hnx.1
          have HN2 := Lib.hid hnx.2
          clear hnx hev HW2 HQ2 HB2 HD1 KP KP5 HQ5 HZ HEV
          go_wp2_with fail
          go_roundw
          case rel => exact ⟨k + 1, _, O1, _, by omega, by go_num, HN1, HW5, HN2⟩
          case measure => simp [intOf]; omega
        · have HZ := Lib.hid (Zs.of_row HW2.out.st.v)
          obtain ⟨r, hr⟩ : ∃ r, valueP sv (.mk o tn tk) = r := ⟨_, rfl⟩
          have HRV := Lib.hid hr
          obtain ⟨i0, hi0, hz0, hz1, hz2⟩ := info_parts infoI
          have HI := Lib.hid (And.intro hi0 (And.intro hz0 (And.intro hz1 hz2)))
          have hol : so.length + 1 ≤ 1000 := by have := HRM.out; rw [outL_drop hkl, HKID.out, outO_out] at this; have := HFT.out.2; simp only at this; omega
          have HOL := Lib.hid hol
          have KP : Hid (∀ W, Below w2.heap.size w2 W → (W.cell? ⟨p, 3, none⟩ = some (.slice Ax lv cx) ∧ W.cell? ⟨q, 4, none⟩ = some (.int .i64 o) ∧ W.cell? ⟨q, 5, none⟩ = some (.int .i64 tn) ∧ W.cell? ⟨q, 6, none⟩ = some (.slice At lt ct))) := fun W h => ⟨(HW2.out.st.cs.next h).at 3 _ rfl, (HQ2.out.next h).at 4 _ rfl, (HQ2.out.next h).at 5 _ rfl, (HQ2.out.next h).at 6 _ rfl⟩
          have p5a := (HW2.out.st.cs.next (Below.refl w2.heap.size w2).drew).at 5 _ rfl
          have hqp : ¬ p = q := fun e => HNO.out (.inl e.symm)
          have hpq : ¬ q = p := fun e => HNO.out (.inl e)
          have hev : runO vs hats (.mk 1 x1 v n (.mk o tn tk) th el bs) ⟨sv, so, st0⟩ = ⟨sv, so ++ [r], tz⟩ := by
            rw [(runO_act vs hats 1 x1 v n (.mk o tn tk) th el bs ⟨sv, so, st0⟩ (by decide) (by decide)), actM, if_neg (by decide), if_pos rfl]
            simp only [hr, HTZ.out]
          have HEV := Lib.hid hev
          clear hr hev hi0 hz0 hz1 hz2
          go_upto_region 10 with fail
          have p3 := HW2.out.st.cs.at 3 _ rfl
          have p5 := HW2.out.st.cs.at 5 _ rfl
          have q4 := HQ2.out.at 4 _ rfl
          have q5 := HQ2.out.at 5 _ rfl
          have q6 := HQ2.out.at 6 _ rfl
          go_region_law (first
            | (refine step_append_lies _ (by rfl) _ _ _ (by rfl) w0.heap.size 3 i0 _ 1 8 Tryz.underlying27 HI.out.1 HI.out.2.1 HI.out.2.2.1 HI.out.2.2.2 rfl (by omega) O1 so.length (iv so) (by rfl) (HW2.out.below HD3.out).st.o ⟨w4.heap.size, 0, none⟩ 1 1 [.int .i64 r] (by rfl) (by rfl) (World.news_of_block (cs := #[.int .i64 r]) (t := 3) (fr := (0, 0)) (heap_alloc_new w4 _)) (by simp [Value.oneCell']) (by omega) (by have := HOL.out; unfold maxLen; omega) (by have := HOL.out; omega) (HW2.out.below HD3.out).st.B_le (w4.heap.size + 1) (by simp) ?_; intro gg cap w5 hown hgrow hat hlt5; have hfr := Fr.of_grown hgrow; have hp5 := (HW2.out.below HD3.out).st.cs.fr hfr (HW2.out.below HD3.out).st.op; have hq5 := (HQ2.out.next HD3.out).fr hfr (fun e => HNO.out (.inr (.inr e))); have KP6 : Hid (w5.cell? ⟨p, 3, none⟩ = some (.slice Ax lv cx) ∧ w5.cell? ⟨q, 4, none⟩ = some (.int .i64 o) ∧ w5.cell? ⟨q, 5, none⟩ = some (.int .i64 tn) ∧ w5.cell? ⟨q, 6, none⟩ = some (.slice At lt ct)) := ⟨hp5.at 3 _ rfl, hq5.at 4 _ rfl, hq5.at 5 _ rfl, hq5.at 6 _ rfl⟩; have pf5 := hp5.free 5; have p5 := hp5.at 5 _ rfl; clear hfr hp5 hq5)
            | (go_simp; go_at_call 41; refine (value_any vs HVB.out false sv HFT.out.1 Ax lv cx (Tm.cnt (.mk o tn tk)) o tn tk lt At ct _ r HLT.out (Nat.le_refl _) (HTK.out.below (HB2.out.drew)) (HZ.out.below (Below.refl _ _).drew) (Lib.hid HF.out.fm) (Lib.hid HF.out.rg) HRV).mono ?_; rintro e w4 ⟨rfl, hb1⟩; have HD1 := Lib.hid ((Below.refl w2.heap.size w2).drew.trans (hb1.mono (Nat.le_refl _))); have HD3 := Lib.hid (HD1.out.alloc HD1.out.size (.cells #[.int .i64 r] 3)); have p5b := (HW2.out.st.cs.next HD1.out).at 5 _ rfl; have p5c := (HW2.out.st.cs.next HD3.out).at 5 _ rfl; have hpl4 := (HW2.out.st.cs.next HD1.out).lt; clear hb1))
          all_goals
            have HO : Hid (Went 3 w0.heap.size p (.slice Av lv cv) (.slice Ag lg cg) (.slice Ay ly cy) (.slice Ax lv cx) (.slice Ah0 lh0 ch0) hats w O (w5.setCell ⟨p, 5, none⟩ (.slice (some ⟨gg, 0, none⟩) (so.length + 1) cap)) (.slice (some ⟨gg, 0, none⟩) (so.length + 1) cap) ⟨sv, so ++ [r], tz⟩) := Lib.hid (by
              have h3 := HW2.out.below HD3.out
              exact h3.trans (h3.st.out hown hgrow (by rcases hat with h | h; exact .inl (by rw [h]; rfl); exact .inr (by rw [h]; simp [Value.ownBlock]))))
            clear hown hgrow hat hlt5
            have hev := HEV.out
            have hnx := run_next hkl HKID.out HRS.out hev HFT0.out HRM.out HVB.out
            have HN1 := Lib.hid hnx.1
            have HN2 := Lib.hid hnx.2
            clear hnx hev HW2 HQ2 HB2 HD1 HD3 KP HZ HEV
            go_wp2_with fail
            go_roundw
            case rel => exact ⟨k + 1, _, _, _, by omega, by go_num, HN1, HO, HN2⟩
            case measure => simp [intOf]; omega
        · have hev : runO vs hats (.mk 2 x1 v n (.mk o tn tk) th el bs) ⟨sv, so, st0⟩ = ⟨sv, so, tz⟩ := by
            rw [(runO_act vs hats 2 x1 v n (.mk o tn tk) th el bs ⟨sv, so, st0⟩ (by decide) (by decide)), actM, if_neg (by decide), if_neg (by decide), if_neg (by decide), if_neg (by decide)]
            simp only [HTZ.out]
          have hnx := run_next hkl HKID.out HRS.out hev HFT0.out HRM.out HVB.out
          have HN1 := Lib.hid hnx.1
          have HN2 := Lib.hid hnx.2
          clear hnx hev HQ2 HB2
          go_wp2_with fail
          go_roundw
          case rel => exact ⟨k + 1, _, O1, _, by omega, by go_num, HN1, HW2, HN2⟩
          case measure => simp [intOf]; omega
        · have HZ := Lib.hid (Zs.of_row HW2.out.st.v)
          obtain ⟨r, hr⟩ : ∃ r, valueP sv (.mk o tn tk) = r := ⟨_, rfl⟩
          have HRV := Lib.hid hr
          have KP : Hid (∀ W, Below w2.heap.size w2 W → (W.cell? ⟨p, 3, none⟩ = some (.slice Ax lv cx) ∧ W.cell? ⟨q, 4, none⟩ = some (.int .i64 o) ∧ W.cell? ⟨q, 5, none⟩ = some (.int .i64 tn) ∧ W.cell? ⟨q, 6, none⟩ = some (.slice At lt ct))) := fun W h => ⟨(HW2.out.st.cs.next h).at 3 _ rfl, (HQ2.out.next h).at 4 _ rfl, (HQ2.out.next h).at 5 _ rfl, (HQ2.out.next h).at 6 _ rfl⟩
          clear hr
          go_upto_region 12 with fail
          go_region_held3 (fun W => W.cell? ⟨p, 3, none⟩ = some (.slice Ax lv cx) ∧ W.cell? ⟨q, 4, none⟩ = some (.int .i64 o) ∧ W.cell? ⟨q, 5, none⟩ = some (.int .i64 tn) ∧ W.cell? ⟨q, 6, none⟩ = some (.slice At lt ct)) (first | exact KP.out _ (Below.refl _ _).drew | exact KP.out _ HD1.out) (first
            | (go_at_call 41; refine (value_any vs HVB.out false sv HFT.out.1 Ax lv cx (Tm.cnt (.mk o tn tk)) o tn tk lt At ct _ r HLT.out (Nat.le_refl _) (HTK.out.below (HB2.out.drew)) (HZ.out.below (Below.refl _ _).drew) (Lib.hid HF.out.fm) (Lib.hid HF.out.rg) HRV).mono ?_; rintro e w4 ⟨rfl, hb1⟩; have HD1 := Lib.hid ((Below.refl w2.heap.size w2).drew.trans (hb1.mono (Nat.le_refl _))); clear hb1))
          have HW4 := Lib.hid (HW2.out.below HD1.out)
          have HQ4 := Lib.hid (HQ2.out.next HD1.out)
          have HB4 := Lib.hid (HB2.out.trans (HD1.out.mono HB2.out.size))
          clear HW2 HQ2 HB2 HD1 KP HZ n0
          by_cases hr0 : r = 0
          · have hrb : (r != 0) = false := by rw [hr0]; rfl
            obtain ⟨s2, hs2⟩ : ∃ z, runL vs hats el ⟨sv, so, tz⟩ = z := ⟨_, rfl⟩
            have HS2 := Lib.hid hs2
            have hev : runO vs hats (.mk 3 x1 v n (.mk o tn tk) th el bs) ⟨sv, so, st0⟩ = s2 := by
              rw [runO_if]
              simp only [HRV.out, HTZ.out]
              rw [if_neg (by simpa using hr0), hs2]
            have HEV := Lib.hid hev
            have HRO : Hid (nn + outL el ≤ 1000) := Lib.hid (by have := HRM.out; rw [outL_drop hkl, HKID.out, outO_if] at this; omega)
            clear hs2 hev
            have nc := HQ4.out.at 8 _ rfl
            go_wp2_with fail
            go_at_call 21
            refine (IH.out el le Ae ce w4 O1 ⟨sv, so, tz⟩ nn s2 false HLE.out (by have := HCM.out; omega) HTE.out HB4.out HW4.out.st HF.out.el HFT.out HRO.out HS2).mono ?_
            rintro e w5 ⟨rfl, O2, hw5⟩
            have HW5 := Lib.hid (HW4.out.trans hw5)
            have hev := HEV.out
            have hnx := run_next hkl HKID.out HRS.out hev HFT0.out HRM.out HVB.out
            have HN1 := Lib.hid hnx.1
            have HN2 := Lib.hid hnx.2
            clear hnx hev hw5 HW4 HQ4 HEV nc
            go_wp2_with fail
            go_roundw
            case rel => exact ⟨k + 1, _, O2, _, by omega, by go_num, HN1, HW5, HN2⟩
            case measure => simp [intOf]; omega
          · have hrb := bne_of hr0
            obtain ⟨s2, hs2⟩ : ∃ z, runL vs hats th ⟨sv, so, tz⟩ = z := ⟨_, rfl⟩
            have HS2 := Lib.hid hs2
            have hev : runO vs hats (.mk 3 x1 v n (.mk o tn tk) th el bs) ⟨sv, so, st0⟩ = s2 := by
              rw [runO_if]
              simp only [HRV.out, HTZ.out]
              rw [if_pos hr0, hs2]
            have HEV := Lib.hid hev
            have HRO : Hid (nn + outL th ≤ 1000) := Lib.hid (by have := HRM.out; rw [outL_drop hkl, HKID.out, outO_if] at this; omega)
            clear hs2 hev
            have nc := HQ4.out.at 7 _ rfl
            go_wp2_with fail
            go_at_call 21
            refine (IH.out th lh Ah ch w4 O1 ⟨sv, so, tz⟩ nn s2 false HLH.out (by have := HCM.out; omega) HTH.out HB4.out HW4.out.st HF.out.th HFT.out HRO.out HS2).mono ?_
            rintro e w5 ⟨rfl, O2, hw5⟩
            have HW5 := Lib.hid (HW4.out.trans hw5)
            have hev := HEV.out
            have hnx := run_next hkl HKID.out HRS.out hev HFT0.out HRM.out HVB.out
            have HN1 := Lib.hid hnx.1
            have HN2 := Lib.hid hnx.2
            clear hnx hev hw5 HW4 HQ4 HEV nc
            go_wp2_with fail
            go_roundw
            case rel => exact ⟨k + 1, _, O2, _, by omega, by go_num, HN1, HW5, HN2⟩
            case measure => simp [intOf]; omega
        · have hvr := HF.out.var (.inr rfl)
          have hnr := HF.out.hat rfl
          have HHV := Lib.hid hvr
          obtain ⟨j, hj⟩ : ∃ j : Nat, n = j := ⟨n.toNat, by omega⟩
          subst hj
          have hjl : j < hats.length := by rw [HHL.out]; omega
          obtain ⟨gh, cph, hH⟩ := Joins.ownsRow_form HW2.out.st.h (by omega)
          obtain ⟨hv, hhv⟩ : ∃ z, hats.getD j 0 = z := ⟨_, rfl⟩
          have HHH := Lib.hid hH
          have KP : Hid (∀ W O s, Mk 3 w0.heap.size p (.slice Av lv cv) (.slice Ag lg cg) (.slice Ay ly cy) (.slice Ax lv cx) (.slice Ah0 lh0 ch0) hats W O s → W.cell? ⟨gh, j, none⟩ = some (.int .i64 hv)) := fun W O s h => by
            have h1 := h.h
            rw [HHH.out] at h1
            rw [h1.cellAt j (by omega), iv_get _ _ hjl, hhv]
          have hev : runO vs hats (.mk 5 x1 v j (.mk o tn tk) th el bs) ⟨sv, so, st0⟩ = ⟨setV vs sv v hv, so, tz⟩ := by
            rw [(runO_act vs hats 5 x1 v j (.mk o tn tk) th el bs ⟨sv, so, st0⟩ (by decide) (by decide)), actM, if_neg (by decide), if_neg (by decide), if_pos rfl]
            simp only [Int.toNat_natCast, hhv, HTZ.out]
          have HEV := Lib.hid hev
          simp only [Value.slice.injEq] at hH
          obtain ⟨rfl, hlh0, -⟩ := hH
          have hj' : (j : Int) < (lh0 : Int) := by omega
          have KS : Hid (∀ W, Below w2.heap.size w2 W → (W.cell? ⟨q, 2, none⟩ = some (.int .i64 v) ∧ W.cell? ⟨p, 4, none⟩ = some (.slice (some ⟨gh, 0, none⟩) lh0 ch0) ∧ W.cell? ⟨q, 3, none⟩ = some (.int .i64 j) ∧ W.cell? ⟨gh, j, none⟩ = some (.int .i64 hv))) := fun W h => ⟨(HQ2.out.next h).at 2 _ rfl, (HW2.out.st.cs.next h).at 4 _ rfl, (HQ2.out.next h).at 3 _ rfl, KP.out _ _ _ (HW2.out.below h).st⟩
          clear hev hhv hlh0 HHH hvr hnr
          go_upto_region 16 with fail
          go_region_held3 (fun W => W.cell? ⟨q, 2, none⟩ = some (.int .i64 v) ∧ W.cell? ⟨p, 4, none⟩ = some (.slice (some ⟨gh, 0, none⟩) lh0 ch0) ∧ W.cell? ⟨q, 3, none⟩ = some (.int .i64 j) ∧ W.cell? ⟨gh, j, none⟩ = some (.int .i64 hv)) (first | exact KS.out _ (Below.refl _ _).drew | exact KP5.out) (first
            | (go_at_call 43; refine (set_b vs Av lv cv (.slice Ag lg cg) (.slice Ay ly cy) (.slice Ax lv cx) (.slice (some ⟨gh, 0, none⟩) lh0 ch0) O1 hats w0.heap.size p w2.drew ⟨sv, so, tz⟩ (HW2.out.below (Below.refl _ _).drew).st (HV0.out.below HB2.out.drew) v hv HHV.out.1 (by rw [← HVL.out]; exact HHV.out.2) (by have := HFT.out.vlen; rw [HVL.out] at this; exact this)).mono ?_; rintro e w5 ⟨rfl, hs⟩; have HW5 := Lib.hid ((HW2.out.below (Below.refl _ _).drew).trans hs); have HQ5 := Lib.hid (hs.keep HQ2.out.drew HNO.out); have KP5 : Hid (w5.cell? ⟨q, 2, none⟩ = some (.int .i64 v) ∧ w5.cell? ⟨p, 4, none⟩ = some (.slice (some ⟨gh, 0, none⟩) lh0 ch0) ∧ w5.cell? ⟨q, 3, none⟩ = some (.int .i64 j) ∧ w5.cell? ⟨gh, j, none⟩ = some (.int .i64 hv)) := ⟨HQ5.out.at 2 _ rfl, HW5.out.st.cs.at 4 _ rfl, HQ5.out.at 3 _ rfl, KP.out _ _ _ HW5.out.st⟩; clear hs))
          have hev := HEV.out
          have hnx := run_next hkl HKID.out HRS.out hev HFT0.out HRM.out HVB.out
          have HN1 := Lib.hid hnx.1
          have HN2 := Lib.hid hnx.2
          clear hnx hev HW2 HQ2 HB2 KP KS KP5 HQ5 HEV
          go_wp2_with fail
          go_roundw
          case rel => exact ⟨k + 1, _, O1, _, by omega, by go_num, HN1, HW5, HN2⟩
          case measure => simp [intOf]; omega
        · obtain ⟨tz2, htz2⟩ : ∃ z, settledP bs tz = z := ⟨_, rfl⟩
          have HTZ2 := Lib.hid htz2
          have hev : runO vs hats (.mk 6 x1 v n (.mk o tn tk) th el bs) ⟨sv, so, st0⟩ = ⟨sv, so, tz2⟩ := by
            rw [(runO_act vs hats 6 x1 v n (.mk o tn tk) th el bs ⟨sv, so, st0⟩ (by decide) (by decide)), actM, if_neg (by decide), if_neg (by decide), if_neg (by decide), if_pos rfl]
            simp only [HTZ.out, htz2]
          have HEV := Lib.hid hev
          clear htz2 hev
          have n9 := HQ2.out.at 9 _ rfl
          have p6 := HW2.out.st.cs.at 6 _ rfl
          have pf6 := HW2.out.st.cs.free 6
          have hpl := HW2.out.st.cs.lt
          go_upto_region 18 with fail
          refine wp_region_still_tail 10 (by kernel_rfl) (by kernel_rfl) ?_
          simp only [List.take_succ_cons, List.take_zero, List.drop_succ_cons, List.drop_zero]
          repeat still_step
          still_call ((settled_b bs tz tz2 HTZ2 Ab lb cb w2.drew (HTB.out.below HB2.out.drew)).mono fun _ _ h => ⟨h.1, h.2.symm⟩)
          repeat still_step
          refine wpStill_nil ?_
          change wpList _ _ _ _ _ w2.drew
          have HW5 : Hid (Went 3 w0.heap.size p (.slice Av lv cv) (.slice Ag lg cg) (.slice Ay ly cy) (.slice Ax lv cx) (.slice Ah0 lh0 ch0) hats w O ((w2.setCell ⟨p, 6, none⟩ (.int .i64 tz2)).drew) O1 ⟨sv, so, tz2⟩) := Lib.hid ((HW2.out.trans (HW2.out.st.time tz2)).below (Below.refl _ _).drew)
          have hev := HEV.out
          have hnx := run_next hkl HKID.out HRS.out hev HFT0.out HRM.out HVB.out
          have HN1 := Lib.hid hnx.1
          have HN2 := Lib.hid hnx.2
          clear hnx hev HQ2 HEV
          go_wp2_with fail
          go_roundw
          case rel => exact ⟨k + 1, _, O1, _, by omega, by go_num, HN1, HW5, HN2⟩
          case measure => simp [intOf]; omega
      · obtain rfl : k = l := by omega
        have hs : (⟨sv, so, st0⟩ : Ms) = s' := by rw [← HRS.out, List.drop_of_length_le (by rw [HL.out]; exact Nat.le_refl _), runL]
        subst hs
        clear HRS
        go_wp2_with fail
        go_returns
        exact ⟨rfl, O1, HW.out⟩
end Go.Proofs.YtjpjmoejdkmglaaGreat
