/-
  The walk over Check.
-/
import Derived.Test.YtjpjmoejdkmglaaGreatFlXu
import Derived.Test.YtjpjmoejdkmglaaGreatFlW
import Derived.Test.YtjpjmoejdkmglaaGreatFlS
import Derived.Test.YtjpjmoejdkmglaaGreatFlQ
import Derived.Test.YtjpjmoejdkmglaaGreatFlP
namespace Go.Proofs.YtjpjmoejdkmglaaGreat
open Go.RowKit

def hcnt : List Ht → Nat
  | [] => 0
  | h :: hs => h.t.cnt + hcnt hs
/-- The measure behind hatches. -/
def hM : List Ht → Int × Bool → Int × Bool
  | [], s => s
  | h :: hs, s => hM hs (if overP s = true then s else mT h.t 1 s)
def upBad (u : Int × Int × Int) : Bool := decide (4096 < u.1) || (decide (8 < u.2.1) || decide (67108864 < u.2.2))
/-- The code of a program. -/
def checkP (vs : List Vr) (hs : List Ht) (ks : List Sp) : Int :=
  if 64 < vs.length ∨ 8 < hs.length ∨ overP (hM hs (mS ks 1 (0, false))) = true then 4
  else if varsC vs ≠ 0 then varsC vs else if hatsC vs hs ≠ 0 then hatsC vs hs
  else if stepsC vs hs.length true ks ≠ 0 then stepsC vs hs.length true ks
  else if upBad (upL ks (0, 0, 0)) = true then 4 else 0
theorem fstC_all : ∀ (n : Nat) (f : Nat → Int), fstC n f = 0 → ∀ j, j < n → f j = 0
  | 0, _, _, _, h => absurd h (by omega)
  | n + 1, f, h, j, hj => by
    rw [fstC] at h
    by_cases e : f 0 = 0
    · rw [if_neg (fun k => k e)] at h
      cases j with
      | zero => exact e
      | succ j => exact fstC_all n (fun i => f (i + 1)) h j (by omega)
    · rw [if_pos e] at h; exact absurd h e
theorem varsC_B {vs : List Vr} (h : varsC vs = 0) : vB vs := by
  unfold varsC at h
  by_cases e : fstC vs.length (varAt vs) = 0
  · exact vars_B fun j hj => fstC_all _ _ e j hj
  · rw [if_pos e] at h; exact absurd h e
theorem hM_drop {hs : List Ht} {i : Nat} {h : Ht} (hi : hs[i]? = some h) (s : Int × Bool) : hM (hs.drop i) s = hM (hs.drop (i + 1)) (if overP s = true then s else mT h.t 1 s) := by
  obtain ⟨hl, rfl⟩ := List.getElem?_eq_some_iff.1 hi
  rw [List.drop_eq_getElem_cons hl, hM]
theorem hcnt_drop {hs : List Ht} {i : Nat} {h : Ht} (hi : hs[i]? = some h) : hcnt (hs.drop i) = h.t.cnt + hcnt (hs.drop (i + 1)) := by
  obtain ⟨hl, rfl⟩ := List.getElem?_eq_some_iff.1 hi
  rw [List.drop_eq_getElem_cons hl, hcnt]

set_option maxRecDepth 100000 in
set_option maxHeartbeats 8000000 in
theorem check_b (vs : List Vr) (hs : List Ht) (ks : List Sp) (Av : Option Addr) (lv cv : Nat) (Ag : Option Addr) (lg cg : Nat) (Ay : Option Addr) (ly cy : Nat) (w : World) (hv : VOk w Av lv cv vs) (hh : HOk w Ag lg cg hs) (hl : ks.length = ly) (hk : SOk w Ay cy ks) (hlv : lv ≤ 1000) (hbd : hcnt hs + Sp.cntL ks ≤ 90000) (r : Int) (H : Hid (checkP vs hs ks = r)) :
    Calls Tryz.prog 15 #[.agg #[.slice Av lv cv, .slice Ag lg cg, .slice Ay ly cy]] w fun e w' => e = .returned (.int .i64 r) ∧ Below w.heap.size w w' := by
  have HV := Lib.hid hv
  have HHS := Lib.hid hh
  have HK := Lib.hid hk
  have HL := Lib.hid hl
  have HVL := Lib.hid hv.len
  have HHL := Lib.hid hh.len
  have HBD := Lib.hid hbd
  have hlv' : lv ≤ 9223372036854775807 := by omega
  have hlg' : lg ≤ 9223372036854775807 := by have h1 := hh.cap; have h2 := hh.big; unfold maxLen at h2; omega
  have HLG := Lib.hid (Nat.le_trans hh.cap hh.big)
  have hb1 := (Below.refl w.heap.size w).alloc (Nat.le_refl _) (.cells #[.slice Av lv cv, .slice Ag lg cg, .slice Ay ly cy] 26)
  have HB0 := Lib.hid (hb1.alloc hb1.size (.cells #[.int .i64 0, .bool false] 74))
  have HC0 := Lib.hid ((Cs.new w #[.slice Av lv cv, .slice Ag lg cg, .slice Ay ly cy] 26).alloc (.cells #[.int .i64 0, .bool false] 74))
  have HM0 := Lib.hid (Cs.new1 w (.cells #[.slice Av lv cv, .slice Ag lg cg, .slice Ay ly cy] 26) #[.int .i64 0, .bool false] 74)
  obtain ⟨s0, hs0⟩ : ∃ z, mS ks 1 (0, false) = z := ⟨_, rfl⟩
  obtain ⟨s9, hs9⟩ : ∃ z, hM hs s0 = z := ⟨_, rfl⟩
  obtain ⟨r1, hr1⟩ : ∃ z, varsC vs = z := ⟨_, rfl⟩
  obtain ⟨r2, hr2⟩ : ∃ z, hatsC vs hs = z := ⟨_, rfl⟩
  obtain ⟨r3, hr3⟩ : ∃ z, stepsC vs lg true ks = z := ⟨_, rfl⟩
  obtain ⟨u, hu⟩ : ∃ z, upL ks (0, 0, 0) = z := ⟨_, rfl⟩
  obtain ⟨bo, hbo⟩ : ∃ z, overP s9 = z := ⟨_, rfl⟩
  have hsum : (if 64 < lv ∨ 8 < lg ∨ bo = true then 4 else if r1 ≠ 0 then r1 else if r2 ≠ 0 then r2 else if r3 ≠ 0 then r3 else if upBad u = true then 4 else 0) = r := by
    rw [← H.out, checkP, hv.len, hh.len, hs0, hs9, hbo, hr1, hr2, hr3, hu]
  have hc0 : 0 ≤ s0.1 ∧ s0.1 ≤ (Sp.cntL ks : Nat) := by have := mS_cnt ks 1 (0, false); rw [hs0] at this; simp only at this; omega
  have HS0 := Lib.hid hs0
  have HS9 : Hid (hM (hs.drop 0) s0 = s9) := hs9
  have HI0 : Hid (0 ≤ s0.1 ∧ s0.1 + (hcnt (hs.drop 0) : Nat) ≤ 90000) := Lib.hid (by simp only [List.drop_zero]; omega)
  have HBO := Lib.hid hbo
  have HR1 := Lib.hid hr1
  have HR2 := Lib.hid hr2
  have HR3 := Lib.hid hr3
  have HU := Lib.hid hu
  have HSUM := Lib.hid hsum
  clear hv hh hk hl hbd hb1 hs0 hs9 hr1 hr2 hr3 hu hbo hsum hc0 H
  go_enter Tryz.func15, Tryz.ntmps15
  go_upto_region 2 with fail
  obtain ⟨w1, hw1⟩ : ∃ w1, (w.alloc (.cells #[.slice Av lv cv, .slice Ag lg cg, .slice Ay ly cy] 26)).alloc (.cells #[.int .i64 0, .bool false] 74) = w1 := ⟨_, rfl⟩
  rw [hw1] at HB0 HC0 HM0
  rw [hw1]
  clear hw1
  have n2 := HC0.out.at 2 _ rfl
  go_wp2_with fail
  go_at_call 26
  refine (msteps_any w (w.heap.size + 1) (by omega) (Sp.cntL ks) ks ly Ay cy w1 1 (0, false) s0 HL.out (Nat.le_refl _) HK.out HB0.out HM0.out (by omega) (by omega) (by simp) (by have := HBD.out; simp only; omega) HS0).mono ?_
  rintro e w2 ⟨rfl, hf2, hm2⟩
  have HC1 := Lib.hid (HC0.out.fr hf2 (by omega))
  have HB1 := Lib.hid (hf2.below HB0.out (by intro k hk; omega) HB0.out.size)
  have HM1 := Lib.hid hm2
  clear hf2 hm2 HC0 HB0 HM0 n2
  have n1 := HC1.out.at 1 _ rfl
  go_upto_region 4 with fail
  go_loopw [16] (fun v wr => ∃ (k : Nat) (s : Int × Bool), k ≤ lg ∧ v = .int .i64 k ∧ Hid (hM (hs.drop k) s = s9) ∧ Hid (0 ≤ s.1 ∧ s.1 + (hcnt (hs.drop k) : Nat) ≤ 90000) ∧ Hid (Below w.heap.size w wr) ∧ Hid (Cs wr w.heap.size [.slice Av lv cv, .slice Ag lg cg, .slice Ay ly cy]) ∧ Hid (Cs wr (w.heap.size + 1) [.int .i64 s.1, .bool s.2])) (fun v _ => lg - (intOf v).toNat)
  case atStart => exact ⟨0, s0, by omega, rfl, HS9, HI0, HB1, HC1, HM1⟩
  case round =>
    clear HS9 HI0 HB1 HC1 HM1 n1
    obtain ⟨k, ⟨sn, sd⟩, hk, rfl, HS, HI, HB, HC, HM⟩ := hrel
    by_cases hlt : k < lg
    · obtain ⟨s, lo, hi, o, n, kk, gg, f, A2, c2, hx, hsz, hA, hg, k0, k1, k2, k3, k4, k5, htk⟩ := HHS.out.at k hlt
      obtain ⟨k0, k1, k2, k3, k4, k5⟩ : _ ∧ _ ∧ _ ∧ _ ∧ _ ∧ _ := ⟨(HB.out.cell (p := ⟨gg, _, none⟩) hg).trans k0, (HB.out.cell (p := ⟨gg, _, none⟩) hg).trans k1, (HB.out.cell (p := ⟨gg, _, none⟩) hg).trans k2, (HB.out.cell (p := ⟨gg, _, none⟩) hg).trans k3, (HB.out.cell (p := ⟨gg, _, none⟩) hg).trans k4, (HB.out.cell (p := ⟨gg, _, none⟩) hg).trans k5⟩
      have hgw : gg < wr.heap.size := Nat.lt_of_lt_of_le hg HB.out.size
      subst hA
      obtain ⟨l2, hl2⟩ : ∃ l2, kk.length = l2 := ⟨_, rfl⟩
      rw [hl2] at k5
      have hstep : hM (hs.drop (k + 1)) (if overP (sn, sd) = true then (sn, sd) else mT (.mk o n kk) 1 (sn, sd)) = s9 := by
        have := HS.out; rw [hM_drop hx] at this; exact this
      have hcn : hcnt (hs.drop k) = (Tm.mk o n kk).cnt + hcnt (hs.drop (k + 1)) := hcnt_drop hx
      have hi2 : 0 ≤ sn ∧ sn + ((Tm.mk o n kk).cnt : Nat) + (hcnt (hs.drop (k + 1)) : Nat) ≤ 90000 := by have := HI.out; simp only [hcn] at this; omega
      obtain ⟨b1, hb1⟩ : ∃ b1, overP (sn, sd) = b1 := ⟨_, rfl⟩
      rw [hb1] at hstep
      have HST := Lib.hid hstep
      have HI2 := Lib.hid hi2
      have HB1 := Lib.hid hb1
      have HL2 := Lib.hid hl2
      have hlt' : (k : Int) < (lg : Int) := by omega
      have hba := (Below.refl wr.heap.size wr).alloc (Nat.le_refl _) (.cells #[.string s, .int .i64 lo, .int .i64 hi, .int .i64 o, .int .i64 n, .slice A2 l2 c2] 62)
      have HBa := Lib.hid (HB.out.trans (hba.mono HB.out.size))
      have HCa := Lib.hid (HC.out.next hba)
      have HMa := Lib.hid (HM.out.next hba)
      have HTK := Lib.hid htk
      have HNa := Lib.hid (Cs.new wr #[.string s, .int .i64 lo, .int .i64 hi, .int .i64 o, .int .i64 n, .slice A2 l2 c2] 62)
      clear hx hsz hl2 htk hstep hcn hi2 hb1 hba HS HI HB HC HM
      go_upto_region 6 with fail
      obtain ⟨w3, hw3⟩ : ∃ w3, wr.alloc (.cells #[.string s, .int .i64 lo, .int .i64 hi, .int .i64 o, .int .i64 n, .slice A2 l2 c2] 62) = w3 := ⟨_, rfl⟩
      obtain ⟨q, hq⟩ : ∃ q, wr.heap.size = q := ⟨_, rfl⟩
      rw [hw3] at HBa HCa HMa HNa
      rw [hq] at HNa
      rw [hw3, hq]
      clear hw3 hq k0 k1 k2 k3 k4 k5
      have m3 := HNa.out.at 3 _ rfl
      have m4 := HNa.out.at 4 _ rfl
      have m5 := HNa.out.at 5 _ rfl
      go_wp2_with fail
      go_at_call 27
      refine (over_b sn sd b1 (w.heap.size + 1) HB1 _ HMa.out).mono ?_
      rintro e w4 ⟨rfl, rfl⟩
      cases b1 with
      | true =>
        have HS' : Hid (hM (hs.drop (k + 1)) (sn, sd) = s9) := by show _ = _; have := HST.out; rwa [if_pos rfl] at this
        have HI' : Hid (0 ≤ sn ∧ sn + (hcnt (hs.drop (k + 1)) : Nat) ≤ 90000) := Lib.hid (by have := HI2.out; omega)
        clear HST HI2
        go_wp2_with fail
        go_roundw
        case rel => exact ⟨k + 1, (sn, sd), by omega, by go_num, HS', HI', HBa, HCa, HMa⟩
        case measure => simp [intOf]; omega
      | false =>
        obtain ⟨s2, hs2⟩ : ∃ z, mT (.mk o n kk) 1 (sn, sd) = z := ⟨_, rfl⟩
        have HS2 := Lib.hid hs2
        have HS' : Hid (hM (hs.drop (k + 1)) s2 = s9) := by show _ = _; have := HST.out; rw [if_neg (by decide), hs2] at this; exact this
        have HI' : Hid (0 ≤ s2.1 ∧ s2.1 + (hcnt (hs.drop (k + 1)) : Nat) ≤ 90000) := Lib.hid (by have h1 := mT_cnt (.mk o n kk) 1 (sn, sd); rw [hs2] at h1; have := HI2.out; simp only at h1; omega)
        clear hs2 HST
        go_wp2_with fail
        go_at_call 28
        refine (mterm_any w (w.heap.size + 1) (by omega) _ o n kk l2 A2 c2 w3 1 (sn, sd) s2 HL2.out (Nat.le_refl _) HTK.out HBa.out HMa.out (by omega) (by omega) HI2.out.1 (by have := HI2.out; simp only; omega) HS2).mono ?_
        rintro e w4 ⟨rfl, hf4, hm4⟩
        have HCb := Lib.hid (HCa.out.fr hf4 (by omega))
        have HBb := Lib.hid (hf4.below HBa.out (by intro k hk; omega) HBa.out.size)
        have HMb := Lib.hid hm4
        clear hf4 hm4 HCa HBa HMa HI2
        go_wp2_with fail
        go_roundw
        case rel => exact ⟨k + 1, s2, by omega, by go_num, HS', HI', HBb, HCb, HMb⟩
        case measure => simp [intOf]; omega
    · obtain rfl : k = lg := by omega
      have hs : (sn, sd) = s9 := by rw [← HS.out, List.drop_of_length_le (by rw [HHL.out]; exact Nat.le_refl _), hM]
      have HB1 : Hid (overP (sn, sd) = bo) := by show _ = _; rw [hs]; exact HBO.out
      clear HS HI hs HBO hlt
      have n0 := HC.out.at 0 _ rfl
      have n1 := HC.out.at 1 _ rfl
      have n2 := HC.out.at 2 _ rfl
      by_cases e1 : 64 < lv
      · have e1' : (64 : Int) < (lv : Int) := by omega
        have e1d : decide ((64 : Int) < (lv : Int)) = true := decide_eq_true e1'
        have e1n : decide (64 < lv) = true := decide_eq_true e1
        have hr : r = 4 := by have := HSUM.out; rw [if_pos (.inl e1)] at this; exact this.symm
        subst hr
        clear HSUM
        go_wp2_with fail
        go_ret
        exact ⟨rfl, HB.out⟩
      have e1' : ¬ (64 : Int) < (lv : Int) := by omega
      have e1d : decide ((64 : Int) < (lv : Int)) = false := decide_eq_false e1'
      have e1n : decide (64 < lv) = false := decide_eq_false e1
      by_cases e2 : 8 < k
      · have e2' : (8 : Int) < (k : Int) := by omega
        have e2d : decide ((8 : Int) < (k : Int)) = true := decide_eq_true e2'
        have e2n : decide (8 < k) = true := decide_eq_true e2
        have hr : r = 4 := by have := HSUM.out; rw [if_pos (.inr (.inl e2))] at this; exact this.symm
        subst hr
        clear HSUM
        go_wp2_with fail
        go_ret
        exact ⟨rfl, HB.out⟩
      have e2' : ¬ (8 : Int) < (k : Int) := by omega
      have e2d : decide ((8 : Int) < (k : Int)) = false := decide_eq_false e2'
      have e2n : decide (8 < k) = false := decide_eq_false e2
      go_wp2_with fail
      go_at_call 27
      refine (over_b sn sd bo (w.heap.size + 1) HB1 _ HM.out).mono ?_
      rintro e w4 ⟨rfl, rfl⟩
      clear HM
      cases bo with
      | true =>
        have hr : r = 4 := by have := HSUM.out; rw [if_pos (.inr (.inr rfl))] at this; exact this.symm
        subst hr
        clear HSUM
        go_wp2_with fail
        go_ret
        exact ⟨rfl, HB.out⟩
      | false =>
        have HSUM1 : Hid ((if r1 ≠ 0 then r1 else if r2 ≠ 0 then r2 else if r3 ≠ 0 then r3 else if upBad u = true then 4 else 0) = r) := by show _ = _; have := HSUM.out; rwa [if_neg (by rintro (h | h | h); exact e1 h; exact e2 h; cases h)] at this
        clear HSUM e1 e1' e1d e1n e2 e2' e2d e2n
        go_wp2_with fail
        go_at_call 29
        refine (varsCode_b vs Av lv cv _ (HV.out.below HB.out) hlv r1 HR1).mono ?_
        rintro e w5 ⟨rfl, hb⟩
        have HC1 := Lib.hid (HC.out.next hb)
        have HB1' := Lib.hid (HB.out.trans (hb.mono HB.out.size))
        clear hb HC HB n0 n1 n2
        have n0 := HC1.out.at 0 _ rfl
        have n1 := HC1.out.at 1 _ rfl
        have n2 := HC1.out.at 2 _ rfl
        by_cases hz1 : r1 = 0
        case neg =>
          have hbn := bne_of hz1
          have hr : r = r1 := by have := HSUM1.out; rw [if_pos hz1] at this; exact this.symm
          subst hr
          clear HSUM1
          go_wp2_with fail
          go_ret
          exact ⟨rfl, HB1'.out⟩
        have hbn1 : (r1 != 0) = false := by rw [hz1]; rfl
        have HSUM2 : Hid ((if r2 ≠ 0 then r2 else if r3 ≠ 0 then r3 else if upBad u = true then 4 else 0) = r) := by show _ = _; have := HSUM1.out; rwa [if_neg (by simpa using hz1)] at this
        have HZ1 := Lib.hid hz1
        clear HSUM1 hz1
        have HVB := Lib.hid (varsC_B (HR1.out.trans HZ1.out))
        go_wp2_with fail
        go_at_call 30
        refine (hatchesCode_b vs HVB.out hs Av lv cv Ag k cg Ay ly cy _ (HV.out.below HB1'.out) (HHS.out.below HB1'.out) r2 HR2).mono ?_
        rintro e w6 ⟨rfl, hb⟩
        have HC2 := Lib.hid (HC1.out.next hb)
        have HB2' := Lib.hid (HB1'.out.trans (hb.mono HB1'.out.size))
        clear hb HC1 HB1' n0 n1 n2
        have n0 := HC2.out.at 0 _ rfl
        have n1 := HC2.out.at 1 _ rfl
        have n2 := HC2.out.at 2 _ rfl
        by_cases hz2 : r2 = 0
        case neg =>
          have hbn := bne_of hz2
          have hr : r = r2 := by have := HSUM2.out; rw [if_pos hz2] at this; exact this.symm
          subst hr
          clear HSUM2
          go_wp2_with fail
          go_ret
          exact ⟨rfl, HB2'.out⟩
        have hbn2 : (r2 != 0) = false := by rw [hz2]; rfl
        have HSUM3 : Hid ((if r3 ≠ 0 then r3 else if upBad u = true then 4 else 0) = r) := by show _ = _; have := HSUM2.out; rwa [if_neg (by simpa using hz2)] at this
        have HZ2 := Lib.hid hz2
        clear HSUM2 hz2
        go_wp2_with fail
        go_at_call 31
        refine (stepsCode_any vs HVB.out Av lv cv Ag k cg HLG.out Ay ly cy (Sp.cntL ks) ks ly Ay cy true _ r3 HL.out (Nat.le_refl _) (HK.out.below HB2'.out) (HV.out.below HB2'.out) HR3).mono ?_
        rintro e w7 ⟨rfl, hb⟩
        have HC3 := Lib.hid (HC2.out.next hb)
        have HB3' := Lib.hid (HB2'.out.trans (hb.mono HB2'.out.size))
        clear hb HC2 HB2' n0 n1 n2
        have n0 := HC3.out.at 0 _ rfl
        have n1 := HC3.out.at 1 _ rfl
        have n2 := HC3.out.at 2 _ rfl
        by_cases hz3 : r3 = 0
        case neg =>
          have hbn := bne_of hz3
          have hr : r = r3 := by have := HSUM3.out; rw [if_pos hz3] at this; exact this.symm
          subst hr
          clear HSUM3
          go_wp2_with fail
          go_ret
          exact ⟨rfl, HB3'.out⟩
        have hbn3 : (r3 != 0) = false := by rw [hz3]; rfl
        have HSUM4 : Hid ((if upBad u = true then 4 else 0) = r) := by show _ = _; have := HSUM3.out; rwa [if_neg (by simpa using hz3)] at this
        have HZ3 := Lib.hid hz3
        clear HSUM3 hz3
        have HNL := Lib.hid (stepsC_num ks vs k true (HR3.out.trans HZ3.out))
        obtain ⟨u1, u2, u3⟩ := u
        go_wp2_with fail
        go_at_call 32
        refine (upper_any (Sp.cntL ks) ks ly Ay cy _ (u1, u2, u3) HL.out (Nat.le_refl _) (HK.out.below HB3'.out) HNL.out HU).mono ?_
        rintro e w8 ⟨rfl, hb⟩
        have HB4' := Lib.hid (HB3'.out.trans (hb.mono HB3'.out.size))
        clear hb HB3' HC3 n0 n1 n2
        have hba := (Below.refl w8.heap.size w8).alloc (Nat.le_refl _) (.cells #[.int .i64 u1, .int .i64 u2, .int .i64 u3] 80)
        have HB5' := Lib.hid (HB4'.out.trans (hba.mono HB4'.out.size))
        clear hba HB4'
        by_cases f1 : 4096 < u1
        · have f1d : decide (4096 < u1) = true := decide_eq_true f1
          have hr : r = 4 := by have := HSUM4.out; simp [upBad, f1] at this; exact this.symm
          subst hr
          clear HSUM4
          go_wp2_with fail
          go_ret
          exact ⟨rfl, HB5'.out⟩
        have f1d : decide (4096 < u1) = false := decide_eq_false f1
        by_cases f2 : 8 < u2
        · have f2d : decide (8 < u2) = true := decide_eq_true f2
          have hr : r = 4 := by have := HSUM4.out; simp [upBad, f2] at this; exact this.symm
          subst hr
          clear HSUM4
          go_wp2_with fail
          go_ret
          exact ⟨rfl, HB5'.out⟩
        have f2d : decide (8 < u2) = false := decide_eq_false f2
        by_cases f3 : 67108864 < u3
        · have f3d : decide (67108864 < u3) = true := decide_eq_true f3
          have hr : r = 4 := by have := HSUM4.out; simp [upBad, f3] at this; exact this.symm
          subst hr
          clear HSUM4
          go_wp2_with fail
          go_ret
          exact ⟨rfl, HB5'.out⟩
        have f3d : decide (67108864 < u3) = false := decide_eq_false f3
        have hr : r = 0 := by have := HSUM4.out; simp [upBad, f1, f2, f3] at this; exact this.symm
        subst hr
        clear HSUM4
        go_wp2_with fail
        go_ret
        exact ⟨rfl, HB5'.out⟩
end Go.Proofs.YtjpjmoejdkmglaaGreat
