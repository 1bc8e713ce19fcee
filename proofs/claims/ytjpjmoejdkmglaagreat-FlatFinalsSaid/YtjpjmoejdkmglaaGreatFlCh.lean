/-
  The walks over the reference's sizes, plain, rising and shaped.
-/
import Derived.Test.YtjpjmoejdkmglaaGreatFlCg
namespace Go.Proofs.YtjpjmoejdkmglaaGreat
open Go.RowKit

set_option maxRecDepth 100000 in
set_option maxHeartbeats 8000000 in
theorem rsizes_b (vs : List Vr) (hs : List Ht) (ks : List Sp) (Av : Option Addr) (lv cv : Nat) (Ag : Option Addr) (lg cg : Nat) (Ay : Option Addr) (ly cy : Nat) (w : World) (hv : vs.length = lv) (hlv : lv ≤ 1000000) (hh : HOk w Ag lg cg hs) (hl : ks.length = ly) (hk : SOk w Ay cy ks) (hbd : hcnt hs + Sp.cntL ks ≤ 90000) (b : Bool) (H : Hid (sizesB vs hs ks = b)) :
    Calls Tryz.prog 45 #[.agg #[.slice Av lv cv, .slice Ag lg cg, .slice Ay ly cy]] w fun e w' => e = .returned (.bool b) ∧ Below w.heap.size w w' := by
  have hba := (Below.refl w.heap.size w).alloc (Nat.le_refl _) (.cells #[.slice Av lv cv, .slice Ag lg cg, .slice Ay ly cy] 26)
  have HB := Lib.hid hba
  have HC := Lib.hid (Cs.new w #[.slice Av lv cv, .slice Ag lg cg, .slice Ay ly cy] 26)
  have HHS := Lib.hid (hh.below hba)
  have HK := Lib.hid (hk.below hba)
  have HL := Lib.hid hl
  have HHL := Lib.hid hh.len
  have hlg' : lg ≤ 9223372036854775807 := by have h1 := hh.cap; have h2 := hh.big; unfold maxLen at h2; omega
  obtain ⟨s0, hs0⟩ : ∃ z, Sp.cntL ks = z := ⟨_, rfl⟩
  obtain ⟨sd, hsd⟩ : ∃ z, sdepL ks = z := ⟨_, rfl⟩
  obtain ⟨td, htd⟩ : ∃ z, tdeepL ks = z := ⟨_, rfl⟩
  have hs9 : s0 ≤ 90000 := by rw [← hs0]; omega
  have hsd9 : sd ≤ 90000 := by rw [← hsd]; have := sdepL_le ks; omega
  have HS0 : Hid ((decide (lv ≤ 64) && (decide (lg ≤ 8) && (!hdeep (hs.drop 0) && (decide (s0 + hcnt (hs.drop 0) ≤ 1024) && (decide (sd ≤ 12) && !td))))) = b) := by
    show _ = _
    rw [← H.out, List.drop_zero, sizesB, hv, hh.len, hs0, hsd, htd]
  have HI0 : Hid (s0 + hcnt (hs.drop 0) ≤ 90000) := Lib.hid (by rw [List.drop_zero, ← hs0]; omega)
  have HSS := Lib.hid hs0
  have HSD := Lib.hid hsd
  have HTD := Lib.hid htd
  clear hba hh hk hl hbd H hs0 hsd htd hv
  go_enter Tryz.func45, Tryz.ntmps45
  go_upto_region 1 with fail
  obtain ⟨w1, hw1⟩ : ∃ w1, w.alloc (.cells #[.slice Av lv cv, .slice Ag lg cg, .slice Ay ly cy] 26) = w1 := ⟨_, rfl⟩
  obtain ⟨p, hp⟩ : ∃ p, w.heap.size = p := ⟨_, rfl⟩
  rw [hw1] at HB HC HHS HK
  rw [hp] at HC
  rw [hw1, hp]
  clear hw1 hp
  have f0 := HC.out.at 0 _ rfl
  have f1 := HC.out.at 1 _ rfl
  have f2 := HC.out.at 2 _ rfl
  by_cases e1 : 64 < lv
  · have d1 : decide (64 < lv) = true := decide_eq_true (by omega)
    have d1i : decide (((64 : Nat) : Int) < ((lv : Nat) : Int)) = true := decide_eq_true (by omega)
    have hb : b = false := by rw [← HS0.out, decide_eq_false (show ¬ lv ≤ 64 by omega)]; rfl
    subst hb
    clear HS0
    go_wp2_with fail
    go_ret
    exact ⟨rfl, HB.out⟩
  have d1 : decide (64 < lv) = false := decide_eq_false (by omega)
  have d1i : decide (((64 : Nat) : Int) < ((lv : Nat) : Int)) = false := decide_eq_false (by omega)
  by_cases e2 : 8 < lg
  · have d2 : decide (8 < lg) = true := decide_eq_true (by omega)
    have d2i : decide (((8 : Nat) : Int) < ((lg : Nat) : Int)) = true := decide_eq_true (by omega)
    have hb : b = false := by rw [← HS0.out, decide_eq_false (show ¬ lg ≤ 8 by omega), Bool.false_and, Bool.and_false]
    subst hb
    clear HS0
    go_wp2_with fail
    go_ret
    exact ⟨rfl, HB.out⟩
  have d2 : decide (8 < lg) = false := decide_eq_false (by omega)
  have d2i : decide (((8 : Nat) : Int) < ((lg : Nat) : Int)) = false := decide_eq_false (by omega)
  have HS1 : Hid ((!hdeep (hs.drop 0) && (decide (s0 + hcnt (hs.drop 0) ≤ 1024) && (decide (sd ≤ 12) && !td))) = b) := by
    show _ = _
    rw [← HS0.out, decide_eq_true (show lv ≤ 64 by omega), decide_eq_true (show lg ≤ 8 by omega)]
    rfl
  clear HS0
  go_wp2_with fail
  go_at_call 73
  refine (nodes_any (Sp.cntL ks) ks ly Ay cy _ s0 HL.out (Nat.le_refl _) (by rw [HSS.out]; omega) HK.out HSS).mono ?_
  rintro e w2 ⟨rfl, hb2⟩
  have HB2 := Lib.hid (HB.out.trans (hb2.mono HB.out.size))
  have HC2 := Lib.hid (HC.out.next hb2)
  have HHS2 := Lib.hid (HHS.out.below hb2)
  have HK2 := Lib.hid (HK.out.below hb2)
  clear hb2 HB HC HHS HK f0 f1 f2 d1 d1i d2 d2i
  go_upto_region 5 with fail
  go_loopw [3, 4] (fun u v wr => ∃ k s : Nat, k ≤ lg ∧ u = .int .i64 (s : Nat) ∧ v = .int .i64 k ∧ Hid ((!hdeep (hs.drop k) && (decide (s + hcnt (hs.drop k) ≤ 1024) && (decide (sd ≤ 12) && !td))) = b) ∧ Hid (s + hcnt (hs.drop k) ≤ 90000) ∧ Hid (Below w.heap.size w wr) ∧ Hid (Below w2.heap.size w2 wr) ∧ Hid (Cs wr p [.slice Av lv cv, .slice Ag lg cg, .slice Ay ly cy])) (fun _ v _ => lg - (intOf v).toNat)
  case atStart => exact ⟨0, s0, by omega, rfl, rfl, HS1, HI0, HB2, Lib.hid (Below.refl _ _), HC2⟩
  case round =>
    clear HS1 HI0 HB2 HC2
    obtain ⟨k, s, hk, rfl, rfl, HS, HI, HB, HBr, HC⟩ := hrel
    have f0 := HC.out.at 0 _ rfl
    have f1 := HC.out.at 1 _ rfl
    have f2 := HC.out.at 2 _ rfl
    by_cases hlt : k < lg
    · have hlt' : (k : Int) < (lg : Int) := by omega
      have hk0 : (0 : Int) ≤ (k : Int) := by omega
      obtain ⟨nm, lo, hi, o, n, kk, gg, f, A2, c2, hx, hsz, hA, hg, k0, k1, k2, k3, k4, k5, htk⟩ := (HHS2.out.below HBr.out).at k hlt
      subst hA
      obtain ⟨l2, hl2⟩ : ∃ l2, kk.length = l2 := ⟨_, rfl⟩
      rw [hl2] at k5
      obtain ⟨z1, hz1⟩ : ∃ z, Tm.cnt (.mk o n kk) = z := ⟨_, rfl⟩
      obtain ⟨z2, hz2⟩ : ∃ z, tdep (.mk o n kk) = z := ⟨_, rfl⟩
      have hcn : hcnt (hs.drop k) = z1 + hcnt (hs.drop (k + 1)) := by rw [hcnt_drop hx, hz1]
      have hdn : hdeep (hs.drop k) = (decide (12 < z2) || hdeep (hs.drop (k + 1))) := by rw [hdeep_drop hx, hz2]
      have HX := HS.out
      rw [hcn, hdn] at HX
      have HI2 : Hid (s + z1 + hcnt (hs.drop (k + 1)) ≤ 90000) := Lib.hid (by have := HI.out; rw [hcn] at this; omega)
      have HXX := Lib.hid HX
      have hsz1 : s + z1 ≤ 90000 := by have := HI2.out; omega
      have hz16 : Tm.cnt (.mk o n kk) ≤ 1000000 := by omega
      have hz26 : z2 ≤ 90000 := by rw [← hz2]; have := tdep_le (.mk o n kk); omega
      have HZ16 := Lib.hid hz16
      have HZ1 := Lib.hid hz1
      have HZ2 := Lib.hid hz2
      have HL2 := Lib.hid hl2
      have HTK := Lib.hid htk
      have HCELL : Hid (∀ W, Below wr.heap.size wr W → W.cell? ⟨gg, f + k * 6 + 3, none⟩ = some (.int .i64 o) ∧ W.cell? ⟨gg, f + k * 6 + 4, none⟩ = some (.int .i64 n) ∧ W.cell? ⟨gg, f + k * 6 + 5, none⟩ = some (.slice A2 l2 c2)) := Lib.hid fun W h => ⟨(h.cell (p := ⟨gg, _, none⟩) hg).trans k3, (h.cell (p := ⟨gg, _, none⟩) hg).trans k4, (h.cell (p := ⟨gg, _, none⟩) hg).trans k5⟩
      clear hx hsz hl2 htk hcn hdn hz1 hz2 HX HS HI hz16 k0 k1 k2
      go_wp2_with fail
      go_at_call 74
      refine (termNodes_any (Tm.cnt (.mk o n kk)) o n kk l2 A2 c2 _ z1 HL2.out (Nat.le_refl _) HZ16.out HTK.out HZ1).mono ?_
      rintro e w3 ⟨rfl, hb3⟩
      obtain ⟨k3', k4', k5'⟩ := HCELL.out w3 hb3
      have HB3 := Lib.hid (HB.out.trans (hb3.mono HB.out.size))
      have HBr3 := Lib.hid (HBr.out.trans (hb3.mono HBr.out.size))
      have HC3 := Lib.hid (HC.out.next hb3)
      have HTK3 := Lib.hid (HTK.out.below hb3)
      have hg3 : gg < w3.heap.size := Nat.lt_of_lt_of_le hg hb3.size
      clear hb3 HB HBr HC HTK f0 f1 f2 k3 k4 k5
      have f0 := HC3.out.at 0 _ rfl
      have f1 := HC3.out.at 1 _ rfl
      have f2 := HC3.out.at 2 _ rfl
      go_wp2_with fail
      go_at_call 75
      refine (termDepth_any (Tm.cnt (.mk o n kk)) o n kk l2 A2 c2 _ z2 HL2.out (Nat.le_refl _) HZ16.out HTK3.out HZ2).mono ?_
      rintro e w4 ⟨rfl, hb4⟩
      have HB4 := Lib.hid (HB3.out.trans (hb4.mono HB3.out.size))
      have HBr4 := Lib.hid (HBr3.out.trans (hb4.mono HBr3.out.size))
      have HC4 := Lib.hid (HC3.out.next hb4)
      clear hb4 HB3 HBr3 HC3 HTK3 HCELL f0 f1 f2 k3' k4' k5'
      by_cases g1 : 12 < z2
      · have d3 : decide (12 < z2) = true := decide_eq_true (by omega)
        have d3i : decide (((12 : Nat) : Int) < ((z2 : Nat) : Int)) = true := decide_eq_true (by omega)
        have hb : b = false := by rw [← HXX.out, decide_eq_true g1]; rfl
        subst hb
        clear HXX
        go_wp2_with fail
        go_ret
        exact ⟨rfl, HB4.out⟩
      · have d3 : decide (12 < z2) = false := decide_eq_false (by omega)
        have d3i : decide (((12 : Nat) : Int) < ((z2 : Nat) : Int)) = false := decide_eq_false (by omega)
        have HS2 : Hid ((!hdeep (hs.drop (k + 1)) && (decide (s + z1 + hcnt (hs.drop (k + 1)) ≤ 1024) && (decide (sd ≤ 12) && !td))) = b) := by
          show _ = _
          have := HXX.out
          rw [decide_eq_false g1, Bool.false_or, ← Nat.add_assoc] at this
          exact this
        clear HXX
        go_wp2_with fail
        go_roundw
        case rel => exact ⟨k + 1, s + z1, by omega, by go_num, by go_num, HS2, HI2, HB4, HBr4, HC4⟩
        case measure => simp [intOf]; omega
    · obtain rfl : k = lg := by omega
      have HS2 : Hid ((decide (s ≤ 1024) && (decide (sd ≤ 12) && !td)) = b) := by
        show _ = _
        have := HS.out
        rw [List.drop_of_length_le (by rw [HHL.out]; exact Nat.le_refl _)] at this
        rw [← this]; rfl
      have hs6 : s ≤ 90000 := by have := HI.out; omega
      have HKr := Lib.hid (HK2.out.below HBr.out)
      clear HS HI HBr
      by_cases g1 : s ≤ 1024
      case neg =>
        have d4 : decide (s ≤ 1024) = false := decide_eq_false (by omega)
        have d4i : decide (((s : Nat) : Int) ≤ ((1024 : Nat) : Int)) = false := decide_eq_false (by omega)
        have hb : b = false := by rw [← HS2.out, d4]; rfl
        subst hb
        clear HS2
        go_wp2_with fail
        go_ret
        exact ⟨rfl, HB.out⟩
      have d4 : decide (s ≤ 1024) = true := decide_eq_true (by omega)
      have d4i : decide (((s : Nat) : Int) ≤ ((1024 : Nat) : Int)) = true := decide_eq_true (by omega)
      go_wp2_with fail
      go_at_call 76
      refine (stepDepth_any (Sp.cntL ks) ks ly Ay cy _ sd HL.out (Nat.le_refl _) (by rw [HSS.out]; omega) HKr.out HSD).mono ?_
      rintro e w3 ⟨rfl, hb3⟩
      have HB3 := Lib.hid (HB.out.trans (hb3.mono HB.out.size))
      have HC3 := Lib.hid (HC.out.next hb3)
      have HK3 := Lib.hid (HKr.out.below hb3)
      clear hb3 HB HC HKr f0 f1 f2
      have f2 := HC3.out.at 2 _ rfl
      by_cases g2 : sd ≤ 12
      case neg =>
        have d5 : decide (sd ≤ 12) = false := decide_eq_false (by omega)
        have d5i : decide (((sd : Nat) : Int) ≤ ((12 : Nat) : Int)) = false := decide_eq_false (by omega)
        have hb : b = false := by rw [← HS2.out, d4, d5]; rfl
        subst hb
        clear HS2
        go_wp2_with fail
        go_ret
        exact ⟨rfl, HB3.out⟩
      have d5 : decide (sd ≤ 12) = true := decide_eq_true (by omega)
      have d5i : decide (((sd : Nat) : Int) ≤ ((12 : Nat) : Int)) = true := decide_eq_true (by omega)
      go_wp2_with fail
      go_at_call 77
      refine (termsDeep_any (Sp.cntL ks) ks ly Ay cy _ td HL.out (Nat.le_refl _) (by rw [HSS.out]; omega) HK3.out HTD).mono ?_
      rintro e w4 ⟨rfl, hb4⟩
      have HB4 := Lib.hid (HB3.out.trans (hb4.mono HB3.out.size))
      clear hb4 HB3 HC3 HK3 f2
      have hb : b = !td := by rw [← HS2.out, d4, d5]; rfl
      subst hb
      clear HS2
      go_wp2_with fail
      go_ret
      exact ⟨by cases td <;> rfl, HB4.out⟩
theorem rplain_b (o n : Int) (A : Option Addr) (l c : Nat) (b : Bool) (H : Hid (zeroB o n l = b)) (w : World) :
    Calls Tryz.prog 100 #[.agg #[.int .i64 o, .int .i64 n, .slice A l c]] w fun e w' => e = .returned (.bool b) ∧ Below w.heap.size w w' := by
  have H0 : Hid (b = ((o == 0) && ((n == 0) && ((l : Int) == 0)))) := H.out.symm
  clear H
  go_enter Tryz.func100, Tryz.ntmps100
  go_wp2_with fail
  all_goals go_ret
  all_goals exact ⟨ret_bool (by rw [H0.out]; first | done | (simp [*]; done) | (simp [*]; omega) | (simp [*]; intros; omega)), (Below.refl _ _).alloc (Nat.le_refl _) _⟩

set_option maxRecDepth 100000 in
set_option maxHeartbeats 2000000 in
theorem rrising_b (bs : List Int) (b : Bool) (H : Hid (riseB bs = b)) (A : Option Addr) (l c : Nat) (w : World) (hz : Zs w A l c bs) :
    Calls Tryz.prog 101 #[.slice A l c] w fun e w' => e = .returned (.bool b) ∧ Below w.heap.size w w' := by
  have HZ := Lib.hid hz
  have HL := Lib.hid hz.len
  have hlc : l ≤ 9223372036854775807 := by have h1 := hz.cap; have h2 := hz.big; unfold maxLen at h2; omega
  have H1 : Hid ((decide (1 ≤ l) && (decide (l ≤ 32) && (decide (0 ≤ bs.getD 0 0) && risB bs))) = b) := by show _ = _; rw [← H.out, riseB, hz.len]
  clear hz H
  by_cases e1 : l < 1
  · have d1 : decide (l < 1) = true := decide_eq_true e1
    have d1i : decide ((l : Int) < 1) = true := decide_eq_true (by omega)
    have hb : b = false := by rw [← H1.out, decide_eq_false (show ¬ 1 ≤ l by omega)]; rfl
    subst hb
    clear H1
    go_enter Tryz.func101, Tryz.ntmps101
    go_wp2_with fail
    go_ret
    exact ⟨rfl, Below.refl _ _⟩
  have d1 : decide (l < 1) = false := decide_eq_false e1
  have d1i : decide ((l : Int) < 1) = false := decide_eq_false (by omega)
  by_cases e2 : 32 < l
  · have d2 : decide (32 < l) = true := decide_eq_true e2
    have d2i : decide ((32 : Int) < (l : Int)) = true := decide_eq_true (by omega)
    have hb : b = false := by rw [← H1.out, decide_eq_false (show ¬ l ≤ 32 by omega), Bool.false_and, Bool.and_false]
    subst hb
    clear H1
    go_enter Tryz.func101, Tryz.ntmps101
    go_wp2_with fail
    go_ret
    exact ⟨rfl, Below.refl _ _⟩
  have d2 : decide (32 < l) = false := decide_eq_false e2
  have d2i : decide ((32 : Int) < (l : Int)) = false := decide_eq_false (by omega)
  obtain ⟨g, f, hA, hg, hc⟩ := HZ.out.mem (by omega)
  subst hA
  have c0 := hc 0 (by omega)
  rw [Nat.add_zero] at c0
  obtain ⟨x0, hx0⟩ : ∃ z, bs.getD 0 0 = z := ⟨_, rfl⟩
  rw [hx0] at c0
  have H2 : Hid ((decide (0 ≤ x0) && risB bs) = b) := by
    show _ = _
    rw [← H1.out, decide_eq_true (show 1 ≤ l by omega), decide_eq_true (show l ≤ 32 by omega), hx0]; rfl
  have HCC := Lib.hid hc
  have hl0 : (0 : Int) < (l : Int) := by omega
  clear H1 hx0 hc
  by_cases e3 : x0 < 0
  · have d3 : decide (x0 < 0) = true := decide_eq_true e3
    have hb : b = false := by rw [← H2.out, decide_eq_false (show ¬ 0 ≤ x0 by omega)]; rfl
    subst hb
    clear H2
    go_enter Tryz.func101, Tryz.ntmps101
    go_wp2_with fail
    go_ret
    exact ⟨rfl, Below.refl _ _⟩
  have d3 : decide (x0 < 0) = false := decide_eq_false e3
  have H3 : Hid (risB bs = b) := by show _ = _; rw [← H2.out, decide_eq_true (show 0 ≤ x0 by omega)]; rfl
  clear H2
  go_enter Tryz.func101, Tryz.ntmps101
  go_upto_region 4 with fail
  clear c0
  go_loopw [3] (fun v wr => ∃ k : Nat, 1 ≤ k ∧ k ≤ l ∧ v = .int .i64 k ∧ Hid (∀ j, j + 1 < k → bs.getD j 0 < bs.getD (j + 1) 0) ∧ Hid (Below w.heap.size w wr)) (fun v _ => l - (intOf v).toNat)
  case atStart => exact ⟨1, by omega, by omega, rfl, fun j h => absurd h (by omega), Lib.hid (Below.refl _ _)⟩
  case round =>
    obtain ⟨k, hk1, hk, rfl, HK, HB⟩ := hrel
    by_cases hlt : k < l
    · have hlt' : (k : Int) < (l : Int) := by omega
      obtain ⟨j, rfl⟩ : ∃ j, k = j + 1 := ⟨k - 1, by omega⟩
      have k0 := (HB.out.cell (p := ⟨g, f + (j + 1), none⟩) hg).trans (HCC.out (j + 1) hlt)
      have k1 := (HB.out.cell (p := ⟨g, f + j, none⟩) hg).trans (HCC.out j (by omega))
      have hgr : g < wr.heap.size := Nat.lt_of_lt_of_le hg HB.out.size
      obtain ⟨a, ha⟩ : ∃ z, bs.getD (j + 1) 0 = z := ⟨_, rfl⟩
      obtain ⟨a', ha'⟩ : ∃ z, bs.getD j 0 = z := ⟨_, rfl⟩
      rw [ha] at k0
      rw [ha'] at k1
      have hw : IntKind.i64.wrap ((j : Int) + 1 - 1) = (j : Int) := by rw [show (j : Int) + 1 - 1 = (j : Int) by omega]; exact IntWalk.i64_in _ (by omega)
      have hj0 : (0 : Int) ≤ (j : Int) := by omega
      have hj1 : (j : Int) < (l : Int) := by omega
      have hj2 : (0 : Int) ≤ (j : Int) + 1 := by omega
      have hj3 : (j : Int) + 1 < (l : Int) := by omega
      have HBZ := Lib.hid HB.out
      have HA := Lib.hid ha
      have HA' := Lib.hid ha'
      clear ha ha'
      by_cases q : a ≤ a'
      · have dq : decide (a ≤ a') = true := decide_eq_true q
        have hb : b = false := by rw [← H3.out]; exact ris_bad (i := j) (by rw [HL.out]; omega) (by rw [HA.out, HA'.out]; omega)
        subst hb
        clear H3 HK
        go_upto_region 6 with fail
        go_quiet (fail)
        clear hw
        go_wp2_with fail
        go_ret
        exact ⟨rfl, below_drewN HBZ.out _⟩
      · have dq : decide (a ≤ a') = false := decide_eq_false q
        have HK' : Hid (∀ i, i + 1 < j + 1 + 1 → bs.getD i 0 < bs.getD (i + 1) 0) := fun i hi => by
          by_cases e : i = j
          · rw [e, HA.out, HA'.out]; omega
          · exact HK.out i (by omega)
        clear HK
        go_upto_region 6 with fail
        go_quiet (fail)
        clear hw k0 k1
        go_wp2_with fail
        go_roundw
        case rel => exact ⟨j + 1 + 1, by omega, by omega, by go_num, HK', Lib.hid (below_drewN HBZ.out _)⟩
        case measure => simp [intOf]; omega
    · have hb : b = true := by rw [← H3.out]; exact ris_all fun i hi => HK.out i (by rw [HL.out] at hi; omega)
      subst hb
      clear H3 HK
      go_wp2_with fail
      go_ret
      exact ⟨rfl, HB.out⟩

set_option maxRecDepth 100000 in
set_option maxHeartbeats 4000000 in
theorem rshaped_0 (vs : List Vr) (Av : Option Addr) (lv cv : Nat) (Ag : Option Addr) (lg cg : Nat) (Ay : Option Addr) (ly cy : Nat) (x1 v n o tn : Int) (At : Option Addr) (lt ct : Nat) (Ah : Option Addr) (lh ch : Nat) (Ae : Option Addr) (le ce : Nat) (Ab : Option Addr) (lb cb : Nat) (bs : List Int) (last : Bool) (b : Bool) (H : Hid (shapedB vs lg last 0 v n (zeroB o tn lt) lh le bs = b)) (w : World) (hv : VOk w Av lv cv vs) (hz : Zs w Ab lb cb bs) :
    Calls Tryz.prog 81 #[.agg #[.slice Av lv cv, .slice Ag lg cg, .slice Ay ly cy], .agg #[.int .i64 0, .int .i64 x1, .int .i64 v, .int .i64 n, .int .i64 o, .int .i64 tn, .slice At lt ct, .slice Ah lh ch, .slice Ae le ce, .slice Ab lb cb], .bool last] w fun e w' => e = .returned (.bool b) ∧ Below w.heap.size w w' := by
  have hlv : lv ≤ 9223372036854775807 := by have h1 := hv.cap; have h2 := hv.big; unfold maxLen at h2; omega
  have hlbm : lb ≤ 9223372036854775807 := by have h1 := hz.cap; have h2 := hz.big; unfold maxLen at h2; omega
  have hb1 := (Below.refl w.heap.size w).alloc (Nat.le_refl _) (.cells #[.slice Av lv cv, .slice Ag lg cg, .slice Ay ly cy] 26)
  have hb2 := hb1.alloc hb1.size (.cells #[.int .i64 0, .int .i64 x1, .int .i64 v, .int .i64 n, .int .i64 o, .int .i64 tn, .slice At lt ct, .slice Ah lh ch, .slice Ae le ce, .slice Ab lb cb] 56)
  have HB := Lib.hid hb2
  have HF := Lib.hid ((Cs.new w #[.slice Av lv cv, .slice Ag lg cg, .slice Ay ly cy] 26).alloc (.cells #[.int .i64 0, .int .i64 x1, .int .i64 v, .int .i64 n, .int .i64 o, .int .i64 tn, .slice At lt ct, .slice Ah lh ch, .slice Ae le ce, .slice Ab lb cb] 56))
  have HN := Lib.hid (Cs.new1 w (.cells #[.slice Av lv cv, .slice Ag lg cg, .slice Ay ly cy] 26) #[.int .i64 0, .int .i64 x1, .int .i64 v, .int .i64 n, .int .i64 o, .int .i64 tn, .slice At lt ct, .slice Ah lh ch, .slice Ae le ce, .slice Ab lb cb] 56)
  have HV := Lib.hid (hv.below hb2)
  have HVL := Lib.hid hv.len
  have HZB := Lib.hid (hz.below hb2)
  have HBL := Lib.hid hz.len
  obtain ⟨fr, hfr⟩ : ∃ z, (decide (lh = 0) && decide (le = 0)) = z := ⟨_, rfl⟩
  obtain ⟨lc, hlc⟩ : ∃ z, locB vs v = z := ⟨_, rfl⟩
  obtain ⟨z, hzz⟩ : ∃ z, zeroB o tn lt = z := ⟨_, rfl⟩
  have HX : Hid ((fr && lc && (n == 0) && decide (lb = 0)) = b) := by
    show _ = _
    rw [← H.out]; unfold shapedB
    rw [if_pos rfl, hz.len, hfr, hlc]
  have HFR := Lib.hid hfr
  have HLC := Lib.hid hlc
  have HZZ := Lib.hid hzz
  clear hb1 hb2 hv hz hfr hlc hzz H
  go_enter Tryz.func81, Tryz.ntmps81
  go_upto_region 1 with fail
  obtain ⟨w2, hw2⟩ : ∃ w2, (w.alloc (.cells #[.slice Av lv cv, .slice Ag lg cg, .slice Ay ly cy] 26)).alloc (.cells #[.int .i64 0, .int .i64 x1, .int .i64 v, .int .i64 n, .int .i64 o, .int .i64 tn, .slice At lt ct, .slice Ah lh ch, .slice Ae le ce, .slice Ab lb cb] 56) = w2 := ⟨_, rfl⟩
  obtain ⟨p, hp⟩ : ∃ p, w.heap.size = p := ⟨_, rfl⟩
  obtain ⟨q, hq⟩ : ∃ q, p + 1 = q := ⟨_, rfl⟩
  rw [hw2] at HB HF HN HV HZB
  rw [hp] at HF HN
  rw [hq] at HN
  rw [hw2, hp, hq]
  clear hw2 hp hq
  have f0 := HF.out.at 0 _ rfl
  have f1 := HF.out.at 1 _ rfl
  have f2 := HF.out.at 2 _ rfl
  have n0 := HN.out.at 0 _ rfl
  have n1 := HN.out.at 1 _ rfl
  have n2 := HN.out.at 2 _ rfl
  have n3 := HN.out.at 3 _ rfl
  have n4 := HN.out.at 4 _ rfl
  have n5 := HN.out.at 5 _ rfl
  have n6 := HN.out.at 6 _ rfl
  have n7 := HN.out.at 7 _ rfl
  have n8 := HN.out.at 8 _ rfl
  have n9 := HN.out.at 9 _ rfl
  go_upto_region 1 with fail
  go_cut [7] from 7 to 18 (fun u wx => u = .bool fr ∧ w2 = wx)
  case first =>
    by_cases g1 : lh = 0
    · have q1 : (lh == 0) = true := by simpa using g1
      have q1i : ((lh : Int) == 0) = true := by rw [beq_iff_eq]; omega
      by_cases g2 : le = 0
      · have q2 : (le == 0) = true := by simpa using g2
        have q2i : ((le : Int) == 0) = true := by rw [beq_iff_eq]; omega
        have hf : fr = true := by rw [← HFR.out, decide_eq_true g1, decide_eq_true g2]; rfl
        subst hf
        clear g1 g2
        go_wp2_with fail
        go_meet
        case rel => exact ⟨rfl, rfl⟩
      · have q2 : (le == 0) = false := by simpa using g2
        have q2i : ((le : Int) == 0) = false := beq_of (by omega)
        have hf : fr = false := by rw [← HFR.out, decide_eq_false g2, Bool.and_false]
        subst hf
        clear g1 g2
        go_wp2_with fail
        go_meet
        case rel => exact ⟨rfl, rfl⟩
    · have q1 : (lh == 0) = false := by simpa using g1
      have q1i : ((lh : Int) == 0) = false := beq_of (by omega)
      have hf : fr = false := by rw [← HFR.out, decide_eq_false g1]; rfl
      subst hf
      clear g1
      go_wp2_with fail
      go_meet
      case rel => exact ⟨rfl, rfl⟩
  case rest =>
  obtain ⟨rfl, rfl⟩ := hcut
  go_upto_region 2 with fail
  go_cut [8] from 8 to 39 (fun u wx => u = .bool lc ∧ w2 = wx)
  case first =>
    have HLX : Hid ((decide (0 ≤ v) && (decide (v < (lv : Int)) && decide (((vs[v.toNat]?).map Vr.kind).getD 1 = 0))) = lc) := by show _ = _; rw [← HLC.out, locB, HVL.out]
    by_cases g1 : 0 ≤ v
    case neg =>
      have d1 : decide (0 ≤ v) = false := decide_eq_false g1
      have hf : lc = false := by rw [← HLX.out, d1]; rfl
      subst hf
      clear HLX
      go_wp2_with fail
      go_meet
      case rel => exact ⟨rfl, rfl⟩
    obtain ⟨i, rfl⟩ : ∃ i : Nat, v = i := ⟨v.toNat, by omega⟩
    have d1 : decide ((0 : Int) ≤ (i : Int)) = true := decide_eq_true g1
    by_cases g2 : i < lv
    case neg =>
      have d2 : decide (i < lv) = false := decide_eq_false g2
      have d2i : decide ((i : Int) < (lv : Int)) = false := decide_eq_false (by omega)
      have hf : lc = false := by rw [← HLX.out, d2i, Bool.false_and, Bool.and_false]
      subst hf
      clear HLX
      go_wp2_with fail
      go_meet
      case rel => exact ⟨rfl, rfl⟩
    have d2 : decide (i < lv) = true := decide_eq_true g2
    have d2i : decide ((i : Int) < (lv : Int)) = true := decide_eq_true (by omega)
    have g2i : (i : Int) < (lv : Int) := by omega
    obtain ⟨s, kd, lo, hi, ii, g, f, hvs, _, hA, hg, v0, v1, _⟩ := HV.out.at i g2
    subst hA
    have HL2 : Hid (decide (kd = 0) = lc) := by
      show _ = _
      rw [← HLX.out, d1, d2i, Int.toNat_natCast, hvs]; rfl
    clear HLX hvs v0
    by_cases g3 : kd = 0
    · have q3 : (kd == 0) = true := by rw [g3]; rfl
      have hf : lc = true := by rw [← HL2.out]; exact decide_eq_true g3
      subst hf
      clear HL2 g3
      go_wp2_with fail
      go_meet
      case rel => exact ⟨rfl, rfl⟩
    · have q3 := beq_of g3
      have hf : lc = false := by rw [← HL2.out]; exact decide_eq_false g3
      subst hf
      clear HL2 g3
      go_wp2_with fail
      go_meet
      case rel => exact ⟨rfl, rfl⟩
  case rest =>
  obtain ⟨rfl, rfl⟩ := hcut
  clear HFR HLC
  cases fr with
  | false =>
    have hb : b = false := by rw [← HX.out]; simp
    subst hb
    clear HX
    go_wp2_with fail
    go_ret
    exact ⟨rfl, HB.out⟩
  | true =>
    cases lc with
    | false =>
      have hb : b = false := by rw [← HX.out]; simp
      subst hb
      clear HX
      go_wp2_with fail
      go_ret
      exact ⟨rfl, HB.out⟩
    | true =>
      by_cases gn : n = 0
      case neg =>
        have qn := beq_of gn
        have hb : b = false := by rw [← HX.out]; simp [qn]
        subst hb
        clear HX
        go_wp2_with fail
        go_ret
        exact ⟨rfl, HB.out⟩
      have qn : (n == 0) = true := by rw [gn]; rfl
      clear gn
      by_cases glb : lb = 0
      case neg =>
        have qlb : decide (lb = 0) = false := decide_eq_false glb
        have qlbi : ((lb : Int) == 0) = false := beq_of (by omega)
        have qlbn : (lb == 0) = false := by simpa using glb
        have hb : b = false := by rw [← HX.out]; simp [qn, qlb]
        subst hb
        clear HX
        go_wp2_with fail
        go_ret
        exact ⟨rfl, HB.out⟩
      have qlb : decide (lb = 0) = true := decide_eq_true glb
      have qlbi : ((lb : Int) == 0) = true := by rw [beq_iff_eq]; omega
      have qlbn : (lb == 0) = true := by simpa using glb
      clear glb
      have hb : b = true := by rw [← HX.out]; simp [qn, qlb]
      subst hb
      clear HX
      go_wp2_with fail
      go_ret
      exact ⟨rfl, HB.out⟩

set_option maxRecDepth 100000 in
set_option maxHeartbeats 4000000 in
theorem rshaped_1 (vs : List Vr) (Av : Option Addr) (lv cv : Nat) (Ag : Option Addr) (lg cg : Nat) (Ay : Option Addr) (ly cy : Nat) (x1 v n o tn : Int) (At : Option Addr) (lt ct : Nat) (Ah : Option Addr) (lh ch : Nat) (Ae : Option Addr) (le ce : Nat) (Ab : Option Addr) (lb cb : Nat) (bs : List Int) (last : Bool) (b : Bool) (H : Hid (shapedB vs lg last 1 v n (zeroB o tn lt) lh le bs = b)) (w : World) (hv : VOk w Av lv cv vs) (hz : Zs w Ab lb cb bs) :
    Calls Tryz.prog 81 #[.agg #[.slice Av lv cv, .slice Ag lg cg, .slice Ay ly cy], .agg #[.int .i64 1, .int .i64 x1, .int .i64 v, .int .i64 n, .int .i64 o, .int .i64 tn, .slice At lt ct, .slice Ah lh ch, .slice Ae le ce, .slice Ab lb cb], .bool last] w fun e w' => e = .returned (.bool b) ∧ Below w.heap.size w w' := by
  have hlv : lv ≤ 9223372036854775807 := by have h1 := hv.cap; have h2 := hv.big; unfold maxLen at h2; omega
  have hlbm : lb ≤ 9223372036854775807 := by have h1 := hz.cap; have h2 := hz.big; unfold maxLen at h2; omega
  have hb1 := (Below.refl w.heap.size w).alloc (Nat.le_refl _) (.cells #[.slice Av lv cv, .slice Ag lg cg, .slice Ay ly cy] 26)
  have hb2 := hb1.alloc hb1.size (.cells #[.int .i64 1, .int .i64 x1, .int .i64 v, .int .i64 n, .int .i64 o, .int .i64 tn, .slice At lt ct, .slice Ah lh ch, .slice Ae le ce, .slice Ab lb cb] 56)
  have HB := Lib.hid hb2
  have HF := Lib.hid ((Cs.new w #[.slice Av lv cv, .slice Ag lg cg, .slice Ay ly cy] 26).alloc (.cells #[.int .i64 1, .int .i64 x1, .int .i64 v, .int .i64 n, .int .i64 o, .int .i64 tn, .slice At lt ct, .slice Ah lh ch, .slice Ae le ce, .slice Ab lb cb] 56))
  have HN := Lib.hid (Cs.new1 w (.cells #[.slice Av lv cv, .slice Ag lg cg, .slice Ay ly cy] 26) #[.int .i64 1, .int .i64 x1, .int .i64 v, .int .i64 n, .int .i64 o, .int .i64 tn, .slice At lt ct, .slice Ah lh ch, .slice Ae le ce, .slice Ab lb cb] 56)
  have HV := Lib.hid (hv.below hb2)
  have HVL := Lib.hid hv.len
  have HZB := Lib.hid (hz.below hb2)
  have HBL := Lib.hid hz.len
  obtain ⟨fr, hfr⟩ : ∃ z, (decide (lh = 0) && decide (le = 0)) = z := ⟨_, rfl⟩
  obtain ⟨lc, hlc⟩ : ∃ z, locB vs v = z := ⟨_, rfl⟩
  obtain ⟨z, hzz⟩ : ∃ z, zeroB o tn lt = z := ⟨_, rfl⟩
  have HX : Hid ((fr && (v == 0) && (n == 0) && decide (lb = 0)) = b) := by
    show _ = _
    rw [← H.out]; unfold shapedB
    rw [if_neg (by decide), if_pos rfl, hz.len, hfr]
  have HFR := Lib.hid hfr
  have HLC := Lib.hid hlc
  have HZZ := Lib.hid hzz
  clear hb1 hb2 hv hz hfr hlc hzz H
  go_enter Tryz.func81, Tryz.ntmps81
  go_upto_region 1 with fail
  obtain ⟨w2, hw2⟩ : ∃ w2, (w.alloc (.cells #[.slice Av lv cv, .slice Ag lg cg, .slice Ay ly cy] 26)).alloc (.cells #[.int .i64 1, .int .i64 x1, .int .i64 v, .int .i64 n, .int .i64 o, .int .i64 tn, .slice At lt ct, .slice Ah lh ch, .slice Ae le ce, .slice Ab lb cb] 56) = w2 := ⟨_, rfl⟩
  obtain ⟨p, hp⟩ : ∃ p, w.heap.size = p := ⟨_, rfl⟩
  obtain ⟨q, hq⟩ : ∃ q, p + 1 = q := ⟨_, rfl⟩
  rw [hw2] at HB HF HN HV HZB
  rw [hp] at HF HN
  rw [hq] at HN
  rw [hw2, hp, hq]
  clear hw2 hp hq
  have f0 := HF.out.at 0 _ rfl
  have f1 := HF.out.at 1 _ rfl
  have f2 := HF.out.at 2 _ rfl
  have n0 := HN.out.at 0 _ rfl
  have n1 := HN.out.at 1 _ rfl
  have n2 := HN.out.at 2 _ rfl
  have n3 := HN.out.at 3 _ rfl
  have n4 := HN.out.at 4 _ rfl
  have n5 := HN.out.at 5 _ rfl
  have n6 := HN.out.at 6 _ rfl
  have n7 := HN.out.at 7 _ rfl
  have n8 := HN.out.at 8 _ rfl
  have n9 := HN.out.at 9 _ rfl
  go_upto_region 1 with fail
  go_cut [7] from 7 to 18 (fun u wx => u = .bool fr ∧ w2 = wx)
  case first =>
    by_cases g1 : lh = 0
    · have q1 : (lh == 0) = true := by simpa using g1
      have q1i : ((lh : Int) == 0) = true := by rw [beq_iff_eq]; omega
      by_cases g2 : le = 0
      · have q2 : (le == 0) = true := by simpa using g2
        have q2i : ((le : Int) == 0) = true := by rw [beq_iff_eq]; omega
        have hf : fr = true := by rw [← HFR.out, decide_eq_true g1, decide_eq_true g2]; rfl
        subst hf
        clear g1 g2
        go_wp2_with fail
        go_meet
        case rel => exact ⟨rfl, rfl⟩
      · have q2 : (le == 0) = false := by simpa using g2
        have q2i : ((le : Int) == 0) = false := beq_of (by omega)
        have hf : fr = false := by rw [← HFR.out, decide_eq_false g2, Bool.and_false]
        subst hf
        clear g1 g2
        go_wp2_with fail
        go_meet
        case rel => exact ⟨rfl, rfl⟩
    · have q1 : (lh == 0) = false := by simpa using g1
      have q1i : ((lh : Int) == 0) = false := beq_of (by omega)
      have hf : fr = false := by rw [← HFR.out, decide_eq_false g1]; rfl
      subst hf
      clear g1
      go_wp2_with fail
      go_meet
      case rel => exact ⟨rfl, rfl⟩
  case rest =>
  obtain ⟨rfl, rfl⟩ := hcut
  go_upto_region 2 with fail
  go_cut [8] from 8 to 39 (fun u wx => u = .bool lc ∧ w2 = wx)
  case first =>
    have HLX : Hid ((decide (0 ≤ v) && (decide (v < (lv : Int)) && decide (((vs[v.toNat]?).map Vr.kind).getD 1 = 0))) = lc) := by show _ = _; rw [← HLC.out, locB, HVL.out]
    by_cases g1 : 0 ≤ v
    case neg =>
      have d1 : decide (0 ≤ v) = false := decide_eq_false g1
      have hf : lc = false := by rw [← HLX.out, d1]; rfl
      subst hf
      clear HLX
      go_wp2_with fail
      go_meet
      case rel => exact ⟨rfl, rfl⟩
    obtain ⟨i, rfl⟩ : ∃ i : Nat, v = i := ⟨v.toNat, by omega⟩
    have d1 : decide ((0 : Int) ≤ (i : Int)) = true := decide_eq_true g1
    by_cases g2 : i < lv
    case neg =>
      have d2 : decide (i < lv) = false := decide_eq_false g2
      have d2i : decide ((i : Int) < (lv : Int)) = false := decide_eq_false (by omega)
      have hf : lc = false := by rw [← HLX.out, d2i, Bool.false_and, Bool.and_false]
      subst hf
      clear HLX
      go_wp2_with fail
      go_meet
      case rel => exact ⟨rfl, rfl⟩
    have d2 : decide (i < lv) = true := decide_eq_true g2
    have d2i : decide ((i : Int) < (lv : Int)) = true := decide_eq_true (by omega)
    have g2i : (i : Int) < (lv : Int) := by omega
    obtain ⟨s, kd, lo, hi, ii, g, f, hvs, _, hA, hg, v0, v1, _⟩ := HV.out.at i g2
    subst hA
    have HL2 : Hid (decide (kd = 0) = lc) := by
      show _ = _
      rw [← HLX.out, d1, d2i, Int.toNat_natCast, hvs]; rfl
    clear HLX hvs v0
    by_cases g3 : kd = 0
    · have q3 : (kd == 0) = true := by rw [g3]; rfl
      have hf : lc = true := by rw [← HL2.out]; exact decide_eq_true g3
      subst hf
      clear HL2 g3
      go_wp2_with fail
      go_meet
      case rel => exact ⟨rfl, rfl⟩
    · have q3 := beq_of g3
      have hf : lc = false := by rw [← HL2.out]; exact decide_eq_false g3
      subst hf
      clear HL2 g3
      go_wp2_with fail
      go_meet
      case rel => exact ⟨rfl, rfl⟩
  case rest =>
  obtain ⟨rfl, rfl⟩ := hcut
  clear HFR HLC
  cases fr with
  | false =>
    have hb : b = false := by rw [← HX.out]; simp
    subst hb
    clear HX
    go_wp2_with fail
    go_ret
    exact ⟨rfl, HB.out⟩
  | true =>
    by_cases gv : v = 0
    case neg =>
      have qv := beq_of gv
      have hb : b = false := by rw [← HX.out]; simp [qv]
      subst hb
      clear HX
      go_wp2_with fail
      go_ret
      exact ⟨rfl, HB.out⟩
    have qv : (v == 0) = true := by rw [gv]; rfl
    clear gv
    by_cases gn : n = 0
    case neg =>
      have qn := beq_of gn
      have hb : b = false := by rw [← HX.out]; simp [qv, qn]
      subst hb
      clear HX
      go_wp2_with fail
      go_ret
      exact ⟨rfl, HB.out⟩
    have qn : (n == 0) = true := by rw [gn]; rfl
    clear gn
    by_cases glb : lb = 0
    case neg =>
      have qlb : decide (lb = 0) = false := decide_eq_false glb
      have qlbi : ((lb : Int) == 0) = false := beq_of (by omega)
      have qlbn : (lb == 0) = false := by simpa using glb
      have hb : b = false := by rw [← HX.out]; simp [qv, qn, qlb]
      subst hb
      clear HX
      go_wp2_with fail
      go_ret
      exact ⟨rfl, HB.out⟩
    have qlb : decide (lb = 0) = true := decide_eq_true glb
    have qlbi : ((lb : Int) == 0) = true := by rw [beq_iff_eq]; omega
    have qlbn : (lb == 0) = true := by simpa using glb
    clear glb
    have hb : b = true := by rw [← HX.out]; simp [qv, qn, qlb]
    subst hb
    clear HX
    go_wp2_with fail
    go_ret
    exact ⟨rfl, HB.out⟩

set_option maxRecDepth 100000 in
set_option maxHeartbeats 4000000 in
theorem rshaped_2 (vs : List Vr) (Av : Option Addr) (lv cv : Nat) (Ag : Option Addr) (lg cg : Nat) (Ay : Option Addr) (ly cy : Nat) (x1 v n o tn : Int) (At : Option Addr) (lt ct : Nat) (Ah : Option Addr) (lh ch : Nat) (Ae : Option Addr) (le ce : Nat) (Ab : Option Addr) (lb cb : Nat) (bs : List Int) (last : Bool) (b : Bool) (H : Hid (shapedB vs lg last 2 v n (zeroB o tn lt) lh le bs = b)) (w : World) (hv : VOk w Av lv cv vs) (hz : Zs w Ab lb cb bs) :
    Calls Tryz.prog 81 #[.agg #[.slice Av lv cv, .slice Ag lg cg, .slice Ay ly cy], .agg #[.int .i64 2, .int .i64 x1, .int .i64 v, .int .i64 n, .int .i64 o, .int .i64 tn, .slice At lt ct, .slice Ah lh ch, .slice Ae le ce, .slice Ab lb cb], .bool last] w fun e w' => e = .returned (.bool b) ∧ Below w.heap.size w w' := by
  have hlv : lv ≤ 9223372036854775807 := by have h1 := hv.cap; have h2 := hv.big; unfold maxLen at h2; omega
  have hlbm : lb ≤ 9223372036854775807 := by have h1 := hz.cap; have h2 := hz.big; unfold maxLen at h2; omega
  have hb1 := (Below.refl w.heap.size w).alloc (Nat.le_refl _) (.cells #[.slice Av lv cv, .slice Ag lg cg, .slice Ay ly cy] 26)
  have hb2 := hb1.alloc hb1.size (.cells #[.int .i64 2, .int .i64 x1, .int .i64 v, .int .i64 n, .int .i64 o, .int .i64 tn, .slice At lt ct, .slice Ah lh ch, .slice Ae le ce, .slice Ab lb cb] 56)
  have HB := Lib.hid hb2
  have HF := Lib.hid ((Cs.new w #[.slice Av lv cv, .slice Ag lg cg, .slice Ay ly cy] 26).alloc (.cells #[.int .i64 2, .int .i64 x1, .int .i64 v, .int .i64 n, .int .i64 o, .int .i64 tn, .slice At lt ct, .slice Ah lh ch, .slice Ae le ce, .slice Ab lb cb] 56))
  have HN := Lib.hid (Cs.new1 w (.cells #[.slice Av lv cv, .slice Ag lg cg, .slice Ay ly cy] 26) #[.int .i64 2, .int .i64 x1, .int .i64 v, .int .i64 n, .int .i64 o, .int .i64 tn, .slice At lt ct, .slice Ah lh ch, .slice Ae le ce, .slice Ab lb cb] 56)
  have HV := Lib.hid (hv.below hb2)
  have HVL := Lib.hid hv.len
  have HZB := Lib.hid (hz.below hb2)
  have HBL := Lib.hid hz.len
  obtain ⟨fr, hfr⟩ : ∃ z, (decide (lh = 0) && decide (le = 0)) = z := ⟨_, rfl⟩
  obtain ⟨lc, hlc⟩ : ∃ z, locB vs v = z := ⟨_, rfl⟩
  obtain ⟨z, hzz⟩ : ∃ z, zeroB o tn lt = z := ⟨_, rfl⟩
  have HX : Hid ((fr && (v == 0) && (n == 0) && decide (lb = 0) && z) = b) := by
    show _ = _
    rw [← H.out]; unfold shapedB
    rw [if_neg (by decide), if_neg (by decide), if_pos rfl, hz.len, hfr, hzz]
  have HFR := Lib.hid hfr
  have HLC := Lib.hid hlc
  have HZZ := Lib.hid hzz
  clear hb1 hb2 hv hz hfr hlc hzz H
  go_enter Tryz.func81, Tryz.ntmps81
  go_upto_region 1 with fail
  obtain ⟨w2, hw2⟩ : ∃ w2, (w.alloc (.cells #[.slice Av lv cv, .slice Ag lg cg, .slice Ay ly cy] 26)).alloc (.cells #[.int .i64 2, .int .i64 x1, .int .i64 v, .int .i64 n, .int .i64 o, .int .i64 tn, .slice At lt ct, .slice Ah lh ch, .slice Ae le ce, .slice Ab lb cb] 56) = w2 := ⟨_, rfl⟩
  obtain ⟨p, hp⟩ : ∃ p, w.heap.size = p := ⟨_, rfl⟩
  obtain ⟨q, hq⟩ : ∃ q, p + 1 = q := ⟨_, rfl⟩
  rw [hw2] at HB HF HN HV HZB
  rw [hp] at HF HN
  rw [hq] at HN
  rw [hw2, hp, hq]
  clear hw2 hp hq
  have f0 := HF.out.at 0 _ rfl
  have f1 := HF.out.at 1 _ rfl
  have f2 := HF.out.at 2 _ rfl
  have n0 := HN.out.at 0 _ rfl
  have n1 := HN.out.at 1 _ rfl
  have n2 := HN.out.at 2 _ rfl
  have n3 := HN.out.at 3 _ rfl
  have n4 := HN.out.at 4 _ rfl
  have n5 := HN.out.at 5 _ rfl
  have n6 := HN.out.at 6 _ rfl
  have n7 := HN.out.at 7 _ rfl
  have n8 := HN.out.at 8 _ rfl
  have n9 := HN.out.at 9 _ rfl
  go_upto_region 1 with fail
  go_cut [7] from 7 to 18 (fun u wx => u = .bool fr ∧ w2 = wx)
  case first =>
    by_cases g1 : lh = 0
    · have q1 : (lh == 0) = true := by simpa using g1
      have q1i : ((lh : Int) == 0) = true := by rw [beq_iff_eq]; omega
      by_cases g2 : le = 0
      · have q2 : (le == 0) = true := by simpa using g2
        have q2i : ((le : Int) == 0) = true := by rw [beq_iff_eq]; omega
        have hf : fr = true := by rw [← HFR.out, decide_eq_true g1, decide_eq_true g2]; rfl
        subst hf
        clear g1 g2
        go_wp2_with fail
        go_meet
        case rel => exact ⟨rfl, rfl⟩
      · have q2 : (le == 0) = false := by simpa using g2
        have q2i : ((le : Int) == 0) = false := beq_of (by omega)
        have hf : fr = false := by rw [← HFR.out, decide_eq_false g2, Bool.and_false]
        subst hf
        clear g1 g2
        go_wp2_with fail
        go_meet
        case rel => exact ⟨rfl, rfl⟩
    · have q1 : (lh == 0) = false := by simpa using g1
      have q1i : ((lh : Int) == 0) = false := beq_of (by omega)
      have hf : fr = false := by rw [← HFR.out, decide_eq_false g1]; rfl
      subst hf
      clear g1
      go_wp2_with fail
      go_meet
      case rel => exact ⟨rfl, rfl⟩
  case rest =>
  obtain ⟨rfl, rfl⟩ := hcut
  go_upto_region 2 with fail
  go_cut [8] from 8 to 39 (fun u wx => u = .bool lc ∧ w2 = wx)
  case first =>
    have HLX : Hid ((decide (0 ≤ v) && (decide (v < (lv : Int)) && decide (((vs[v.toNat]?).map Vr.kind).getD 1 = 0))) = lc) := by show _ = _; rw [← HLC.out, locB, HVL.out]
    by_cases g1 : 0 ≤ v
    case neg =>
      have d1 : decide (0 ≤ v) = false := decide_eq_false g1
      have hf : lc = false := by rw [← HLX.out, d1]; rfl
      subst hf
      clear HLX
      go_wp2_with fail
      go_meet
      case rel => exact ⟨rfl, rfl⟩
    obtain ⟨i, rfl⟩ : ∃ i : Nat, v = i := ⟨v.toNat, by omega⟩
    have d1 : decide ((0 : Int) ≤ (i : Int)) = true := decide_eq_true g1
    by_cases g2 : i < lv
    case neg =>
      have d2 : decide (i < lv) = false := decide_eq_false g2
      have d2i : decide ((i : Int) < (lv : Int)) = false := decide_eq_false (by omega)
      have hf : lc = false := by rw [← HLX.out, d2i, Bool.false_and, Bool.and_false]
      subst hf
      clear HLX
      go_wp2_with fail
      go_meet
      case rel => exact ⟨rfl, rfl⟩
    have d2 : decide (i < lv) = true := decide_eq_true g2
    have d2i : decide ((i : Int) < (lv : Int)) = true := decide_eq_true (by omega)
    have g2i : (i : Int) < (lv : Int) := by omega
    obtain ⟨s, kd, lo, hi, ii, g, f, hvs, _, hA, hg, v0, v1, _⟩ := HV.out.at i g2
    subst hA
    have HL2 : Hid (decide (kd = 0) = lc) := by
      show _ = _
      rw [← HLX.out, d1, d2i, Int.toNat_natCast, hvs]; rfl
    clear HLX hvs v0
    by_cases g3 : kd = 0
    · have q3 : (kd == 0) = true := by rw [g3]; rfl
      have hf : lc = true := by rw [← HL2.out]; exact decide_eq_true g3
      subst hf
      clear HL2 g3
      go_wp2_with fail
      go_meet
      case rel => exact ⟨rfl, rfl⟩
    · have q3 := beq_of g3
      have hf : lc = false := by rw [← HL2.out]; exact decide_eq_false g3
      subst hf
      clear HL2 g3
      go_wp2_with fail
      go_meet
      case rel => exact ⟨rfl, rfl⟩
  case rest =>
  obtain ⟨rfl, rfl⟩ := hcut
  clear HFR HLC
  cases fr with
  | false =>
    have hb : b = false := by rw [← HX.out]; simp
    subst hb
    clear HX
    go_wp2_with fail
    go_ret
    exact ⟨rfl, HB.out⟩
  | true =>
    by_cases gv : v = 0
    case neg =>
      have qv := beq_of gv
      have hb : b = false := by rw [← HX.out]; simp [qv]
      subst hb
      clear HX
      go_wp2_with fail
      go_ret
      exact ⟨rfl, HB.out⟩
    have qv : (v == 0) = true := by rw [gv]; rfl
    clear gv
    by_cases gn : n = 0
    case neg =>
      have qn := beq_of gn
      have hb : b = false := by rw [← HX.out]; simp [qv, qn]
      subst hb
      clear HX
      go_wp2_with fail
      go_ret
      exact ⟨rfl, HB.out⟩
    have qn : (n == 0) = true := by rw [gn]; rfl
    clear gn
    by_cases glb : lb = 0
    case neg =>
      have qlb : decide (lb = 0) = false := decide_eq_false glb
      have qlbi : ((lb : Int) == 0) = false := beq_of (by omega)
      have qlbn : (lb == 0) = false := by simpa using glb
      have hb : b = false := by rw [← HX.out]; simp [qv, qn, qlb]
      subst hb
      clear HX
      go_wp2_with fail
      go_ret
      exact ⟨rfl, HB.out⟩
    have qlb : decide (lb = 0) = true := decide_eq_true glb
    have qlbi : ((lb : Int) == 0) = true := by rw [beq_iff_eq]; omega
    have qlbn : (lb == 0) = true := by simpa using glb
    clear glb
    go_wp2_with fail
    go_at_call 100
    refine (rplain_b o tn At lt ct z HZZ _).mono ?_
    rintro e w3 ⟨rfl, hb3⟩
    have HB3 := Lib.hid (HB.out.trans (hb3.mono HB.out.size))
    have HN3 := Lib.hid (HN.out.next hb3)
    have HZB3 := Lib.hid (HZB.out.below hb3)
    clear hb3 n0 n1 n2 n3 n4 n5 n6 n7 n8 n9
    have n0 := HN3.out.at 0 _ rfl
    have n1 := HN3.out.at 1 _ rfl
    have n2 := HN3.out.at 2 _ rfl
    have n3 := HN3.out.at 3 _ rfl
    have n4 := HN3.out.at 4 _ rfl
    have n5 := HN3.out.at 5 _ rfl
    have n6 := HN3.out.at 6 _ rfl
    have n7 := HN3.out.at 7 _ rfl
    have n8 := HN3.out.at 8 _ rfl
    have n9 := HN3.out.at 9 _ rfl
    cases z with
    | false =>
      have hb : b = false := by rw [← HX.out]; simp [qv, qn, qlb]
      subst hb
      clear HX
      go_wp2_with fail
      go_ret
      exact ⟨rfl, HB3.out⟩
    | true =>
      have hb : b = true := by rw [← HX.out]; simp [qv, qn, qlb]
      subst hb
      clear HX
      go_wp2_with fail
      go_ret
      exact ⟨rfl, HB3.out⟩

set_option maxRecDepth 100000 in
set_option maxHeartbeats 4000000 in
theorem rshaped_3 (vs : List Vr) (Av : Option Addr) (lv cv : Nat) (Ag : Option Addr) (lg cg : Nat) (Ay : Option Addr) (ly cy : Nat) (x1 v n o tn : Int) (At : Option Addr) (lt ct : Nat) (Ah : Option Addr) (lh ch : Nat) (Ae : Option Addr) (le ce : Nat) (Ab : Option Addr) (lb cb : Nat) (bs : List Int) (last : Bool) (b : Bool) (H : Hid (shapedB vs lg last 3 v n (zeroB o tn lt) lh le bs = b)) (w : World) (hv : VOk w Av lv cv vs) (hz : Zs w Ab lb cb bs) :
    Calls Tryz.prog 81 #[.agg #[.slice Av lv cv, .slice Ag lg cg, .slice Ay ly cy], .agg #[.int .i64 3, .int .i64 x1, .int .i64 v, .int .i64 n, .int .i64 o, .int .i64 tn, .slice At lt ct, .slice Ah lh ch, .slice Ae le ce, .slice Ab lb cb], .bool last] w fun e w' => e = .returned (.bool b) ∧ Below w.heap.size w w' := by
  have hlv : lv ≤ 9223372036854775807 := by have h1 := hv.cap; have h2 := hv.big; unfold maxLen at h2; omega
  have hlbm : lb ≤ 9223372036854775807 := by have h1 := hz.cap; have h2 := hz.big; unfold maxLen at h2; omega
  have hb1 := (Below.refl w.heap.size w).alloc (Nat.le_refl _) (.cells #[.slice Av lv cv, .slice Ag lg cg, .slice Ay ly cy] 26)
  have hb2 := hb1.alloc hb1.size (.cells #[.int .i64 3, .int .i64 x1, .int .i64 v, .int .i64 n, .int .i64 o, .int .i64 tn, .slice At lt ct, .slice Ah lh ch, .slice Ae le ce, .slice Ab lb cb] 56)
  have HB := Lib.hid hb2
  have HF := Lib.hid ((Cs.new w #[.slice Av lv cv, .slice Ag lg cg, .slice Ay ly cy] 26).alloc (.cells #[.int .i64 3, .int .i64 x1, .int .i64 v, .int .i64 n, .int .i64 o, .int .i64 tn, .slice At lt ct, .slice Ah lh ch, .slice Ae le ce, .slice Ab lb cb] 56))
  have HN := Lib.hid (Cs.new1 w (.cells #[.slice Av lv cv, .slice Ag lg cg, .slice Ay ly cy] 26) #[.int .i64 3, .int .i64 x1, .int .i64 v, .int .i64 n, .int .i64 o, .int .i64 tn, .slice At lt ct, .slice Ah lh ch, .slice Ae le ce, .slice Ab lb cb] 56)
  have HV := Lib.hid (hv.below hb2)
  have HVL := Lib.hid hv.len
  have HZB := Lib.hid (hz.below hb2)
  have HBL := Lib.hid hz.len
  obtain ⟨fr, hfr⟩ : ∃ z, (decide (lh = 0) && decide (le = 0)) = z := ⟨_, rfl⟩
  obtain ⟨lc, hlc⟩ : ∃ z, locB vs v = z := ⟨_, rfl⟩
  obtain ⟨z, hzz⟩ : ∃ z, zeroB o tn lt = z := ⟨_, rfl⟩
  have HX : Hid (((v == 0) && (n == 0) && decide (lb = 0)) = b) := by
    show _ = _
    rw [← H.out]; unfold shapedB
    rw [if_neg (by decide), if_neg (by decide), if_neg (by decide), if_pos rfl, hz.len]
  have HFR := Lib.hid hfr
  have HLC := Lib.hid hlc
  have HZZ := Lib.hid hzz
  clear hb1 hb2 hv hz hfr hlc hzz H
  go_enter Tryz.func81, Tryz.ntmps81
  go_upto_region 1 with fail
  obtain ⟨w2, hw2⟩ : ∃ w2, (w.alloc (.cells #[.slice Av lv cv, .slice Ag lg cg, .slice Ay ly cy] 26)).alloc (.cells #[.int .i64 3, .int .i64 x1, .int .i64 v, .int .i64 n, .int .i64 o, .int .i64 tn, .slice At lt ct, .slice Ah lh ch, .slice Ae le ce, .slice Ab lb cb] 56) = w2 := ⟨_, rfl⟩
  obtain ⟨p, hp⟩ : ∃ p, w.heap.size = p := ⟨_, rfl⟩
  obtain ⟨q, hq⟩ : ∃ q, p + 1 = q := ⟨_, rfl⟩
  rw [hw2] at HB HF HN HV HZB
  rw [hp] at HF HN
  rw [hq] at HN
  rw [hw2, hp, hq]
  clear hw2 hp hq
  have f0 := HF.out.at 0 _ rfl
  have f1 := HF.out.at 1 _ rfl
  have f2 := HF.out.at 2 _ rfl
  have n0 := HN.out.at 0 _ rfl
  have n1 := HN.out.at 1 _ rfl
  have n2 := HN.out.at 2 _ rfl
  have n3 := HN.out.at 3 _ rfl
  have n4 := HN.out.at 4 _ rfl
  have n5 := HN.out.at 5 _ rfl
  have n6 := HN.out.at 6 _ rfl
  have n7 := HN.out.at 7 _ rfl
  have n8 := HN.out.at 8 _ rfl
  have n9 := HN.out.at 9 _ rfl
  go_upto_region 1 with fail
  go_cut [7] from 7 to 18 (fun u wx => u = .bool fr ∧ w2 = wx)
  case first =>
    by_cases g1 : lh = 0
    · have q1 : (lh == 0) = true := by simpa using g1
      have q1i : ((lh : Int) == 0) = true := by rw [beq_iff_eq]; omega
      by_cases g2 : le = 0
      · have q2 : (le == 0) = true := by simpa using g2
        have q2i : ((le : Int) == 0) = true := by rw [beq_iff_eq]; omega
        have hf : fr = true := by rw [← HFR.out, decide_eq_true g1, decide_eq_true g2]; rfl
        subst hf
        clear g1 g2
        go_wp2_with fail
        go_meet
        case rel => exact ⟨rfl, rfl⟩
      · have q2 : (le == 0) = false := by simpa using g2
        have q2i : ((le : Int) == 0) = false := beq_of (by omega)
        have hf : fr = false := by rw [← HFR.out, decide_eq_false g2, Bool.and_false]
        subst hf
        clear g1 g2
        go_wp2_with fail
        go_meet
        case rel => exact ⟨rfl, rfl⟩
    · have q1 : (lh == 0) = false := by simpa using g1
      have q1i : ((lh : Int) == 0) = false := beq_of (by omega)
      have hf : fr = false := by rw [← HFR.out, decide_eq_false g1]; rfl
      subst hf
      clear g1
      go_wp2_with fail
      go_meet
      case rel => exact ⟨rfl, rfl⟩
  case rest =>
  obtain ⟨rfl, rfl⟩ := hcut
  go_upto_region 2 with fail
  go_cut [8] from 8 to 39 (fun u wx => u = .bool lc ∧ w2 = wx)
  case first =>
    have HLX : Hid ((decide (0 ≤ v) && (decide (v < (lv : Int)) && decide (((vs[v.toNat]?).map Vr.kind).getD 1 = 0))) = lc) := by show _ = _; rw [← HLC.out, locB, HVL.out]
    by_cases g1 : 0 ≤ v
    case neg =>
      have d1 : decide (0 ≤ v) = false := decide_eq_false g1
      have hf : lc = false := by rw [← HLX.out, d1]; rfl
      subst hf
      clear HLX
      go_wp2_with fail
      go_meet
      case rel => exact ⟨rfl, rfl⟩
    obtain ⟨i, rfl⟩ : ∃ i : Nat, v = i := ⟨v.toNat, by omega⟩
    have d1 : decide ((0 : Int) ≤ (i : Int)) = true := decide_eq_true g1
    by_cases g2 : i < lv
    case neg =>
      have d2 : decide (i < lv) = false := decide_eq_false g2
      have d2i : decide ((i : Int) < (lv : Int)) = false := decide_eq_false (by omega)
      have hf : lc = false := by rw [← HLX.out, d2i, Bool.false_and, Bool.and_false]
      subst hf
      clear HLX
      go_wp2_with fail
      go_meet
      case rel => exact ⟨rfl, rfl⟩
    have d2 : decide (i < lv) = true := decide_eq_true g2
    have d2i : decide ((i : Int) < (lv : Int)) = true := decide_eq_true (by omega)
    have g2i : (i : Int) < (lv : Int) := by omega
    obtain ⟨s, kd, lo, hi, ii, g, f, hvs, _, hA, hg, v0, v1, _⟩ := HV.out.at i g2
    subst hA
    have HL2 : Hid (decide (kd = 0) = lc) := by
      show _ = _
      rw [← HLX.out, d1, d2i, Int.toNat_natCast, hvs]; rfl
    clear HLX hvs v0
    by_cases g3 : kd = 0
    · have q3 : (kd == 0) = true := by rw [g3]; rfl
      have hf : lc = true := by rw [← HL2.out]; exact decide_eq_true g3
      subst hf
      clear HL2 g3
      go_wp2_with fail
      go_meet
      case rel => exact ⟨rfl, rfl⟩
    · have q3 := beq_of g3
      have hf : lc = false := by rw [← HL2.out]; exact decide_eq_false g3
      subst hf
      clear HL2 g3
      go_wp2_with fail
      go_meet
      case rel => exact ⟨rfl, rfl⟩
  case rest =>
  obtain ⟨rfl, rfl⟩ := hcut
  clear HFR HLC
  by_cases gv : v = 0
  case neg =>
    have qv := beq_of gv
    have hb : b = false := by rw [← HX.out]; simp [qv]
    subst hb
    clear HX
    go_wp2_with fail
    go_ret
    exact ⟨rfl, HB.out⟩
  have qv : (v == 0) = true := by rw [gv]; rfl
  clear gv
  by_cases gn : n = 0
  case neg =>
    have qn := beq_of gn
    have hb : b = false := by rw [← HX.out]; simp [qv, qn]
    subst hb
    clear HX
    go_wp2_with fail
    go_ret
    exact ⟨rfl, HB.out⟩
  have qn : (n == 0) = true := by rw [gn]; rfl
  clear gn
  by_cases glb : lb = 0
  case neg =>
    have qlb : decide (lb = 0) = false := decide_eq_false glb
    have qlbi : ((lb : Int) == 0) = false := beq_of (by omega)
    have qlbn : (lb == 0) = false := by simpa using glb
    have hb : b = false := by rw [← HX.out]; simp [qv, qn, qlb]
    subst hb
    clear HX
    go_wp2_with fail
    go_ret
    exact ⟨rfl, HB.out⟩
  have qlb : decide (lb = 0) = true := decide_eq_true glb
  have qlbi : ((lb : Int) == 0) = true := by rw [beq_iff_eq]; omega
  have qlbn : (lb == 0) = true := by simpa using glb
  clear glb
  have hb : b = true := by rw [← HX.out]; simp [qv, qn, qlb]
  subst hb
  clear HX
  go_wp2_with fail
  go_ret
  exact ⟨rfl, HB.out⟩

set_option maxRecDepth 100000 in
set_option maxHeartbeats 4000000 in
theorem rshaped_4 (vs : List Vr) (Av : Option Addr) (lv cv : Nat) (Ag : Option Addr) (lg cg : Nat) (Ay : Option Addr) (ly cy : Nat) (x1 v n o tn : Int) (At : Option Addr) (lt ct : Nat) (Ah : Option Addr) (lh ch : Nat) (Ae : Option Addr) (le ce : Nat) (Ab : Option Addr) (lb cb : Nat) (bs : List Int) (last : Bool) (b : Bool) (H : Hid (shapedB vs lg last 4 v n (zeroB o tn lt) lh le bs = b)) (w : World) (hv : VOk w Av lv cv vs) (hz : Zs w Ab lb cb bs) :
    Calls Tryz.prog 81 #[.agg #[.slice Av lv cv, .slice Ag lg cg, .slice Ay ly cy], .agg #[.int .i64 4, .int .i64 x1, .int .i64 v, .int .i64 n, .int .i64 o, .int .i64 tn, .slice At lt ct, .slice Ah lh ch, .slice Ae le ce, .slice Ab lb cb], .bool last] w fun e w' => e = .returned (.bool b) ∧ Below w.heap.size w w' := by
  have hlv : lv ≤ 9223372036854775807 := by have h1 := hv.cap; have h2 := hv.big; unfold maxLen at h2; omega
  have hlbm : lb ≤ 9223372036854775807 := by have h1 := hz.cap; have h2 := hz.big; unfold maxLen at h2; omega
  have hb1 := (Below.refl w.heap.size w).alloc (Nat.le_refl _) (.cells #[.slice Av lv cv, .slice Ag lg cg, .slice Ay ly cy] 26)
  have hb2 := hb1.alloc hb1.size (.cells #[.int .i64 4, .int .i64 x1, .int .i64 v, .int .i64 n, .int .i64 o, .int .i64 tn, .slice At lt ct, .slice Ah lh ch, .slice Ae le ce, .slice Ab lb cb] 56)
  have HB := Lib.hid hb2
  have HF := Lib.hid ((Cs.new w #[.slice Av lv cv, .slice Ag lg cg, .slice Ay ly cy] 26).alloc (.cells #[.int .i64 4, .int .i64 x1, .int .i64 v, .int .i64 n, .int .i64 o, .int .i64 tn, .slice At lt ct, .slice Ah lh ch, .slice Ae le ce, .slice Ab lb cb] 56))
  have HN := Lib.hid (Cs.new1 w (.cells #[.slice Av lv cv, .slice Ag lg cg, .slice Ay ly cy] 26) #[.int .i64 4, .int .i64 x1, .int .i64 v, .int .i64 n, .int .i64 o, .int .i64 tn, .slice At lt ct, .slice Ah lh ch, .slice Ae le ce, .slice Ab lb cb] 56)
  have HV := Lib.hid (hv.below hb2)
  have HVL := Lib.hid hv.len
  have HZB := Lib.hid (hz.below hb2)
  have HBL := Lib.hid hz.len
  obtain ⟨fr, hfr⟩ : ∃ z, (decide (lh = 0) && decide (le = 0)) = z := ⟨_, rfl⟩
  obtain ⟨lc, hlc⟩ : ∃ z, locB vs v = z := ⟨_, rfl⟩
  obtain ⟨z, hzz⟩ : ∃ z, zeroB o tn lt = z := ⟨_, rfl⟩
  have HX : Hid (((v == 0) && decide (le = 0) && decide (lb = 0)) = b) := by
    show _ = _
    rw [← H.out]; unfold shapedB
    rw [if_neg (by decide), if_neg (by decide), if_neg (by decide), if_neg (by decide), if_pos rfl, hz.len]
  have HFR := Lib.hid hfr
  have HLC := Lib.hid hlc
  have HZZ := Lib.hid hzz
  clear hb1 hb2 hv hz hfr hlc hzz H
  go_enter Tryz.func81, Tryz.ntmps81
  go_upto_region 1 with fail
  obtain ⟨w2, hw2⟩ : ∃ w2, (w.alloc (.cells #[.slice Av lv cv, .slice Ag lg cg, .slice Ay ly cy] 26)).alloc (.cells #[.int .i64 4, .int .i64 x1, .int .i64 v, .int .i64 n, .int .i64 o, .int .i64 tn, .slice At lt ct, .slice Ah lh ch, .slice Ae le ce, .slice Ab lb cb] 56) = w2 := ⟨_, rfl⟩
  obtain ⟨p, hp⟩ : ∃ p, w.heap.size = p := ⟨_, rfl⟩
  obtain ⟨q, hq⟩ : ∃ q, p + 1 = q := ⟨_, rfl⟩
  rw [hw2] at HB HF HN HV HZB
  rw [hp] at HF HN
  rw [hq] at HN
  rw [hw2, hp, hq]
  clear hw2 hp hq
  have f0 := HF.out.at 0 _ rfl
  have f1 := HF.out.at 1 _ rfl
  have f2 := HF.out.at 2 _ rfl
  have n0 := HN.out.at 0 _ rfl
  have n1 := HN.out.at 1 _ rfl
  have n2 := HN.out.at 2 _ rfl
  have n3 := HN.out.at 3 _ rfl
  have n4 := HN.out.at 4 _ rfl
  have n5 := HN.out.at 5 _ rfl
  have n6 := HN.out.at 6 _ rfl
  have n7 := HN.out.at 7 _ rfl
  have n8 := HN.out.at 8 _ rfl
  have n9 := HN.out.at 9 _ rfl
  go_upto_region 1 with fail
  go_cut [7] from 7 to 18 (fun u wx => u = .bool fr ∧ w2 = wx)
  case first =>
    by_cases g1 : lh = 0
    · have q1 : (lh == 0) = true := by simpa using g1
      have q1i : ((lh : Int) == 0) = true := by rw [beq_iff_eq]; omega
      by_cases g2 : le = 0
      · have q2 : (le == 0) = true := by simpa using g2
        have q2i : ((le : Int) == 0) = true := by rw [beq_iff_eq]; omega
        have hf : fr = true := by rw [← HFR.out, decide_eq_true g1, decide_eq_true g2]; rfl
        subst hf
        clear g1 g2
        go_wp2_with fail
        go_meet
        case rel => exact ⟨rfl, rfl⟩
      · have q2 : (le == 0) = false := by simpa using g2
        have q2i : ((le : Int) == 0) = false := beq_of (by omega)
        have hf : fr = false := by rw [← HFR.out, decide_eq_false g2, Bool.and_false]
        subst hf
        clear g1 g2
        go_wp2_with fail
        go_meet
        case rel => exact ⟨rfl, rfl⟩
    · have q1 : (lh == 0) = false := by simpa using g1
      have q1i : ((lh : Int) == 0) = false := beq_of (by omega)
      have hf : fr = false := by rw [← HFR.out, decide_eq_false g1]; rfl
      subst hf
      clear g1
      go_wp2_with fail
      go_meet
      case rel => exact ⟨rfl, rfl⟩
  case rest =>
  obtain ⟨rfl, rfl⟩ := hcut
  go_upto_region 2 with fail
  go_cut [8] from 8 to 39 (fun u wx => u = .bool lc ∧ w2 = wx)
  case first =>
    have HLX : Hid ((decide (0 ≤ v) && (decide (v < (lv : Int)) && decide (((vs[v.toNat]?).map Vr.kind).getD 1 = 0))) = lc) := by show _ = _; rw [← HLC.out, locB, HVL.out]
    by_cases g1 : 0 ≤ v
    case neg =>
      have d1 : decide (0 ≤ v) = false := decide_eq_false g1
      have hf : lc = false := by rw [← HLX.out, d1]; rfl
      subst hf
      clear HLX
      go_wp2_with fail
      go_meet
      case rel => exact ⟨rfl, rfl⟩
    obtain ⟨i, rfl⟩ : ∃ i : Nat, v = i := ⟨v.toNat, by omega⟩
    have d1 : decide ((0 : Int) ≤ (i : Int)) = true := decide_eq_true g1
    by_cases g2 : i < lv
    case neg =>
      have d2 : decide (i < lv) = false := decide_eq_false g2
      have d2i : decide ((i : Int) < (lv : Int)) = false := decide_eq_false (by omega)
      have hf : lc = false := by rw [← HLX.out, d2i, Bool.false_and, Bool.and_false]
      subst hf
      clear HLX
      go_wp2_with fail
      go_meet
      case rel => exact ⟨rfl, rfl⟩
    have d2 : decide (i < lv) = true := decide_eq_true g2
    have d2i : decide ((i : Int) < (lv : Int)) = true := decide_eq_true (by omega)
    have g2i : (i : Int) < (lv : Int) := by omega
    obtain ⟨s, kd, lo, hi, ii, g, f, hvs, _, hA, hg, v0, v1, _⟩ := HV.out.at i g2
    subst hA
    have HL2 : Hid (decide (kd = 0) = lc) := by
      show _ = _
      rw [← HLX.out, d1, d2i, Int.toNat_natCast, hvs]; rfl
    clear HLX hvs v0
    by_cases g3 : kd = 0
    · have q3 : (kd == 0) = true := by rw [g3]; rfl
      have hf : lc = true := by rw [← HL2.out]; exact decide_eq_true g3
      subst hf
      clear HL2 g3
      go_wp2_with fail
      go_meet
      case rel => exact ⟨rfl, rfl⟩
    · have q3 := beq_of g3
      have hf : lc = false := by rw [← HL2.out]; exact decide_eq_false g3
      subst hf
      clear HL2 g3
      go_wp2_with fail
      go_meet
      case rel => exact ⟨rfl, rfl⟩
  case rest =>
  obtain ⟨rfl, rfl⟩ := hcut
  clear HFR HLC
  by_cases gv : v = 0
  case neg =>
    have qv := beq_of gv
    have hb : b = false := by rw [← HX.out]; simp [qv]
    subst hb
    clear HX
    go_wp2_with fail
    go_ret
    exact ⟨rfl, HB.out⟩
  have qv : (v == 0) = true := by rw [gv]; rfl
  clear gv
  by_cases gle : le = 0
  case neg =>
    have qle : decide (le = 0) = false := decide_eq_false gle
    have qlei : ((le : Int) == 0) = false := beq_of (by omega)
    have qlen : (le == 0) = false := by simpa using gle
    have hb : b = false := by rw [← HX.out]; simp [qv, qle]
    subst hb
    clear HX
    go_wp2_with fail
    go_ret
    exact ⟨rfl, HB.out⟩
  have qle : decide (le = 0) = true := decide_eq_true gle
  have qlei : ((le : Int) == 0) = true := by rw [beq_iff_eq]; omega
  have qlen : (le == 0) = true := by simpa using gle
  clear gle
  by_cases glb : lb = 0
  case neg =>
    have qlb : decide (lb = 0) = false := decide_eq_false glb
    have qlbi : ((lb : Int) == 0) = false := beq_of (by omega)
    have qlbn : (lb == 0) = false := by simpa using glb
    have hb : b = false := by rw [← HX.out]; simp [qv, qle, qlb]
    subst hb
    clear HX
    go_wp2_with fail
    go_ret
    exact ⟨rfl, HB.out⟩
  have qlb : decide (lb = 0) = true := decide_eq_true glb
  have qlbi : ((lb : Int) == 0) = true := by rw [beq_iff_eq]; omega
  have qlbn : (lb == 0) = true := by simpa using glb
  clear glb
  have hb : b = true := by rw [← HX.out]; simp [qv, qle, qlb]
  subst hb
  clear HX
  go_wp2_with fail
  go_ret
  exact ⟨rfl, HB.out⟩

set_option maxRecDepth 100000 in
set_option maxHeartbeats 4000000 in
theorem rshaped_5 (vs : List Vr) (Av : Option Addr) (lv cv : Nat) (Ag : Option Addr) (lg cg : Nat) (Ay : Option Addr) (ly cy : Nat) (x1 v n o tn : Int) (At : Option Addr) (lt ct : Nat) (Ah : Option Addr) (lh ch : Nat) (Ae : Option Addr) (le ce : Nat) (Ab : Option Addr) (lb cb : Nat) (bs : List Int) (last : Bool) (b : Bool) (H : Hid (shapedB vs lg last 5 v n (zeroB o tn lt) lh le bs = b)) (w : World) (hv : VOk w Av lv cv vs) (hz : Zs w Ab lb cb bs) :
    Calls Tryz.prog 81 #[.agg #[.slice Av lv cv, .slice Ag lg cg, .slice Ay ly cy], .agg #[.int .i64 5, .int .i64 x1, .int .i64 v, .int .i64 n, .int .i64 o, .int .i64 tn, .slice At lt ct, .slice Ah lh ch, .slice Ae le ce, .slice Ab lb cb], .bool last] w fun e w' => e = .returned (.bool b) ∧ Below w.heap.size w w' := by
  have hlv : lv ≤ 9223372036854775807 := by have h1 := hv.cap; have h2 := hv.big; unfold maxLen at h2; omega
  have hlbm : lb ≤ 9223372036854775807 := by have h1 := hz.cap; have h2 := hz.big; unfold maxLen at h2; omega
  have hb1 := (Below.refl w.heap.size w).alloc (Nat.le_refl _) (.cells #[.slice Av lv cv, .slice Ag lg cg, .slice Ay ly cy] 26)
  have hb2 := hb1.alloc hb1.size (.cells #[.int .i64 5, .int .i64 x1, .int .i64 v, .int .i64 n, .int .i64 o, .int .i64 tn, .slice At lt ct, .slice Ah lh ch, .slice Ae le ce, .slice Ab lb cb] 56)
  have HB := Lib.hid hb2
  have HF := Lib.hid ((Cs.new w #[.slice Av lv cv, .slice Ag lg cg, .slice Ay ly cy] 26).alloc (.cells #[.int .i64 5, .int .i64 x1, .int .i64 v, .int .i64 n, .int .i64 o, .int .i64 tn, .slice At lt ct, .slice Ah lh ch, .slice Ae le ce, .slice Ab lb cb] 56))
  have HN := Lib.hid (Cs.new1 w (.cells #[.slice Av lv cv, .slice Ag lg cg, .slice Ay ly cy] 26) #[.int .i64 5, .int .i64 x1, .int .i64 v, .int .i64 n, .int .i64 o, .int .i64 tn, .slice At lt ct, .slice Ah lh ch, .slice Ae le ce, .slice Ab lb cb] 56)
  have HV := Lib.hid (hv.below hb2)
  have HVL := Lib.hid hv.len
  have HZB := Lib.hid (hz.below hb2)
  have HBL := Lib.hid hz.len
  obtain ⟨fr, hfr⟩ : ∃ z, (decide (lh = 0) && decide (le = 0)) = z := ⟨_, rfl⟩
  obtain ⟨lc, hlc⟩ : ∃ z, locB vs v = z := ⟨_, rfl⟩
  obtain ⟨z, hzz⟩ : ∃ z, zeroB o tn lt = z := ⟨_, rfl⟩
  have HX : Hid ((fr && lc && decide (0 ≤ n) && decide (n < (lg : Int)) && decide (lb = 0) && z) = b) := by
    show _ = _
    rw [← H.out]; unfold shapedB
    rw [if_neg (by decide), if_neg (by decide), if_neg (by decide), if_neg (by decide), if_neg (by decide), if_pos rfl, hz.len, hfr, hlc, hzz]
  have HFR := Lib.hid hfr
  have HLC := Lib.hid hlc
  have HZZ := Lib.hid hzz
  clear hb1 hb2 hv hz hfr hlc hzz H
  go_enter Tryz.func81, Tryz.ntmps81
  go_upto_region 1 with fail
  obtain ⟨w2, hw2⟩ : ∃ w2, (w.alloc (.cells #[.slice Av lv cv, .slice Ag lg cg, .slice Ay ly cy] 26)).alloc (.cells #[.int .i64 5, .int .i64 x1, .int .i64 v, .int .i64 n, .int .i64 o, .int .i64 tn, .slice At lt ct, .slice Ah lh ch, .slice Ae le ce, .slice Ab lb cb] 56) = w2 := ⟨_, rfl⟩
  obtain ⟨p, hp⟩ : ∃ p, w.heap.size = p := ⟨_, rfl⟩
  obtain ⟨q, hq⟩ : ∃ q, p + 1 = q := ⟨_, rfl⟩
  rw [hw2] at HB HF HN HV HZB
  rw [hp] at HF HN
  rw [hq] at HN
  rw [hw2, hp, hq]
  clear hw2 hp hq
  have f0 := HF.out.at 0 _ rfl
  have f1 := HF.out.at 1 _ rfl
  have f2 := HF.out.at 2 _ rfl
  have n0 := HN.out.at 0 _ rfl
  have n1 := HN.out.at 1 _ rfl
  have n2 := HN.out.at 2 _ rfl
  have n3 := HN.out.at 3 _ rfl
  have n4 := HN.out.at 4 _ rfl
  have n5 := HN.out.at 5 _ rfl
  have n6 := HN.out.at 6 _ rfl
  have n7 := HN.out.at 7 _ rfl
  have n8 := HN.out.at 8 _ rfl
  have n9 := HN.out.at 9 _ rfl
  go_upto_region 1 with fail
  go_cut [7] from 7 to 18 (fun u wx => u = .bool fr ∧ w2 = wx)
  case first =>
    by_cases g1 : lh = 0
    · have q1 : (lh == 0) = true := by simpa using g1
      have q1i : ((lh : Int) == 0) = true := by rw [beq_iff_eq]; omega
      by_cases g2 : le = 0
      · have q2 : (le == 0) = true := by simpa using g2
        have q2i : ((le : Int) == 0) = true := by rw [beq_iff_eq]; omega
        have hf : fr = true := by rw [← HFR.out, decide_eq_true g1, decide_eq_true g2]; rfl
        subst hf
        clear g1 g2
        go_wp2_with fail
        go_meet
        case rel => exact ⟨rfl, rfl⟩
      · have q2 : (le == 0) = false := by simpa using g2
        have q2i : ((le : Int) == 0) = false := beq_of (by omega)
        have hf : fr = false := by rw [← HFR.out, decide_eq_false g2, Bool.and_false]
        subst hf
        clear g1 g2
        go_wp2_with fail
        go_meet
        case rel => exact ⟨rfl, rfl⟩
    · have q1 : (lh == 0) = false := by simpa using g1
      have q1i : ((lh : Int) == 0) = false := beq_of (by omega)
      have hf : fr = false := by rw [← HFR.out, decide_eq_false g1]; rfl
      subst hf
      clear g1
      go_wp2_with fail
      go_meet
      case rel => exact ⟨rfl, rfl⟩
  case rest =>
  obtain ⟨rfl, rfl⟩ := hcut
  go_upto_region 2 with fail
  go_cut [8] from 8 to 39 (fun u wx => u = .bool lc ∧ w2 = wx)
  case first =>
    have HLX : Hid ((decide (0 ≤ v) && (decide (v < (lv : Int)) && decide (((vs[v.toNat]?).map Vr.kind).getD 1 = 0))) = lc) := by show _ = _; rw [← HLC.out, locB, HVL.out]
    by_cases g1 : 0 ≤ v
    case neg =>
      have d1 : decide (0 ≤ v) = false := decide_eq_false g1
      have hf : lc = false := by rw [← HLX.out, d1]; rfl
      subst hf
      clear HLX
      go_wp2_with fail
      go_meet
      case rel => exact ⟨rfl, rfl⟩
    obtain ⟨i, rfl⟩ : ∃ i : Nat, v = i := ⟨v.toNat, by omega⟩
    have d1 : decide ((0 : Int) ≤ (i : Int)) = true := decide_eq_true g1
    by_cases g2 : i < lv
    case neg =>
      have d2 : decide (i < lv) = false := decide_eq_false g2
      have d2i : decide ((i : Int) < (lv : Int)) = false := decide_eq_false (by omega)
      have hf : lc = false := by rw [← HLX.out, d2i, Bool.false_and, Bool.and_false]
      subst hf
      clear HLX
      go_wp2_with fail
      go_meet
      case rel => exact ⟨rfl, rfl⟩
    have d2 : decide (i < lv) = true := decide_eq_true g2
    have d2i : decide ((i : Int) < (lv : Int)) = true := decide_eq_true (by omega)
    have g2i : (i : Int) < (lv : Int) := by omega
    obtain ⟨s, kd, lo, hi, ii, g, f, hvs, _, hA, hg, v0, v1, _⟩ := HV.out.at i g2
    subst hA
    have HL2 : Hid (decide (kd = 0) = lc) := by
      show _ = _
      rw [← HLX.out, d1, d2i, Int.toNat_natCast, hvs]; rfl
    clear HLX hvs v0
    by_cases g3 : kd = 0
    · have q3 : (kd == 0) = true := by rw [g3]; rfl
      have hf : lc = true := by rw [← HL2.out]; exact decide_eq_true g3
      subst hf
      clear HL2 g3
      go_wp2_with fail
      go_meet
      case rel => exact ⟨rfl, rfl⟩
    · have q3 := beq_of g3
      have hf : lc = false := by rw [← HL2.out]; exact decide_eq_false g3
      subst hf
      clear HL2 g3
      go_wp2_with fail
      go_meet
      case rel => exact ⟨rfl, rfl⟩
  case rest =>
  obtain ⟨rfl, rfl⟩ := hcut
  clear HFR HLC
  cases fr with
  | false =>
    have hb : b = false := by rw [← HX.out]; simp
    subst hb
    clear HX
    go_wp2_with fail
    go_ret
    exact ⟨rfl, HB.out⟩
  | true =>
    cases lc with
    | false =>
      have hb : b = false := by rw [← HX.out]; simp
      subst hb
      clear HX
      go_wp2_with fail
      go_ret
      exact ⟨rfl, HB.out⟩
    | true =>
      by_cases gg : 0 ≤ n
      case neg =>
        have qg : decide (0 ≤ n) = false := decide_eq_false gg
        have hb : b = false := by rw [← HX.out]; simp [qg]
        subst hb
        clear HX
        go_wp2_with fail
        go_ret
        exact ⟨rfl, HB.out⟩
      have qg : decide (0 ≤ n) = true := decide_eq_true gg
      by_cases gl : n < (lg : Int)
      case neg =>
        have ql : decide (n < (lg : Int)) = false := decide_eq_false gl
        have hb : b = false := by rw [← HX.out]; simp [qg, ql]
        subst hb
        clear HX
        go_wp2_with fail
        go_ret
        exact ⟨rfl, HB.out⟩
      have ql : decide (n < (lg : Int)) = true := decide_eq_true gl
      by_cases glb : lb = 0
      case neg =>
        have qlb : decide (lb = 0) = false := decide_eq_false glb
        have qlbi : ((lb : Int) == 0) = false := beq_of (by omega)
        have qlbn : (lb == 0) = false := by simpa using glb
        have hb : b = false := by rw [← HX.out]; simp [qg, ql, qlb]
        subst hb
        clear HX
        go_wp2_with fail
        go_ret
        exact ⟨rfl, HB.out⟩
      have qlb : decide (lb = 0) = true := decide_eq_true glb
      have qlbi : ((lb : Int) == 0) = true := by rw [beq_iff_eq]; omega
      have qlbn : (lb == 0) = true := by simpa using glb
      clear glb
      go_wp2_with fail
      go_at_call 100
      refine (rplain_b o tn At lt ct z HZZ _).mono ?_
      rintro e w3 ⟨rfl, hb3⟩
      have HB3 := Lib.hid (HB.out.trans (hb3.mono HB.out.size))
      have HN3 := Lib.hid (HN.out.next hb3)
      have HZB3 := Lib.hid (HZB.out.below hb3)
      clear hb3 n0 n1 n2 n3 n4 n5 n6 n7 n8 n9
      have n0 := HN3.out.at 0 _ rfl
      have n1 := HN3.out.at 1 _ rfl
      have n2 := HN3.out.at 2 _ rfl
      have n3 := HN3.out.at 3 _ rfl
      have n4 := HN3.out.at 4 _ rfl
      have n5 := HN3.out.at 5 _ rfl
      have n6 := HN3.out.at 6 _ rfl
      have n7 := HN3.out.at 7 _ rfl
      have n8 := HN3.out.at 8 _ rfl
      have n9 := HN3.out.at 9 _ rfl
      cases z with
      | false =>
        have hb : b = false := by rw [← HX.out]; simp [qg, ql, qlb]
        subst hb
        clear HX
        go_wp2_with fail
        go_ret
        exact ⟨rfl, HB3.out⟩
      | true =>
        have hb : b = true := by rw [← HX.out]; simp [qg, ql, qlb]
        subst hb
        clear HX
        go_wp2_with fail
        go_ret
        exact ⟨rfl, HB3.out⟩

set_option maxRecDepth 100000 in
set_option maxHeartbeats 4000000 in
theorem rshaped_6 (vs : List Vr) (Av : Option Addr) (lv cv : Nat) (Ag : Option Addr) (lg cg : Nat) (Ay : Option Addr) (ly cy : Nat) (x1 v n o tn : Int) (At : Option Addr) (lt ct : Nat) (Ah : Option Addr) (lh ch : Nat) (Ae : Option Addr) (le ce : Nat) (Ab : Option Addr) (lb cb : Nat) (bs : List Int) (last : Bool) (b : Bool) (H : Hid (shapedB vs lg last 6 v n (zeroB o tn lt) lh le bs = b)) (w : World) (hv : VOk w Av lv cv vs) (hz : Zs w Ab lb cb bs) :
    Calls Tryz.prog 81 #[.agg #[.slice Av lv cv, .slice Ag lg cg, .slice Ay ly cy], .agg #[.int .i64 6, .int .i64 x1, .int .i64 v, .int .i64 n, .int .i64 o, .int .i64 tn, .slice At lt ct, .slice Ah lh ch, .slice Ae le ce, .slice Ab lb cb], .bool last] w fun e w' => e = .returned (.bool b) ∧ Below w.heap.size w w' := by
  have hlv : lv ≤ 9223372036854775807 := by have h1 := hv.cap; have h2 := hv.big; unfold maxLen at h2; omega
  have hlbm : lb ≤ 9223372036854775807 := by have h1 := hz.cap; have h2 := hz.big; unfold maxLen at h2; omega
  have hb1 := (Below.refl w.heap.size w).alloc (Nat.le_refl _) (.cells #[.slice Av lv cv, .slice Ag lg cg, .slice Ay ly cy] 26)
  have hb2 := hb1.alloc hb1.size (.cells #[.int .i64 6, .int .i64 x1, .int .i64 v, .int .i64 n, .int .i64 o, .int .i64 tn, .slice At lt ct, .slice Ah lh ch, .slice Ae le ce, .slice Ab lb cb] 56)
  have HB := Lib.hid hb2
  have HF := Lib.hid ((Cs.new w #[.slice Av lv cv, .slice Ag lg cg, .slice Ay ly cy] 26).alloc (.cells #[.int .i64 6, .int .i64 x1, .int .i64 v, .int .i64 n, .int .i64 o, .int .i64 tn, .slice At lt ct, .slice Ah lh ch, .slice Ae le ce, .slice Ab lb cb] 56))
  have HN := Lib.hid (Cs.new1 w (.cells #[.slice Av lv cv, .slice Ag lg cg, .slice Ay ly cy] 26) #[.int .i64 6, .int .i64 x1, .int .i64 v, .int .i64 n, .int .i64 o, .int .i64 tn, .slice At lt ct, .slice Ah lh ch, .slice Ae le ce, .slice Ab lb cb] 56)
  have HV := Lib.hid (hv.below hb2)
  have HVL := Lib.hid hv.len
  have HZB := Lib.hid (hz.below hb2)
  have HBL := Lib.hid hz.len
  obtain ⟨fr, hfr⟩ : ∃ z, (decide (lh = 0) && decide (le = 0)) = z := ⟨_, rfl⟩
  obtain ⟨lc, hlc⟩ : ∃ z, locB vs v = z := ⟨_, rfl⟩
  obtain ⟨z, hzz⟩ : ∃ z, zeroB o tn lt = z := ⟨_, rfl⟩
  have HX : Hid ((fr && last && (v == 0) && (n == 0) && z && riseB bs) = b) := by
    show _ = _
    rw [← H.out]; unfold shapedB
    rw [if_neg (by decide), if_neg (by decide), if_neg (by decide), if_neg (by decide), if_neg (by decide), if_neg (by decide), if_pos rfl, hfr, hzz]
  have HFR := Lib.hid hfr
  have HLC := Lib.hid hlc
  have HZZ := Lib.hid hzz
  clear hb1 hb2 hv hz hfr hlc hzz H
  go_enter Tryz.func81, Tryz.ntmps81
  go_upto_region 1 with fail
  obtain ⟨w2, hw2⟩ : ∃ w2, (w.alloc (.cells #[.slice Av lv cv, .slice Ag lg cg, .slice Ay ly cy] 26)).alloc (.cells #[.int .i64 6, .int .i64 x1, .int .i64 v, .int .i64 n, .int .i64 o, .int .i64 tn, .slice At lt ct, .slice Ah lh ch, .slice Ae le ce, .slice Ab lb cb] 56) = w2 := ⟨_, rfl⟩
  obtain ⟨p, hp⟩ : ∃ p, w.heap.size = p := ⟨_, rfl⟩
  obtain ⟨q, hq⟩ : ∃ q, p + 1 = q := ⟨_, rfl⟩
  rw [hw2] at HB HF HN HV HZB
  rw [hp] at HF HN
  rw [hq] at HN
  rw [hw2, hp, hq]
  clear hw2 hp hq
  have f0 := HF.out.at 0 _ rfl
  have f1 := HF.out.at 1 _ rfl
  have f2 := HF.out.at 2 _ rfl
  have n0 := HN.out.at 0 _ rfl
  have n1 := HN.out.at 1 _ rfl
  have n2 := HN.out.at 2 _ rfl
  have n3 := HN.out.at 3 _ rfl
  have n4 := HN.out.at 4 _ rfl
  have n5 := HN.out.at 5 _ rfl
  have n6 := HN.out.at 6 _ rfl
  have n7 := HN.out.at 7 _ rfl
  have n8 := HN.out.at 8 _ rfl
  have n9 := HN.out.at 9 _ rfl
  go_upto_region 1 with fail
  go_cut [7] from 7 to 18 (fun u wx => u = .bool fr ∧ w2 = wx)
  case first =>
    by_cases g1 : lh = 0
    · have q1 : (lh == 0) = true := by simpa using g1
      have q1i : ((lh : Int) == 0) = true := by rw [beq_iff_eq]; omega
      by_cases g2 : le = 0
      · have q2 : (le == 0) = true := by simpa using g2
        have q2i : ((le : Int) == 0) = true := by rw [beq_iff_eq]; omega
        have hf : fr = true := by rw [← HFR.out, decide_eq_true g1, decide_eq_true g2]; rfl
        subst hf
        clear g1 g2
        go_wp2_with fail
        go_meet
        case rel => exact ⟨rfl, rfl⟩
      · have q2 : (le == 0) = false := by simpa using g2
        have q2i : ((le : Int) == 0) = false := beq_of (by omega)
        have hf : fr = false := by rw [← HFR.out, decide_eq_false g2, Bool.and_false]
        subst hf
        clear g1 g2
        go_wp2_with fail
        go_meet
        case rel => exact ⟨rfl, rfl⟩
    · have q1 : (lh == 0) = false := by simpa using g1
      have q1i : ((lh : Int) == 0) = false := beq_of (by omega)
      have hf : fr = false := by rw [← HFR.out, decide_eq_false g1]; rfl
      subst hf
      clear g1
      go_wp2_with fail
      go_meet
      case rel => exact ⟨rfl, rfl⟩
  case rest =>
  obtain ⟨rfl, rfl⟩ := hcut
  go_upto_region 2 with fail
  go_cut [8] from 8 to 39 (fun u wx => u = .bool lc ∧ w2 = wx)
  case first =>
    have HLX : Hid ((decide (0 ≤ v) && (decide (v < (lv : Int)) && decide (((vs[v.toNat]?).map Vr.kind).getD 1 = 0))) = lc) := by show _ = _; rw [← HLC.out, locB, HVL.out]
    by_cases g1 : 0 ≤ v
    case neg =>
      have d1 : decide (0 ≤ v) = false := decide_eq_false g1
      have hf : lc = false := by rw [← HLX.out, d1]; rfl
      subst hf
      clear HLX
      go_wp2_with fail
      go_meet
      case rel => exact ⟨rfl, rfl⟩
    obtain ⟨i, rfl⟩ : ∃ i : Nat, v = i := ⟨v.toNat, by omega⟩
    have d1 : decide ((0 : Int) ≤ (i : Int)) = true := decide_eq_true g1
    by_cases g2 : i < lv
    case neg =>
      have d2 : decide (i < lv) = false := decide_eq_false g2
      have d2i : decide ((i : Int) < (lv : Int)) = false := decide_eq_false (by omega)
      have hf : lc = false := by rw [← HLX.out, d2i, Bool.false_and, Bool.and_false]
      subst hf
      clear HLX
      go_wp2_with fail
      go_meet
      case rel => exact ⟨rfl, rfl⟩
    have d2 : decide (i < lv) = true := decide_eq_true g2
    have d2i : decide ((i : Int) < (lv : Int)) = true := decide_eq_true (by omega)
    have g2i : (i : Int) < (lv : Int) := by omega
    obtain ⟨s, kd, lo, hi, ii, g, f, hvs, _, hA, hg, v0, v1, _⟩ := HV.out.at i g2
    subst hA
    have HL2 : Hid (decide (kd = 0) = lc) := by
      show _ = _
      rw [← HLX.out, d1, d2i, Int.toNat_natCast, hvs]; rfl
    clear HLX hvs v0
    by_cases g3 : kd = 0
    · have q3 : (kd == 0) = true := by rw [g3]; rfl
      have hf : lc = true := by rw [← HL2.out]; exact decide_eq_true g3
      subst hf
      clear HL2 g3
      go_wp2_with fail
      go_meet
      case rel => exact ⟨rfl, rfl⟩
    · have q3 := beq_of g3
      have hf : lc = false := by rw [← HL2.out]; exact decide_eq_false g3
      subst hf
      clear HL2 g3
      go_wp2_with fail
      go_meet
      case rel => exact ⟨rfl, rfl⟩
  case rest =>
  obtain ⟨rfl, rfl⟩ := hcut
  clear HFR HLC
  cases fr with
  | false =>
    have hb : b = false := by rw [← HX.out]; simp
    subst hb
    clear HX
    go_wp2_with fail
    go_ret
    exact ⟨rfl, HB.out⟩
  | true =>
    cases last with
    | false =>
      have hb : b = false := by rw [← HX.out]; simp
      subst hb
      clear HX
      go_wp2_with fail
      go_ret
      exact ⟨rfl, HB.out⟩
    | true =>
      by_cases gv : v = 0
      case neg =>
        have qv := beq_of gv
        have hb : b = false := by rw [← HX.out]; simp [qv]
        subst hb
        clear HX
        go_wp2_with fail
        go_ret
        exact ⟨rfl, HB.out⟩
      have qv : (v == 0) = true := by rw [gv]; rfl
      clear gv
      by_cases gn : n = 0
      case neg =>
        have qn := beq_of gn
        have hb : b = false := by rw [← HX.out]; simp [qv, qn]
        subst hb
        clear HX
        go_wp2_with fail
        go_ret
        exact ⟨rfl, HB.out⟩
      have qn : (n == 0) = true := by rw [gn]; rfl
      clear gn
      go_wp2_with fail
      go_at_call 100
      refine (rplain_b o tn At lt ct z HZZ _).mono ?_
      rintro e w3 ⟨rfl, hb3⟩
      have HB3 := Lib.hid (HB.out.trans (hb3.mono HB.out.size))
      have HN3 := Lib.hid (HN.out.next hb3)
      have HZB3 := Lib.hid (HZB.out.below hb3)
      clear hb3 n0 n1 n2 n3 n4 n5 n6 n7 n8 n9
      have n0 := HN3.out.at 0 _ rfl
      have n1 := HN3.out.at 1 _ rfl
      have n2 := HN3.out.at 2 _ rfl
      have n3 := HN3.out.at 3 _ rfl
      have n4 := HN3.out.at 4 _ rfl
      have n5 := HN3.out.at 5 _ rfl
      have n6 := HN3.out.at 6 _ rfl
      have n7 := HN3.out.at 7 _ rfl
      have n8 := HN3.out.at 8 _ rfl
      have n9 := HN3.out.at 9 _ rfl
      cases z with
      | false =>
        have hb : b = false := by rw [← HX.out]; simp [qv, qn]
        subst hb
        clear HX
        go_wp2_with fail
        go_ret
        exact ⟨rfl, HB3.out⟩
      | true =>
        obtain ⟨rs, hrs⟩ : ∃ z, riseB bs = z := ⟨_, rfl⟩
        have HRS := Lib.hid hrs
        rw [hrs] at HX
        clear hrs
        go_wp2_with fail
        go_at_call 101
        refine (rrising_b bs rs HRS Ab lb cb _ HZB3.out).mono ?_
        rintro e w4 ⟨rfl, hb4⟩
        have HB4 := Lib.hid (HB3.out.trans (hb4.mono HB3.out.size))
        clear hb4
        have hb : b = rs := by rw [← HX.out]; simp [qv, qn]
        subst hb
        clear HX
        go_wp2_with fail
        go_ret
        exact ⟨rfl, HB4.out⟩

set_option maxRecDepth 100000 in
set_option maxHeartbeats 4000000 in
theorem rshaped_o (vs : List Vr) (Av : Option Addr) (lv cv : Nat) (Ag : Option Addr) (lg cg : Nat) (Ay : Option Addr) (ly cy : Nat) (d x1 v n o tn : Int) (At : Option Addr) (lt ct : Nat) (Ah : Option Addr) (lh ch : Nat) (Ae : Option Addr) (le ce : Nat) (Ab : Option Addr) (lb cb : Nat) (bs : List Int) (last : Bool) (b : Bool) (hd : ¬ (0 ≤ d ∧ d ≤ 6)) (H : Hid (shapedB vs lg last d v n (zeroB o tn lt) lh le bs = b)) (w : World) (hv : VOk w Av lv cv vs) (hz : Zs w Ab lb cb bs) :
    Calls Tryz.prog 81 #[.agg #[.slice Av lv cv, .slice Ag lg cg, .slice Ay ly cy], .agg #[.int .i64 d, .int .i64 x1, .int .i64 v, .int .i64 n, .int .i64 o, .int .i64 tn, .slice At lt ct, .slice Ah lh ch, .slice Ae le ce, .slice Ab lb cb], .bool last] w fun e w' => e = .returned (.bool b) ∧ Below w.heap.size w w' := by
  have hlv : lv ≤ 9223372036854775807 := by have h1 := hv.cap; have h2 := hv.big; unfold maxLen at h2; omega
  have hlbm : lb ≤ 9223372036854775807 := by have h1 := hz.cap; have h2 := hz.big; unfold maxLen at h2; omega
  have hb1 := (Below.refl w.heap.size w).alloc (Nat.le_refl _) (.cells #[.slice Av lv cv, .slice Ag lg cg, .slice Ay ly cy] 26)
  have hb2 := hb1.alloc hb1.size (.cells #[.int .i64 d, .int .i64 x1, .int .i64 v, .int .i64 n, .int .i64 o, .int .i64 tn, .slice At lt ct, .slice Ah lh ch, .slice Ae le ce, .slice Ab lb cb] 56)
  have HB := Lib.hid hb2
  have HF := Lib.hid ((Cs.new w #[.slice Av lv cv, .slice Ag lg cg, .slice Ay ly cy] 26).alloc (.cells #[.int .i64 d, .int .i64 x1, .int .i64 v, .int .i64 n, .int .i64 o, .int .i64 tn, .slice At lt ct, .slice Ah lh ch, .slice Ae le ce, .slice Ab lb cb] 56))
  have HN := Lib.hid (Cs.new1 w (.cells #[.slice Av lv cv, .slice Ag lg cg, .slice Ay ly cy] 26) #[.int .i64 d, .int .i64 x1, .int .i64 v, .int .i64 n, .int .i64 o, .int .i64 tn, .slice At lt ct, .slice Ah lh ch, .slice Ae le ce, .slice Ab lb cb] 56)
  have HV := Lib.hid (hv.below hb2)
  have HVL := Lib.hid hv.len
  have HZB := Lib.hid (hz.below hb2)
  have HBL := Lib.hid hz.len
  obtain ⟨fr, hfr⟩ : ∃ z, (decide (lh = 0) && decide (le = 0)) = z := ⟨_, rfl⟩
  obtain ⟨lc, hlc⟩ : ∃ z, locB vs v = z := ⟨_, rfl⟩
  obtain ⟨z, hzz⟩ : ∃ z, zeroB o tn lt = z := ⟨_, rfl⟩
  have hb : b = false := by
    rw [← H.out]; unfold shapedB
    rw [if_neg (by omega), if_neg (by omega), if_neg (by omega), if_neg (by omega), if_neg (by omega), if_neg (by omega), if_neg (by omega)]
  subst hb
  have qd0 := beq_of (show d ≠ 0 by omega)
  have qd1 := beq_of (show d ≠ 1 by omega)
  have qd2 := beq_of (show d ≠ 2 by omega)
  have qd3 := beq_of (show d ≠ 3 by omega)
  have qd4 := beq_of (show d ≠ 4 by omega)
  have qd5 := beq_of (show d ≠ 5 by omega)
  have qd6 := beq_of (show d ≠ 6 by omega)
  have HFR := Lib.hid hfr
  have HLC := Lib.hid hlc
  have HZZ := Lib.hid hzz
  clear hb1 hb2 hv hz hfr hlc hzz H
  go_enter Tryz.func81, Tryz.ntmps81
  go_upto_region 1 with fail
  obtain ⟨w2, hw2⟩ : ∃ w2, (w.alloc (.cells #[.slice Av lv cv, .slice Ag lg cg, .slice Ay ly cy] 26)).alloc (.cells #[.int .i64 d, .int .i64 x1, .int .i64 v, .int .i64 n, .int .i64 o, .int .i64 tn, .slice At lt ct, .slice Ah lh ch, .slice Ae le ce, .slice Ab lb cb] 56) = w2 := ⟨_, rfl⟩
  obtain ⟨p, hp⟩ : ∃ p, w.heap.size = p := ⟨_, rfl⟩
  obtain ⟨q, hq⟩ : ∃ q, p + 1 = q := ⟨_, rfl⟩
  rw [hw2] at HB HF HN HV HZB
  rw [hp] at HF HN
  rw [hq] at HN
  rw [hw2, hp, hq]
  clear hw2 hp hq
  have f0 := HF.out.at 0 _ rfl
  have f1 := HF.out.at 1 _ rfl
  have f2 := HF.out.at 2 _ rfl
  have n0 := HN.out.at 0 _ rfl
  have n1 := HN.out.at 1 _ rfl
  have n2 := HN.out.at 2 _ rfl
  have n3 := HN.out.at 3 _ rfl
  have n4 := HN.out.at 4 _ rfl
  have n5 := HN.out.at 5 _ rfl
  have n6 := HN.out.at 6 _ rfl
  have n7 := HN.out.at 7 _ rfl
  have n8 := HN.out.at 8 _ rfl
  have n9 := HN.out.at 9 _ rfl
  go_upto_region 1 with fail
  go_cut [7] from 7 to 18 (fun u wx => u = .bool fr ∧ w2 = wx)
  case first =>
    by_cases g1 : lh = 0
    · have q1 : (lh == 0) = true := by simpa using g1
      have q1i : ((lh : Int) == 0) = true := by rw [beq_iff_eq]; omega
      by_cases g2 : le = 0
      · have q2 : (le == 0) = true := by simpa using g2
        have q2i : ((le : Int) == 0) = true := by rw [beq_iff_eq]; omega
        have hf : fr = true := by rw [← HFR.out, decide_eq_true g1, decide_eq_true g2]; rfl
        subst hf
        clear g1 g2
        go_wp2_with fail
        go_meet
        case rel => exact ⟨rfl, rfl⟩
      · have q2 : (le == 0) = false := by simpa using g2
        have q2i : ((le : Int) == 0) = false := beq_of (by omega)
        have hf : fr = false := by rw [← HFR.out, decide_eq_false g2, Bool.and_false]
        subst hf
        clear g1 g2
        go_wp2_with fail
        go_meet
        case rel => exact ⟨rfl, rfl⟩
    · have q1 : (lh == 0) = false := by simpa using g1
      have q1i : ((lh : Int) == 0) = false := beq_of (by omega)
      have hf : fr = false := by rw [← HFR.out, decide_eq_false g1]; rfl
      subst hf
      clear g1
      go_wp2_with fail
      go_meet
      case rel => exact ⟨rfl, rfl⟩
  case rest =>
  obtain ⟨rfl, rfl⟩ := hcut
  go_upto_region 2 with fail
  go_cut [8] from 8 to 39 (fun u wx => u = .bool lc ∧ w2 = wx)
  case first =>
    have HLX : Hid ((decide (0 ≤ v) && (decide (v < (lv : Int)) && decide (((vs[v.toNat]?).map Vr.kind).getD 1 = 0))) = lc) := by show _ = _; rw [← HLC.out, locB, HVL.out]
    by_cases g1 : 0 ≤ v
    case neg =>
      have d1 : decide (0 ≤ v) = false := decide_eq_false g1
      have hf : lc = false := by rw [← HLX.out, d1]; rfl
      subst hf
      clear HLX
      go_wp2_with fail
      go_meet
      case rel => exact ⟨rfl, rfl⟩
    obtain ⟨i, rfl⟩ : ∃ i : Nat, v = i := ⟨v.toNat, by omega⟩
    have d1 : decide ((0 : Int) ≤ (i : Int)) = true := decide_eq_true g1
    by_cases g2 : i < lv
    case neg =>
      have d2 : decide (i < lv) = false := decide_eq_false g2
      have d2i : decide ((i : Int) < (lv : Int)) = false := decide_eq_false (by omega)
      have hf : lc = false := by rw [← HLX.out, d2i, Bool.false_and, Bool.and_false]
      subst hf
      clear HLX
      go_wp2_with fail
      go_meet
      case rel => exact ⟨rfl, rfl⟩
    have d2 : decide (i < lv) = true := decide_eq_true g2
    have d2i : decide ((i : Int) < (lv : Int)) = true := decide_eq_true (by omega)
    have g2i : (i : Int) < (lv : Int) := by omega
    obtain ⟨s, kd, lo, hi, ii, g, f, hvs, _, hA, hg, v0, v1, _⟩ := HV.out.at i g2
    subst hA
    have HL2 : Hid (decide (kd = 0) = lc) := by
      show _ = _
      rw [← HLX.out, d1, d2i, Int.toNat_natCast, hvs]; rfl
    clear HLX hvs v0
    by_cases g3 : kd = 0
    · have q3 : (kd == 0) = true := by rw [g3]; rfl
      have hf : lc = true := by rw [← HL2.out]; exact decide_eq_true g3
      subst hf
      clear HL2 g3
      go_wp2_with fail
      go_meet
      case rel => exact ⟨rfl, rfl⟩
    · have q3 := beq_of g3
      have hf : lc = false := by rw [← HL2.out]; exact decide_eq_false g3
      subst hf
      clear HL2 g3
      go_wp2_with fail
      go_meet
      case rel => exact ⟨rfl, rfl⟩
  case rest =>
  obtain ⟨rfl, rfl⟩ := hcut
  clear HFR HLC
  go_wp2_with fail
  go_ret
  exact ⟨rfl, HB.out⟩

theorem rshaped_b (vs : List Vr) (Av : Option Addr) (lv cv : Nat) (Ag : Option Addr) (lg cg : Nat) (Ay : Option Addr) (ly cy : Nat) (d x1 v n o tn : Int) (At : Option Addr) (lt ct : Nat) (Ah : Option Addr) (lh ch : Nat) (Ae : Option Addr) (le ce : Nat) (Ab : Option Addr) (lb cb : Nat) (bs : List Int) (last : Bool) (b : Bool) (H : Hid (shapedB vs lg last d v n (zeroB o tn lt) lh le bs = b)) (w : World) (hv : VOk w Av lv cv vs) (hz : Zs w Ab lb cb bs) :
    Calls Tryz.prog 81 #[.agg #[.slice Av lv cv, .slice Ag lg cg, .slice Ay ly cy], .agg #[.int .i64 d, .int .i64 x1, .int .i64 v, .int .i64 n, .int .i64 o, .int .i64 tn, .slice At lt ct, .slice Ah lh ch, .slice Ae le ce, .slice Ab lb cb], .bool last] w fun e w' => e = .returned (.bool b) ∧ Below w.heap.size w w' := by
  by_cases hd : 0 ≤ d ∧ d ≤ 6
  case neg => exact rshaped_o vs Av lv cv Ag lg cg Ay ly cy d x1 v n o tn At lt ct Ah lh ch Ae le ce Ab lb cb bs last b hd H w hv hz
  obtain rfl | rfl | rfl | rfl | rfl | rfl | rfl : d = 0 ∨ d = 1 ∨ d = 2 ∨ d = 3 ∨ d = 4 ∨ d = 5 ∨ d = 6 := by omega
  · exact rshaped_0 vs Av lv cv Ag lg cg Ay ly cy x1 v n o tn At lt ct Ah lh ch Ae le ce Ab lb cb bs last b H w hv hz
  · exact rshaped_1 vs Av lv cv Ag lg cg Ay ly cy x1 v n o tn At lt ct Ah lh ch Ae le ce Ab lb cb bs last b H w hv hz
  · exact rshaped_2 vs Av lv cv Ag lg cg Ay ly cy x1 v n o tn At lt ct Ah lh ch Ae le ce Ab lb cb bs last b H w hv hz
  · exact rshaped_3 vs Av lv cv Ag lg cg Ay ly cy x1 v n o tn At lt ct Ah lh ch Ae le ce Ab lb cb bs last b H w hv hz
  · exact rshaped_4 vs Av lv cv Ag lg cg Ay ly cy x1 v n o tn At lt ct Ah lh ch Ae le ce Ab lb cb bs last b H w hv hz
  · exact rshaped_5 vs Av lv cv Ag lg cg Ay ly cy x1 v n o tn At lt ct Ah lh ch Ae le ce Ab lb cb bs last b H w hv hz
  · exact rshaped_6 vs Av lv cv Ag lg cg Ay ly cy x1 v n o tn At lt ct Ah lh ch Ae le ce Ab lb cb bs last b H w hv hz
end Go.Proofs.YtjpjmoejdkmglaaGreat
