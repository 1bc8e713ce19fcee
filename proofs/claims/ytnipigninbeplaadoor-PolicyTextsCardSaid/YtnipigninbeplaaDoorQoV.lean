/-
  The walk over PolicyInverse.
-/
import Derived.Test.YtnipigninbeplaaDoorPK
namespace Go.Proofs.YtnipigninbeplaaDoor
open Go.RowKit

theorem printC_1 {p : Py} (h : polC p ≠ 0) : printC p = ([], 1) := by unfold printC; rw [if_pos h]
theorem printC_2 {p : Py} (h : polC p = 0) (h2 : 8192 < (printL p).length) : printC p = ([], 5) := by unfold printC; rw [if_neg (by rw [h]; decide), if_pos h2]
theorem printC_3 {p : Py} (h : polC p = 0) (h2 : ¬ 8192 < (printL p).length) : printC p = (printL p, 0) := by unfold printC; rw [if_neg (by rw [h]; decide), if_neg h2]
theorem bytes_nil {s : ByteArray} (h : s.data.toList = []) : s = ⟨#[]⟩ := bytes_eq h
theorem wf_of {x : Int} (h0 : 0 ≤ x) (h1 : x ≤ 1000) : (Lit.int .i64 x).wf = true := Go.WalkArith.wf_i64 ⟨by omega, by omega⟩
theorem vld_wf {p : Py} (h : polC p = 0) : ∀ q ∈ p.order, (Lit.int .i64 q.1).wf = true ∧ (Lit.int .i64 q.2).wf = true := by
  intro q hq
  have hv := polC_ok h
  have h1 := hv.od q hq
  have h2 := hv.n12
  unfold inPb at h1
  simp only [Bool.and_eq_true, decide_eq_true_eq] at h1
  exact ⟨wf_of h1.1.1 (by omega), wf_of h1.2.1 (by omega)⟩
set_option maxRecDepth 100000 in
set_option maxHeartbeats 4000000 in
theorem inverse_b (p : Py) (An : Option Addr) (ln cn : Nat) (Ao : Option Addr) (lo co : Nat) (Ai : Option Addr) (li ci : Nat) (Ah : Option Addr) (lh ch : Nat) (m : Int) (w : World) (hm : w.cell? ⟨0, 0, none⟩ = some (.int .i64 m)) (hp : PyOk w An ln cn Ao lo co Ai li ci Ah lh ch p) :
    Calls Tryd.prog 5 #[.agg (pyV An ln cn Ao lo co Ai li ci Ah lh ch p.obs p.timed)] w fun e w' => e = .returned (.bool true) ∧ Below w.heap.size w w' := by
  have HMB : Hid (∀ W, Below w.heap.size w W → W.cell? ⟨0, 0, none⟩ = some (.int .i64 m)) := Lib.hid (fun W hb => (hb.cell (p := ⟨0, 0, none⟩) (World.block_lt_of_cell? _ _ hm)).trans hm)
  have HP := Lib.hid hp
  have HC0 := Lib.hid (Cs.new w (pyV An ln cn Ao lo co Ai li ci Ah lh ch p.obs p.timed) 26)
  have HB0 := Lib.hid ((Below.refl w.heap.size w).alloc (Nat.le_refl _) (.cells (pyV An ln cn Ao lo co Ai li ci Ah lh ch p.obs p.timed) 26))
  obtain ⟨fb, hfb⟩ : ∃ b, fewB 70 ln lo li lh = b := ⟨_, rfl⟩
  have HFB := Lib.hid hfb
  have HLO : Hid (fb = true → lo ≤ 140) := Lib.hid (fun h => by
    rw [← hfb] at h
    unfold fewB at h
    simp only [Bool.and_eq_true, decide_eq_true_eq] at h
    omega)
  obtain ⟨r, hr⟩ : ∃ r, polC p = r := ⟨_, rfl⟩
  have HR := Lib.hid hr
  obtain ⟨kx, hkx⟩ := mk_bytes (printC p).1
  have HKX := Lib.hid hkx
  unfold pyV at HC0 HB0 ⊢
  clear hm hp hfb hr hkx
  go_enter Tryd.func5, Tryd.ntmps5
  go_upto_region 1 with fail
  obtain ⟨w1, hw1⟩ : ∃ z, w.alloc (.cells #[.slice An ln cn, .slice Ao lo co, .slice Ai li ci, .slice Ah lh ch, .int .i64 p.obs, .bool p.timed] 26) = z := ⟨_, rfl⟩
  obtain ⟨q, hq⟩ : ∃ z, w.heap.size = z := ⟨_, rfl⟩
  have HB1 : Hid (Below w.heap.size w w1) := hw1 ▸ HB0
  have HC1 : Hid (Cs w1 q [.slice An ln cn, .slice Ao lo co, .slice Ai li ci, .slice Ah lh ch, .int .i64 p.obs, .bool p.timed]) := hw1 ▸ hq ▸ HC0
  rw [hw1, hq]
  clear hw1 HB0 HC0 hq
  go_upto_region 3 with (first | (go_at_call 8; refine (known_b m _ (HMB.out _ HB1.out)).mono ?_; rintro e w2 ⟨rfl, hb2⟩; have HB2 := Lib.hid (HB1.out.trans (hb2.mono HB1.out.size)); have HC2 := Lib.hid (HC1.out.next hb2); clear hb2) | fail)
  obtain ⟨c0, c1, c2, c3, c4, c5⟩ := HC2.out.six
  cases fb with
  | false =>
    go_wp2_with (first | (go_at_call 9; refine (few_b p An ln cn Ao lo co Ai li ci Ah lh ch 70 (by omega) (by omega) false HFB _ (HP.out.below HB2.out)).mono ?_; rintro e w3 ⟨rfl, hb3⟩; have HB3 := Lib.hid (HB2.out.trans (hb3.mono HB2.out.size)); have HC3 := Lib.hid (HC2.out.next hb3); clear hb3; skip) | fail)
    go_ret
    exact ⟨rfl, HB3.out⟩
  | true =>
    have hlo : lo ≤ 140 := HLO.out rfl
    by_cases hr0 : r = 0
    · by_cases hl : 8192 < (printL p).length
      · have hk : kx = ⟨#[]⟩ := bytes_nil (by rw [HKX.out, printC_2 (HR.out.trans hr0) hl])
        have HPR : Hid (printC p = (kx.data.toList, 5)) := Lib.hid (by rw [hk]; exact printC_2 (HR.out.trans hr0) hl)
        clear hl
        subst hk
        subst hr0
        go_wp2_with (first | (go_at_call 9; refine (few_b p An ln cn Ao lo co Ai li ci Ah lh ch 70 (by omega) (by omega) true HFB _ (HP.out.below HB2.out)).mono ?_; rintro e w3 ⟨rfl, hb3⟩; have HB3 := Lib.hid (HB2.out.trans (hb3.mono HB2.out.size)); have HC3 := Lib.hid (HC2.out.next hb3); clear hb3; clear c0 c1 c2 c3 c4 c5; obtain ⟨c0, c1, c2, c3, c4, c5⟩ := HC3.out.six) | (go_at_call 12; refine (print_b p An ln cn Ao lo co Ai li ci Ah lh ch (by omega) (⟨#[]⟩ : ByteArray) 5 HPR _ (HP.out.below HB3.out)).mono ?_; rintro e w4 ⟨rfl, hb4⟩; have HB4 := Lib.hid (HB3.out.trans (hb4.mono HB3.out.size)); have HC4 := Lib.hid (HC3.out.next hb4); clear hb4; clear c0 c1 c2 c3 c4 c5; obtain ⟨c0, c1, c2, c3, c4, c5⟩ := HC4.out.six) | (go_at_call 11; refine (rcheck_b p An ln cn Ao lo co Ai li ci Ah lh ch 0 HR _ (HP.out.below HB4.out)).mono ?_; rintro e w5 ⟨rfl, hb5⟩; have HB5 := Lib.hid (HB4.out.trans (hb5.mono HB4.out.size)); clear hb5) | fail)
        go_ret
        exact ⟨rfl, HB5.out⟩
      · have HPR : Hid (printC p = (kx.data.toList, 0)) := Lib.hid (by rw [HKX.out, printC_3 (HR.out.trans hr0) hl])
        have HPA : Hid (parC kx.data.toList = ((0, 0), p)) := Lib.hid (by rw [HKX.out, printC_3 (HR.out.trans hr0) hl]; exact parC_print p (HR.out.trans hr0) (by omega))
        have HKZ : Hid (kx.size ≤ maxLen) := Lib.hid (by rw [bsize_len, HKX.out, printC_3 (HR.out.trans hr0) hl]; unfold maxLen; simp only; omega)
        have HWF := Lib.hid (vld_wf (HR.out.trans hr0))
        clear hl
        subst hr0
        go_upto_region 9 with (first | (go_at_call 9; refine (few_b p An ln cn Ao lo co Ai li ci Ah lh ch 70 (by omega) (by omega) true HFB _ (HP.out.below HB2.out)).mono ?_; rintro e w3 ⟨rfl, hb3⟩; have HB3 := Lib.hid (HB2.out.trans (hb3.mono HB2.out.size)); have HC3 := Lib.hid (HC2.out.next hb3); clear hb3; clear c0 c1 c2 c3 c4 c5; obtain ⟨c0, c1, c2, c3, c4, c5⟩ := HC3.out.six) | (go_at_call 12; refine (print_b p An ln cn Ao lo co Ai li ci Ah lh ch (by omega) kx 0 HPR _ (HP.out.below HB3.out)).mono ?_; rintro e w4 ⟨rfl, hb4⟩; have HB4 := Lib.hid (HB3.out.trans (hb4.mono HB3.out.size)); have HC4 := Lib.hid (HC3.out.next hb4); clear hb4; clear c0 c1 c2 c3 c4 c5; obtain ⟨c0, c1, c2, c3, c4, c5⟩ := HC4.out.six) | (go_at_call 14; refine (parse_b kx HKZ.out ((0, 0), p) HPA m _ (HMB.out _ HB4.out)).mono ?_; rintro e w5 ⟨hb5, An5, ln5, cn5, Ao5, lo5, co5, Ai5, li5, ci5, Ah5, lh5, ch5, he, hp5⟩; obtain rfl : ln = ln5 := HP.out.n.len.symm.trans hp5.n.len; obtain rfl : lo = lo5 := HP.out.o.len.symm.trans hp5.o.len; obtain rfl : li = li5 := HP.out.i.len.symm.trans hp5.i.len; obtain rfl : lh = lh5 := HP.out.h.len.symm.trans hp5.h.len; have he' : e = .returned (.tuple #[.agg #[.slice An5 ln cn5, .slice Ao5 lo co5, .slice Ai5 li ci5, .slice Ah5 lh ch5, .int .i64 p.obs, .bool p.timed], .int .i64 0, .int .i64 0]) := he; subst he'; have HE5 := Lib.hid hp5; have HC5 := Lib.hid (HC4.out.next hb5); have HB5 := Lib.hid (HB4.out.trans (hb5.mono HB4.out.size)); clear hb5 hp5 he) | fail)
        clear c0 c1 c2 c3 c4 c5
        have HC6 := Lib.hid (HC5.out.alloc (.cells #[.slice An5 ln cn5, .slice Ao5 lo co5, .slice Ai5 li ci5, .slice Ah5 lh ch5, .int .i64 p.obs, .bool p.timed] 26))
        have HD6 := Lib.hid (Cs.new w5 #[.slice An5 ln cn5, .slice Ao5 lo co5, .slice Ai5 li ci5, .slice Ah5 lh ch5, .int .i64 p.obs, .bool p.timed] 26)
        have HB6 := Lib.hid (HB5.out.alloc HB5.out.size (.cells #[.slice An5 ln cn5, .slice Ao5 lo co5, .slice Ai5 li ci5, .slice Ah5 lh ch5, .int .i64 p.obs, .bool p.timed] 26))
        have HE6 := Lib.hid (HE5.out.below ((Below.refl _ _).alloc (Nat.le_refl _) (.cells #[.slice An5 ln cn5, .slice Ao5 lo co5, .slice Ai5 li ci5, .slice Ah5 lh ch5, .int .i64 p.obs, .bool p.timed] 26)))
        obtain ⟨w6, hw6⟩ : ∃ z, w5.alloc (.cells #[.slice An5 ln cn5, .slice Ao5 lo co5, .slice Ai5 li ci5, .slice Ah5 lh ch5, .int .i64 p.obs, .bool p.timed] 26) = z := ⟨_, rfl⟩
        obtain ⟨q6, hq6⟩ : ∃ z, w5.heap.size = z := ⟨_, rfl⟩
        rw [hw6] at HC6 HB6 HE6
        rw [hw6, hq6] at HD6
        rw [hw6, hq6]
        clear hw6 hq6 HC5 HB5 HE5
        obtain ⟨c0, c1, c2, c3, c4, c5⟩ := HC6.out.six
        obtain ⟨d0, d1, d2, d3, d4, d5⟩ := HD6.out.six
        go_wp2_with (first | (go_at_call 16; refine (same_b p ln lo li lh An cn Ao co Ai ci Ah ch An5 cn5 Ao5 co5 Ai5 ci5 Ah5 ch5 _ (HP.out.below HB6.out) HE6.out HWF.out).mono ?_; rintro e w8 ⟨rfl, hb8⟩; have HB9 := Lib.hid (HB6.out.trans (hb8.mono HB6.out.size)); clear hb8) | fail)
        go_ret
        exact ⟨rfl, HB9.out⟩
    · have hr1 : polC p ≠ 0 := by rw [HR.out]; exact hr0
      have hk : kx = ⟨#[]⟩ := bytes_nil (by rw [HKX.out, printC_1 hr1])
      have HPR : Hid (printC p = (kx.data.toList, 1)) := Lib.hid (by rw [hk]; exact printC_1 hr1)
      clear hr1
      subst hk
      go_wp2_with (first | (go_at_call 9; refine (few_b p An ln cn Ao lo co Ai li ci Ah lh ch 70 (by omega) (by omega) true HFB _ (HP.out.below HB2.out)).mono ?_; rintro e w3 ⟨rfl, hb3⟩; have HB3 := Lib.hid (HB2.out.trans (hb3.mono HB2.out.size)); have HC3 := Lib.hid (HC2.out.next hb3); clear hb3; clear c0 c1 c2 c3 c4 c5; obtain ⟨c0, c1, c2, c3, c4, c5⟩ := HC3.out.six) | (go_at_call 12; refine (print_b p An ln cn Ao lo co Ai li ci Ah lh ch (by omega) (⟨#[]⟩ : ByteArray) 1 HPR _ (HP.out.below HB3.out)).mono ?_; rintro e w4 ⟨rfl, hb4⟩; have HB4 := Lib.hid (HB3.out.trans (hb4.mono HB3.out.size)); have HC4 := Lib.hid (HC3.out.next hb4); clear hb4; clear c0 c1 c2 c3 c4 c5; obtain ⟨c0, c1, c2, c3, c4, c5⟩ := HC4.out.six) | (go_at_call 11; refine (rcheck_b p An ln cn Ao lo co Ai li ci Ah lh ch r HR _ (HP.out.below HB4.out)).mono ?_; rintro e w5 ⟨rfl, hb5⟩; have HB5 := Lib.hid (HB4.out.trans (hb5.mono HB4.out.size)); clear hb5) | fail)
      go_ret
      exact ⟨rfl, HB5.out⟩
end Go.Proofs.YtnipigninbeplaaDoor
