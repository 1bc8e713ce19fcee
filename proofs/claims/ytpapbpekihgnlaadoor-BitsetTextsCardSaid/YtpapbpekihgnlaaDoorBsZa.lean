/-
  The walks over the reference's Combine and Complement.
-/
import Derived.Test.YtpapbpekihgnlaaDoorBsZ
import Derived.Deep.Cut
namespace Go.Proofs.YtpapbpekihgnlaaDoor
open Go.RowKit

/-- The blocks of two sets and of a result. -/
structure C3 (W : World) (b : Nat) (x y z : List Value) : Prop where
  ca : Cs W b x
  cb : Cs W (b + 1) y
  cr : Cs W (b + 2) z
theorem C3.next {W W' : World} {b : Nat} {x y z : List Value} (h : C3 W b x y z) (hb : Below W.heap.size W W') : C3 W' b x y z := ⟨h.ca.next hb, h.cb.next hb, h.cr.next hb⟩
theorem C3.drew {W : World} {b : Nat} {x y z : List Value} (h : C3 W b x y z) : C3 W.drew b x y z := h.next (Below.refl _ _).drew
theorem comR_bad {o : Bool → Bool → Bool} {n : Int} {ws : List Nat} {n' : Int} {ws' : List Nat} {k : Int} (h : pairR n ws n' ws' = k) (hk : k ≠ 0) : comR o n ws n' ws' = (0, [], k) := by
  unfold comR; rw [h, if_neg hk]
theorem fif_succ (l k : Nat) (o : Nat → Bool) (hk : k < l) : (bvals l fun i => decide (i < k) && o i).set k (.bool (o k)) = bvals l fun i => decide (i < k + 1) && o i := by
  rw [bvals_set]
  refine bvals_congr fun i _ => ?_
  by_cases hi : i = k
  · subst hi; simp
  · rw [if_neg hi]
    have : decide (i < k) = decide (i < k + 1) := by rw [Bool.eq_iff_iff, decide_eq_true_iff, decide_eq_true_iff]; omega
    rw [this]

set_option maxRecDepth 100000 in
set_option maxHeartbeats 2000000 in
theorem runion_b (n : Int) (A : Option Addr) (l c : Nat) (ws : List Nat) (n' : Int) (A' : Option Addr) (l' c' : Nat) (ws' : List Nat) (R : Int × List Nat × Int) (H : Hid (comR (fun p q => p || q) n ws n' ws' = R)) (w : World) (hw : Wd w A l c ws) (hw' : Wd w A' l' c' ws') :
    Calls Tryd.prog 34 #[.int .i64 0, .agg #[.int .i64 n, .slice A l c], .agg #[.int .i64 n', .slice A' l' c']] w fun e w' => Post w R e w' := by
  have HW := Lib.hid hw
  have HW' := Lib.hid hw'
  clear hw hw'
  obtain ⟨v, hv⟩ : ∃ v, Bs.vld n ws = v := ⟨_, rfl⟩
  obtain ⟨v', hv'⟩ : ∃ v, Bs.vld n' ws' = v := ⟨_, rfl⟩
  have HV := Lib.hid hv
  have HV' := Lib.hid hv'
  have HTB := Lib.hid ((boxT_below w n A l c n' A' l' c').alloc (boxT_below w n A l c n' A' l' c').size (.cells #[.int .i64 0, .slice none 0 0] 24))
  go_enter Tryd.func34, Tryd.ntmps34
  go_wp2_with fail
  go_at_call 19
  refine (rvalid_b n A l c ws v HV _ (HW.out.below HTB.out)).mono ?_
  rintro e w2 ⟨rfl, hb⟩
  obtain ⟨hc, hc', hr, hb1⟩ := box3 hb
  have HC := Lib.hid hc
  have HC' := Lib.hid hc'
  have HR := Lib.hid hr
  have HB := Lib.hid hb1
  clear hb HV HTB hc hc' hr hb1
  have c0 := HC.out.at 0 _ rfl
  have c1 := HC.out.at 1 _ rfl
  have d0 := HC'.out.at 0 _ rfl
  have d1 := HC'.out.at 1 _ rfl
  have r0 := HR.out.at 0 _ rfl
  have r1 := HR.out.at 1 _ rfl
  have f0 := HR.out.free 0
  have f1 := HR.out.free 1
  cases v with
  | false =>
    have hR : R = (0, [], 1) := by rw [← H.out]; exact comR_bad (by unfold pairR; rw [if_pos (.inl hv)]) (by decide)
    subst hR
    clear H hv hv' HV'
    go_wp2_with fail
    obtain ⟨k0, k1⟩ := two_cells HR.out (.int .i64 0) (.slice none 0 0)
    refine bodyPost_ret (v := .tuple #[.agg #[.int .i64 0, .slice none 0 0], .int .i64 1]) (by simp [results, Tryd.results34, go_sem, k0, k1]) rfl ?_
    exact post_bad rfl ((HB.out.setCell (by show _ ≤ _ + 2; omega) _).setCell (by show _ ≤ _ + 2; omega) _)
  | true =>
    have HVV := Lib.hid hv
    clear hv
    go_wp2_with fail
    go_at_call 19
    refine (rvalid_b n' A' l' c' ws' v' HV' _ (HW'.out.below HB.out)).mono ?_
    rintro e w3 ⟨rfl, hb3⟩
    have HD := Lib.hid (HC.out.next hb3)
    have HD' := Lib.hid (HC'.out.next hb3)
    have HR3 := Lib.hid (HR.out.next hb3)
    have HB3 := Lib.hid (HB.out.trans (hb3.mono HB.out.size))
    clear hb3 HV' HC HC' HR HB c0 c1 d0 d1 r0 r1 f0 f1
    rename Hid (Cs w3 (w.heap.size + 2) _) => HR
    rename Hid (Below w.heap.size w w3) => HB
    have c0 := HD.out.at 0 _ rfl
    have c1 := HD.out.at 1 _ rfl
    have d0 := HD'.out.at 0 _ rfl
    have d1 := HD'.out.at 1 _ rfl
    have r0 := HR.out.at 0 _ rfl
    have r1 := HR.out.at 1 _ rfl
    have f0 := HR.out.free 0
    have f1 := HR.out.free 1
    cases v' with
    | false =>
      have hR : R = (0, [], 1) := by rw [← H.out]; exact comR_bad (by unfold pairR; rw [if_pos (.inr hv')]) (by decide)
      subst hR
      clear H hv'
      go_wp2_with fail
      obtain ⟨k0, k1⟩ := two_cells HR.out (.int .i64 0) (.slice none 0 0)
      refine bodyPost_ret (v := .tuple #[.agg #[.int .i64 0, .slice none 0 0], .int .i64 1]) (by simp [results, Tryd.results34, go_sem, k0, k1]) rfl ?_
      exact post_bad rfl ((HB.out.setCell (by show _ ≤ _ + 2; omega) _).setCell (by show _ ≤ _ + 2; omega) _)
    | true =>
      by_cases hnn : n = n'
      · subst hnn
        obtain ⟨m, rfl⟩ : ∃ m : Nat, n = m := ⟨n.toNat, by have := (Bs.vld_iff.1 hv').1; omega⟩
        have hR : R = ((m : Int), (Bs.mk m fun i => (fun p q => p || q) (Bs.bit ws i) (Bs.bit ws' i)), 0) := by
          rw [← H.out]; unfold comR
          have : pairR m ws m ws' = 0 := by unfold pairR; rw [if_neg (by rw [HVV.out, hv']; simp), if_pos rfl]
          rw [if_pos this, Int.toNat_natCast]
        have HRR := Lib.hid hR
        have hm : m ≤ 4096 := Bs.vld_le hv'
        have HBW := Lib.hid (HW.out.below HB.out)
        have HBW' := Lib.hid (HW'.out.below HB.out)
        clear H hv' hR
        go_upto_region 5 with fail
        have X0 := (C3.mk HD.out HD'.out HR.out)
        go_region_held3 (fun W => W.cell? ⟨w.heap.size, 0, none⟩ = some (.int .i64 m) ∧ W.cell? ⟨w.heap.size, 1, none⟩ = some (.slice A l c) ∧ W.cell? ⟨w.heap.size + 1, 0, none⟩ = some (.int .i64 m) ∧ W.cell? ⟨w.heap.size + 1, 1, none⟩ = some (.slice A' l' c')) (first | exact ⟨X0.drew.ca.at 0 _ rfl, X0.drew.ca.at 1 _ rfl, X0.drew.cb.at 0 _ rfl, X0.drew.cb.at 1 _ rfl⟩ | exact ⟨X1.ca.at 0 _ rfl, X1.ca.at 1 _ rfl, X1.cb.at 0 _ rfl, X1.cb.at 1 _ rfl⟩ | exact ⟨X2.ca.at 0 _ rfl, X2.ca.at 1 _ rfl, X2.cb.at 0 _ rfl, X2.cb.at 1 _ rfl⟩) (first
          | (go_at_call_of 52 A; refine (flags_b m A l c ws hm _ (HBW.out.below (Below.refl _ _).drew)).mono ?_; rintro e u1 ⟨⟨A1, k1, rfl, hO1⟩, hb⟩; have X1 := X0.drew.next hb; have Y1 := HB.out.drew.trans (hb.mono HB.out.drew.size); have W1 := (HBW'.out.below (Below.refl _ _).drew).below hb; clear hb)
          | (go_at_call_of 52 A'; refine (flags_b m A' l' c' ws' hm _ W1).mono ?_; rintro e u2 ⟨⟨A2, k2, rfl, hO2⟩, hb⟩; have X2 := X1.next hb; have Y2 := Y1.trans (hb.mono Y1.size); have Q1 := hO1.below hb; clear hb))
        have hmk := make_bools m hm
        have HX := Lib.hid X2
        have HY := Lib.hid Y2
        have HQ1 := Lib.hid Q1
        have HQ2 := Lib.hid hO2
        have hm' : (m : Int) ≤ 4096 := by omega
        have HUL := Lib.hid X2.cr.lt
        clear X0 X1 X2 Y1 Y2 W1 Q1 hO1 hO2 c0 c1 d0 d1 r0 r1 f0 f1 HBW HBW' HD HD' HR HB HVV
        have c0 := HX.out.ca.at 0 _ rfl
        go_wp2_with fail
        go_loopw [11] (fun v wr => ∃ k : Nat, k ≤ m ∧ v = .int .i64 k ∧ Hid (Cs wr u2.heap.size (bvals m fun i => decide (i < k) && (fun p q => p || q) (Bs.bit ws i) (Bs.bit ws' i))) ∧ Hid (Below u2.heap.size u2 wr)) (fun v _ => m - (intOf v).toNat)
        case atStart => exact ⟨0, by omega, rfl, (by have := Cs.new u2 (bvals m fun _ => false).toArray 4; show Cs _ _ _; simpa using this), (Below.refl _ _).alloc (Nat.le_refl _) _⟩
        case round =>
          clear c0 hmk
          obtain ⟨k, hk, rfl, HS, HBU⟩ := hrel
          have c0 := (HX.out.ca.next HBU.out).at 0 _ rfl
          by_cases hlt : k < m
          · obtain ⟨g1, hA1, _, hcs1⟩ := (HQ1.out.below HBU.out).mem (by omega)
            subst hA1
            obtain ⟨g2, hA2, _, hcs2⟩ := (HQ2.out.below HBU.out).mem (by omega)
            subst hA2
            have e1 := hcs1.at k _ (bvals_get m _ k hlt)
            have e2 := hcs2.at k _ (bvals_get m _ k hlt)
            have e3 := HS.out.at k _ (bvals_get m _ k hlt)
            have f3 := HS.out.free k
            have l3 := HS.out.lt
            obtain ⟨x, hx⟩ : ∃ x, Bs.bit ws k = x := ⟨_, rfl⟩
            obtain ⟨y, hy⟩ : ∃ y, Bs.bit ws' k = y := ⟨_, rfl⟩
            rw [hx] at e1
            rw [hy] at e2
            have HS' := Lib.hid (HS.out.set k (.bool ((fun p q => p || q) x y)) (by rw [bvals_len]; omega))
            have hf := fif_succ m k (fun i => (fun p q => p || q) (Bs.bit ws i) (Bs.bit ws' i)) hlt
            rw [← hx, ← hy] at HS'
            rw [hf, hx, hy] at HS'
            have hlt' : (k : Int) < (m : Int) := by omega
            clear hx hy hf hcs1 hcs2
            cases x <;> cases y <;> (
              go_wp2_with fail
              go_roundw
              case rel => exact ⟨k + 1, by omega, by go_num, HS', HBU.out.setCell (Nat.le_refl _) _⟩
              case measure => simp [intOf]; omega)
          · obtain rfl : k = m := by omega
            have hbv : (bvals k fun i => decide (i < k) && (fun p q => p || q) (Bs.bit ws i) (Bs.bit ws' i)) = bvals k fun i => (fun p q => p || q) (Bs.bit ws i) (Bs.bit ws' i) := bvals_congr fun i hi => by rw [decide_eq_true hi, Bool.true_and]
            rw [hbv] at HS
            obtain ⟨L, hL⟩ : ∃ L, (k + 63) / 64 = L := ⟨_, rfl⟩
            have HL := Lib.hid hL
            clear hL hbv
            go_wp2_with fail
            go_at_call 49
            refine (make_b k _ k _ hm L HL _ (Fl.ofCs HS.out hm)).mono ?_
            rintro e w5 ⟨⟨A5, c5, rfl, hO5⟩, hb5⟩
            have HR5 := Lib.hid ((HX.out.cr.next HBU.out).next hb5)
            have HB5 := Lib.hid ((HY.out.trans (HBU.out.mono HY.out.size)).trans (hb5.mono (Nat.le_trans HY.out.size HBU.out.size)))
            have HO5 := Lib.hid (hO5.mono (B' := w.heap.size + 3) (by have := HUL.out; have := HBU.out.size; omega))
            clear hb5 hO5 HS HBU HX HY HQ1 HQ2 c0
            have r0 := HR5.out.at 0 _ rfl
            have r1 := HR5.out.at 1 _ rfl
            have f0 := HR5.out.free 0
            have f1 := HR5.out.free 1
            go_wp2_with fail
            obtain ⟨k0, k1⟩ := two_cells HR5.out (.int .i64 k) (.slice A5 L c5)
            refine bodyPost_ret (v := .tuple #[.agg #[.int .i64 k, .slice A5 L c5], .int .i64 0]) (by simp [results, Tryd.results34, go_sem, k0, k1]) rfl ?_
            rw [HRR.out]
            exact fin_set HO5.out (by omega) (by omega) HB5.out _ _
      · have hR : R = (0, [], 2) := by rw [← H.out]; exact comR_bad (by unfold pairR; rw [if_neg (by rw [HVV.out, hv']; simp), if_neg hnn]) (by decide)
        subst hR
        have hd : (n != n') = true := by simp [hnn]
        clear H hv' hnn
        go_wp2_with fail
        obtain ⟨k0, k1⟩ := two_cells HR.out (.int .i64 0) (.slice none 0 0)
        refine bodyPost_ret (v := .tuple #[.agg #[.int .i64 0, .slice none 0 0], .int .i64 2]) (by simp [results, Tryd.results34, go_sem, k0, k1]) rfl ?_
        exact post_bad rfl ((HB.out.setCell (by show _ ≤ _ + 2; omega) _).setCell (by show _ ≤ _ + 2; omega) _)

set_option maxRecDepth 100000 in
set_option maxHeartbeats 2000000 in
theorem rintersect_b (n : Int) (A : Option Addr) (l c : Nat) (ws : List Nat) (n' : Int) (A' : Option Addr) (l' c' : Nat) (ws' : List Nat) (R : Int × List Nat × Int) (H : Hid (comR (fun p q => p && q) n ws n' ws' = R)) (w : World) (hw : Wd w A l c ws) (hw' : Wd w A' l' c' ws') :
    Calls Tryd.prog 34 #[.int .i64 1, .agg #[.int .i64 n, .slice A l c], .agg #[.int .i64 n', .slice A' l' c']] w fun e w' => Post w R e w' := by
  have HW := Lib.hid hw
  have HW' := Lib.hid hw'
  clear hw hw'
  obtain ⟨v, hv⟩ : ∃ v, Bs.vld n ws = v := ⟨_, rfl⟩
  obtain ⟨v', hv'⟩ : ∃ v, Bs.vld n' ws' = v := ⟨_, rfl⟩
  have HV := Lib.hid hv
  have HV' := Lib.hid hv'
  have HTB := Lib.hid ((boxT_below w n A l c n' A' l' c').alloc (boxT_below w n A l c n' A' l' c').size (.cells #[.int .i64 0, .slice none 0 0] 24))
  go_enter Tryd.func34, Tryd.ntmps34
  go_wp2_with fail
  go_at_call 19
  refine (rvalid_b n A l c ws v HV _ (HW.out.below HTB.out)).mono ?_
  rintro e w2 ⟨rfl, hb⟩
  obtain ⟨hc, hc', hr, hb1⟩ := box3 hb
  have HC := Lib.hid hc
  have HC' := Lib.hid hc'
  have HR := Lib.hid hr
  have HB := Lib.hid hb1
  clear hb HV HTB hc hc' hr hb1
  have c0 := HC.out.at 0 _ rfl
  have c1 := HC.out.at 1 _ rfl
  have d0 := HC'.out.at 0 _ rfl
  have d1 := HC'.out.at 1 _ rfl
  have r0 := HR.out.at 0 _ rfl
  have r1 := HR.out.at 1 _ rfl
  have f0 := HR.out.free 0
  have f1 := HR.out.free 1
  cases v with
  | false =>
    have hR : R = (0, [], 1) := by rw [← H.out]; exact comR_bad (by unfold pairR; rw [if_pos (.inl hv)]) (by decide)
    subst hR
    clear H hv hv' HV'
    go_wp2_with fail
    obtain ⟨k0, k1⟩ := two_cells HR.out (.int .i64 0) (.slice none 0 0)
    refine bodyPost_ret (v := .tuple #[.agg #[.int .i64 0, .slice none 0 0], .int .i64 1]) (by simp [results, Tryd.results34, go_sem, k0, k1]) rfl ?_
    exact post_bad rfl ((HB.out.setCell (by show _ ≤ _ + 2; omega) _).setCell (by show _ ≤ _ + 2; omega) _)
  | true =>
    have HVV := Lib.hid hv
    clear hv
    go_wp2_with fail
    go_at_call 19
    refine (rvalid_b n' A' l' c' ws' v' HV' _ (HW'.out.below HB.out)).mono ?_
    rintro e w3 ⟨rfl, hb3⟩
    have HD := Lib.hid (HC.out.next hb3)
    have HD' := Lib.hid (HC'.out.next hb3)
    have HR3 := Lib.hid (HR.out.next hb3)
    have HB3 := Lib.hid (HB.out.trans (hb3.mono HB.out.size))
    clear hb3 HV' HC HC' HR HB c0 c1 d0 d1 r0 r1 f0 f1
    rename Hid (Cs w3 (w.heap.size + 2) _) => HR
    rename Hid (Below w.heap.size w w3) => HB
    have c0 := HD.out.at 0 _ rfl
    have c1 := HD.out.at 1 _ rfl
    have d0 := HD'.out.at 0 _ rfl
    have d1 := HD'.out.at 1 _ rfl
    have r0 := HR.out.at 0 _ rfl
    have r1 := HR.out.at 1 _ rfl
    have f0 := HR.out.free 0
    have f1 := HR.out.free 1
    cases v' with
    | false =>
      have hR : R = (0, [], 1) := by rw [← H.out]; exact comR_bad (by unfold pairR; rw [if_pos (.inr hv')]) (by decide)
      subst hR
      clear H hv'
      go_wp2_with fail
      obtain ⟨k0, k1⟩ := two_cells HR.out (.int .i64 0) (.slice none 0 0)
      refine bodyPost_ret (v := .tuple #[.agg #[.int .i64 0, .slice none 0 0], .int .i64 1]) (by simp [results, Tryd.results34, go_sem, k0, k1]) rfl ?_
      exact post_bad rfl ((HB.out.setCell (by show _ ≤ _ + 2; omega) _).setCell (by show _ ≤ _ + 2; omega) _)
    | true =>
      by_cases hnn : n = n'
      · subst hnn
        obtain ⟨m, rfl⟩ : ∃ m : Nat, n = m := ⟨n.toNat, by have := (Bs.vld_iff.1 hv').1; omega⟩
        have hR : R = ((m : Int), (Bs.mk m fun i => (fun p q => p && q) (Bs.bit ws i) (Bs.bit ws' i)), 0) := by
          rw [← H.out]; unfold comR
          have : pairR m ws m ws' = 0 := by unfold pairR; rw [if_neg (by rw [HVV.out, hv']; simp), if_pos rfl]
          rw [if_pos this, Int.toNat_natCast]
        have HRR := Lib.hid hR
        have hm : m ≤ 4096 := Bs.vld_le hv'
        have HBW := Lib.hid (HW.out.below HB.out)
        have HBW' := Lib.hid (HW'.out.below HB.out)
        clear H hv' hR
        go_upto_region 5 with fail
        have X0 := (C3.mk HD.out HD'.out HR.out)
        go_region_held3 (fun W => W.cell? ⟨w.heap.size, 0, none⟩ = some (.int .i64 m) ∧ W.cell? ⟨w.heap.size, 1, none⟩ = some (.slice A l c) ∧ W.cell? ⟨w.heap.size + 1, 0, none⟩ = some (.int .i64 m) ∧ W.cell? ⟨w.heap.size + 1, 1, none⟩ = some (.slice A' l' c')) (first | exact ⟨X0.drew.ca.at 0 _ rfl, X0.drew.ca.at 1 _ rfl, X0.drew.cb.at 0 _ rfl, X0.drew.cb.at 1 _ rfl⟩ | exact ⟨X1.ca.at 0 _ rfl, X1.ca.at 1 _ rfl, X1.cb.at 0 _ rfl, X1.cb.at 1 _ rfl⟩ | exact ⟨X2.ca.at 0 _ rfl, X2.ca.at 1 _ rfl, X2.cb.at 0 _ rfl, X2.cb.at 1 _ rfl⟩) (first
          | (go_at_call_of 52 A; refine (flags_b m A l c ws hm _ (HBW.out.below (Below.refl _ _).drew)).mono ?_; rintro e u1 ⟨⟨A1, k1, rfl, hO1⟩, hb⟩; have X1 := X0.drew.next hb; have Y1 := HB.out.drew.trans (hb.mono HB.out.drew.size); have W1 := (HBW'.out.below (Below.refl _ _).drew).below hb; clear hb)
          | (go_at_call_of 52 A'; refine (flags_b m A' l' c' ws' hm _ W1).mono ?_; rintro e u2 ⟨⟨A2, k2, rfl, hO2⟩, hb⟩; have X2 := X1.next hb; have Y2 := Y1.trans (hb.mono Y1.size); have Q1 := hO1.below hb; clear hb))
        have hmk := make_bools m hm
        have HX := Lib.hid X2
        have HY := Lib.hid Y2
        have HQ1 := Lib.hid Q1
        have HQ2 := Lib.hid hO2
        have hm' : (m : Int) ≤ 4096 := by omega
        have HUL := Lib.hid X2.cr.lt
        clear X0 X1 X2 Y1 Y2 W1 Q1 hO1 hO2 c0 c1 d0 d1 r0 r1 f0 f1 HBW HBW' HD HD' HR HB HVV
        have c0 := HX.out.ca.at 0 _ rfl
        go_wp2_with fail
        go_loopw [11] (fun v wr => ∃ k : Nat, k ≤ m ∧ v = .int .i64 k ∧ Hid (Cs wr u2.heap.size (bvals m fun i => decide (i < k) && (fun p q => p && q) (Bs.bit ws i) (Bs.bit ws' i))) ∧ Hid (Below u2.heap.size u2 wr)) (fun v _ => m - (intOf v).toNat)
        case atStart => exact ⟨0, by omega, rfl, (by have := Cs.new u2 (bvals m fun _ => false).toArray 4; show Cs _ _ _; simpa using this), (Below.refl _ _).alloc (Nat.le_refl _) _⟩
        case round =>
          clear c0 hmk
          obtain ⟨k, hk, rfl, HS, HBU⟩ := hrel
          have c0 := (HX.out.ca.next HBU.out).at 0 _ rfl
          by_cases hlt : k < m
          · obtain ⟨g1, hA1, _, hcs1⟩ := (HQ1.out.below HBU.out).mem (by omega)
            subst hA1
            obtain ⟨g2, hA2, _, hcs2⟩ := (HQ2.out.below HBU.out).mem (by omega)
            subst hA2
            have e1 := hcs1.at k _ (bvals_get m _ k hlt)
            have e2 := hcs2.at k _ (bvals_get m _ k hlt)
            have e3 := HS.out.at k _ (bvals_get m _ k hlt)
            have f3 := HS.out.free k
            have l3 := HS.out.lt
            obtain ⟨x, hx⟩ : ∃ x, Bs.bit ws k = x := ⟨_, rfl⟩
            obtain ⟨y, hy⟩ : ∃ y, Bs.bit ws' k = y := ⟨_, rfl⟩
            rw [hx] at e1
            rw [hy] at e2
            have HS' := Lib.hid (HS.out.set k (.bool ((fun p q => p && q) x y)) (by rw [bvals_len]; omega))
            have hf := fif_succ m k (fun i => (fun p q => p && q) (Bs.bit ws i) (Bs.bit ws' i)) hlt
            rw [← hx, ← hy] at HS'
            rw [hf, hx, hy] at HS'
            have hlt' : (k : Int) < (m : Int) := by omega
            clear hx hy hf hcs1 hcs2
            cases x <;> cases y <;> (
              go_wp2_with fail
              go_roundw
              case rel => exact ⟨k + 1, by omega, by go_num, HS', HBU.out.setCell (Nat.le_refl _) _⟩
              case measure => simp [intOf]; omega)
          · obtain rfl : k = m := by omega
            have hbv : (bvals k fun i => decide (i < k) && (fun p q => p && q) (Bs.bit ws i) (Bs.bit ws' i)) = bvals k fun i => (fun p q => p && q) (Bs.bit ws i) (Bs.bit ws' i) := bvals_congr fun i hi => by rw [decide_eq_true hi, Bool.true_and]
            rw [hbv] at HS
            obtain ⟨L, hL⟩ : ∃ L, (k + 63) / 64 = L := ⟨_, rfl⟩
            have HL := Lib.hid hL
            clear hL hbv
            go_wp2_with fail
            go_at_call 49
            refine (make_b k _ k _ hm L HL _ (Fl.ofCs HS.out hm)).mono ?_
            rintro e w5 ⟨⟨A5, c5, rfl, hO5⟩, hb5⟩
            have HR5 := Lib.hid ((HX.out.cr.next HBU.out).next hb5)
            have HB5 := Lib.hid ((HY.out.trans (HBU.out.mono HY.out.size)).trans (hb5.mono (Nat.le_trans HY.out.size HBU.out.size)))
            have HO5 := Lib.hid (hO5.mono (B' := w.heap.size + 3) (by have := HUL.out; have := HBU.out.size; omega))
            clear hb5 hO5 HS HBU HX HY HQ1 HQ2 c0
            have r0 := HR5.out.at 0 _ rfl
            have r1 := HR5.out.at 1 _ rfl
            have f0 := HR5.out.free 0
            have f1 := HR5.out.free 1
            go_wp2_with fail
            obtain ⟨k0, k1⟩ := two_cells HR5.out (.int .i64 k) (.slice A5 L c5)
            refine bodyPost_ret (v := .tuple #[.agg #[.int .i64 k, .slice A5 L c5], .int .i64 0]) (by simp [results, Tryd.results34, go_sem, k0, k1]) rfl ?_
            rw [HRR.out]
            exact fin_set HO5.out (by omega) (by omega) HB5.out _ _
      · have hR : R = (0, [], 2) := by rw [← H.out]; exact comR_bad (by unfold pairR; rw [if_neg (by rw [HVV.out, hv']; simp), if_neg hnn]) (by decide)
        subst hR
        have hd : (n != n') = true := by simp [hnn]
        clear H hv' hnn
        go_wp2_with fail
        obtain ⟨k0, k1⟩ := two_cells HR.out (.int .i64 0) (.slice none 0 0)
        refine bodyPost_ret (v := .tuple #[.agg #[.int .i64 0, .slice none 0 0], .int .i64 2]) (by simp [results, Tryd.results34, go_sem, k0, k1]) rfl ?_
        exact post_bad rfl ((HB.out.setCell (by show _ ≤ _ + 2; omega) _).setCell (by show _ ≤ _ + 2; omega) _)

set_option maxRecDepth 100000 in
set_option maxHeartbeats 2000000 in
theorem rminus_b (n : Int) (A : Option Addr) (l c : Nat) (ws : List Nat) (n' : Int) (A' : Option Addr) (l' c' : Nat) (ws' : List Nat) (R : Int × List Nat × Int) (H : Hid (comR (fun p q => p && !q) n ws n' ws' = R)) (w : World) (hw : Wd w A l c ws) (hw' : Wd w A' l' c' ws') :
    Calls Tryd.prog 34 #[.int .i64 2, .agg #[.int .i64 n, .slice A l c], .agg #[.int .i64 n', .slice A' l' c']] w fun e w' => Post w R e w' := by
  have HW := Lib.hid hw
  have HW' := Lib.hid hw'
  clear hw hw'
  obtain ⟨v, hv⟩ : ∃ v, Bs.vld n ws = v := ⟨_, rfl⟩
  obtain ⟨v', hv'⟩ : ∃ v, Bs.vld n' ws' = v := ⟨_, rfl⟩
  have HV := Lib.hid hv
  have HV' := Lib.hid hv'
  have HTB := Lib.hid ((boxT_below w n A l c n' A' l' c').alloc (boxT_below w n A l c n' A' l' c').size (.cells #[.int .i64 0, .slice none 0 0] 24))
  go_enter Tryd.func34, Tryd.ntmps34
  go_wp2_with fail
  go_at_call 19
  refine (rvalid_b n A l c ws v HV _ (HW.out.below HTB.out)).mono ?_
  rintro e w2 ⟨rfl, hb⟩
  obtain ⟨hc, hc', hr, hb1⟩ := box3 hb
  have HC := Lib.hid hc
  have HC' := Lib.hid hc'
  have HR := Lib.hid hr
  have HB := Lib.hid hb1
  clear hb HV HTB hc hc' hr hb1
  have c0 := HC.out.at 0 _ rfl
  have c1 := HC.out.at 1 _ rfl
  have d0 := HC'.out.at 0 _ rfl
  have d1 := HC'.out.at 1 _ rfl
  have r0 := HR.out.at 0 _ rfl
  have r1 := HR.out.at 1 _ rfl
  have f0 := HR.out.free 0
  have f1 := HR.out.free 1
  cases v with
  | false =>
    have hR : R = (0, [], 1) := by rw [← H.out]; exact comR_bad (by unfold pairR; rw [if_pos (.inl hv)]) (by decide)
    subst hR
    clear H hv hv' HV'
    go_wp2_with fail
    obtain ⟨k0, k1⟩ := two_cells HR.out (.int .i64 0) (.slice none 0 0)
    refine bodyPost_ret (v := .tuple #[.agg #[.int .i64 0, .slice none 0 0], .int .i64 1]) (by simp [results, Tryd.results34, go_sem, k0, k1]) rfl ?_
    exact post_bad rfl ((HB.out.setCell (by show _ ≤ _ + 2; omega) _).setCell (by show _ ≤ _ + 2; omega) _)
  | true =>
    have HVV := Lib.hid hv
    clear hv
    go_wp2_with fail
    go_at_call 19
    refine (rvalid_b n' A' l' c' ws' v' HV' _ (HW'.out.below HB.out)).mono ?_
    rintro e w3 ⟨rfl, hb3⟩
    have HD := Lib.hid (HC.out.next hb3)
    have HD' := Lib.hid (HC'.out.next hb3)
    have HR3 := Lib.hid (HR.out.next hb3)
    have HB3 := Lib.hid (HB.out.trans (hb3.mono HB.out.size))
    clear hb3 HV' HC HC' HR HB c0 c1 d0 d1 r0 r1 f0 f1
    rename Hid (Cs w3 (w.heap.size + 2) _) => HR
    rename Hid (Below w.heap.size w w3) => HB
    have c0 := HD.out.at 0 _ rfl
    have c1 := HD.out.at 1 _ rfl
    have d0 := HD'.out.at 0 _ rfl
    have d1 := HD'.out.at 1 _ rfl
    have r0 := HR.out.at 0 _ rfl
    have r1 := HR.out.at 1 _ rfl
    have f0 := HR.out.free 0
    have f1 := HR.out.free 1
    cases v' with
    | false =>
      have hR : R = (0, [], 1) := by rw [← H.out]; exact comR_bad (by unfold pairR; rw [if_pos (.inr hv')]) (by decide)
      subst hR
      clear H hv'
      go_wp2_with fail
      obtain ⟨k0, k1⟩ := two_cells HR.out (.int .i64 0) (.slice none 0 0)
      refine bodyPost_ret (v := .tuple #[.agg #[.int .i64 0, .slice none 0 0], .int .i64 1]) (by simp [results, Tryd.results34, go_sem, k0, k1]) rfl ?_
      exact post_bad rfl ((HB.out.setCell (by show _ ≤ _ + 2; omega) _).setCell (by show _ ≤ _ + 2; omega) _)
    | true =>
      by_cases hnn : n = n'
      · subst hnn
        obtain ⟨m, rfl⟩ : ∃ m : Nat, n = m := ⟨n.toNat, by have := (Bs.vld_iff.1 hv').1; omega⟩
        have hR : R = ((m : Int), (Bs.mk m fun i => (fun p q => p && !q) (Bs.bit ws i) (Bs.bit ws' i)), 0) := by
          rw [← H.out]; unfold comR
          have : pairR m ws m ws' = 0 := by unfold pairR; rw [if_neg (by rw [HVV.out, hv']; simp), if_pos rfl]
          rw [if_pos this, Int.toNat_natCast]
        have HRR := Lib.hid hR
        have hm : m ≤ 4096 := Bs.vld_le hv'
        have HBW := Lib.hid (HW.out.below HB.out)
        have HBW' := Lib.hid (HW'.out.below HB.out)
        clear H hv' hR
        go_upto_region 5 with fail
        have X0 := (C3.mk HD.out HD'.out HR.out)
        go_region_held3 (fun W => W.cell? ⟨w.heap.size, 0, none⟩ = some (.int .i64 m) ∧ W.cell? ⟨w.heap.size, 1, none⟩ = some (.slice A l c) ∧ W.cell? ⟨w.heap.size + 1, 0, none⟩ = some (.int .i64 m) ∧ W.cell? ⟨w.heap.size + 1, 1, none⟩ = some (.slice A' l' c')) (first | exact ⟨X0.drew.ca.at 0 _ rfl, X0.drew.ca.at 1 _ rfl, X0.drew.cb.at 0 _ rfl, X0.drew.cb.at 1 _ rfl⟩ | exact ⟨X1.ca.at 0 _ rfl, X1.ca.at 1 _ rfl, X1.cb.at 0 _ rfl, X1.cb.at 1 _ rfl⟩ | exact ⟨X2.ca.at 0 _ rfl, X2.ca.at 1 _ rfl, X2.cb.at 0 _ rfl, X2.cb.at 1 _ rfl⟩) (first
          | (go_at_call_of 52 A; refine (flags_b m A l c ws hm _ (HBW.out.below (Below.refl _ _).drew)).mono ?_; rintro e u1 ⟨⟨A1, k1, rfl, hO1⟩, hb⟩; have X1 := X0.drew.next hb; have Y1 := HB.out.drew.trans (hb.mono HB.out.drew.size); have W1 := (HBW'.out.below (Below.refl _ _).drew).below hb; clear hb)
          | (go_at_call_of 52 A'; refine (flags_b m A' l' c' ws' hm _ W1).mono ?_; rintro e u2 ⟨⟨A2, k2, rfl, hO2⟩, hb⟩; have X2 := X1.next hb; have Y2 := Y1.trans (hb.mono Y1.size); have Q1 := hO1.below hb; clear hb))
        have hmk := make_bools m hm
        have HX := Lib.hid X2
        have HY := Lib.hid Y2
        have HQ1 := Lib.hid Q1
        have HQ2 := Lib.hid hO2
        have hm' : (m : Int) ≤ 4096 := by omega
        have HUL := Lib.hid X2.cr.lt
        clear X0 X1 X2 Y1 Y2 W1 Q1 hO1 hO2 c0 c1 d0 d1 r0 r1 f0 f1 HBW HBW' HD HD' HR HB HVV
        have c0 := HX.out.ca.at 0 _ rfl
        go_wp2_with fail
        go_loopw [11] (fun v wr => ∃ k : Nat, k ≤ m ∧ v = .int .i64 k ∧ Hid (Cs wr u2.heap.size (bvals m fun i => decide (i < k) && (fun p q => p && !q) (Bs.bit ws i) (Bs.bit ws' i))) ∧ Hid (Below u2.heap.size u2 wr)) (fun v _ => m - (intOf v).toNat)
        case atStart => exact ⟨0, by omega, rfl, (by have := Cs.new u2 (bvals m fun _ => false).toArray 4; show Cs _ _ _; simpa using this), (Below.refl _ _).alloc (Nat.le_refl _) _⟩
        case round =>
          clear c0 hmk
          obtain ⟨k, hk, rfl, HS, HBU⟩ := hrel
          have c0 := (HX.out.ca.next HBU.out).at 0 _ rfl
          by_cases hlt : k < m
          · obtain ⟨g1, hA1, _, hcs1⟩ := (HQ1.out.below HBU.out).mem (by omega)
            subst hA1
            obtain ⟨g2, hA2, _, hcs2⟩ := (HQ2.out.below HBU.out).mem (by omega)
            subst hA2
            have e1 := hcs1.at k _ (bvals_get m _ k hlt)
            have e2 := hcs2.at k _ (bvals_get m _ k hlt)
            have e3 := HS.out.at k _ (bvals_get m _ k hlt)
            have f3 := HS.out.free k
            have l3 := HS.out.lt
            obtain ⟨x, hx⟩ : ∃ x, Bs.bit ws k = x := ⟨_, rfl⟩
            obtain ⟨y, hy⟩ : ∃ y, Bs.bit ws' k = y := ⟨_, rfl⟩
            rw [hx] at e1
            rw [hy] at e2
            have HS' := Lib.hid (HS.out.set k (.bool ((fun p q => p && !q) x y)) (by rw [bvals_len]; omega))
            have hf := fif_succ m k (fun i => (fun p q => p && !q) (Bs.bit ws i) (Bs.bit ws' i)) hlt
            rw [← hx, ← hy] at HS'
            rw [hf, hx, hy] at HS'
            have hlt' : (k : Int) < (m : Int) := by omega
            clear hx hy hf hcs1 hcs2
            cases x <;> cases y <;> (
              go_wp2_with fail
              go_roundw
              case rel => exact ⟨k + 1, by omega, by go_num, HS', HBU.out.setCell (Nat.le_refl _) _⟩
              case measure => simp [intOf]; omega)
          · obtain rfl : k = m := by omega
            have hbv : (bvals k fun i => decide (i < k) && (fun p q => p && !q) (Bs.bit ws i) (Bs.bit ws' i)) = bvals k fun i => (fun p q => p && !q) (Bs.bit ws i) (Bs.bit ws' i) := bvals_congr fun i hi => by rw [decide_eq_true hi, Bool.true_and]
            rw [hbv] at HS
            obtain ⟨L, hL⟩ : ∃ L, (k + 63) / 64 = L := ⟨_, rfl⟩
            have HL := Lib.hid hL
            clear hL hbv
            go_wp2_with fail
            go_at_call 49
            refine (make_b k _ k _ hm L HL _ (Fl.ofCs HS.out hm)).mono ?_
            rintro e w5 ⟨⟨A5, c5, rfl, hO5⟩, hb5⟩
            have HR5 := Lib.hid ((HX.out.cr.next HBU.out).next hb5)
            have HB5 := Lib.hid ((HY.out.trans (HBU.out.mono HY.out.size)).trans (hb5.mono (Nat.le_trans HY.out.size HBU.out.size)))
            have HO5 := Lib.hid (hO5.mono (B' := w.heap.size + 3) (by have := HUL.out; have := HBU.out.size; omega))
            clear hb5 hO5 HS HBU HX HY HQ1 HQ2 c0
            have r0 := HR5.out.at 0 _ rfl
            have r1 := HR5.out.at 1 _ rfl
            have f0 := HR5.out.free 0
            have f1 := HR5.out.free 1
            go_wp2_with fail
            obtain ⟨k0, k1⟩ := two_cells HR5.out (.int .i64 k) (.slice A5 L c5)
            refine bodyPost_ret (v := .tuple #[.agg #[.int .i64 k, .slice A5 L c5], .int .i64 0]) (by simp [results, Tryd.results34, go_sem, k0, k1]) rfl ?_
            rw [HRR.out]
            exact fin_set HO5.out (by omega) (by omega) HB5.out _ _
      · have hR : R = (0, [], 2) := by rw [← H.out]; exact comR_bad (by unfold pairR; rw [if_neg (by rw [HVV.out, hv']; simp), if_neg hnn]) (by decide)
        subst hR
        have hd : (n != n') = true := by simp [hnn]
        clear H hv' hnn
        go_wp2_with fail
        obtain ⟨k0, k1⟩ := two_cells HR.out (.int .i64 0) (.slice none 0 0)
        refine bodyPost_ret (v := .tuple #[.agg #[.int .i64 0, .slice none 0 0], .int .i64 2]) (by simp [results, Tryd.results34, go_sem, k0, k1]) rfl ?_
        exact post_bad rfl ((HB.out.setCell (by show _ ≤ _ + 2; omega) _).setCell (by show _ ≤ _ + 2; omega) _)
end Go.Proofs.YtpapbpekihgnlaaDoor
