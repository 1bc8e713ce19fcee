/-
  The reference's Join of a policy, and the walk over PolicyLevels.
  The walk over PolicyLevels.
-/
import Derived.Test.YtnipigninbeplaaDoorPM
namespace Go.Proofs.YtnipigninbeplaaDoor
open Go.RowKit

set_option maxRecDepth 100000 in
set_option maxHeartbeats 4000000 in
theorem rjoin19_b (p : Py) (An : Option Addr) (ln cn : Nat) (Ao : Option Addr) (lo co : Nat) (Ai : Option Addr) (li ci : Nat) (Ah : Option Addr) (lh ch : Nat) (hq : polC p = 0) (A : Option Addr) (l c : Nat) (zs : List Int) (hal : AllLv p.levels.length zs) (r : Nat) (H : Hid (jaK p.levels.length (lvM p) (lastK (dnM (lvM p)) p.levels.length) zs = r)) (w : World) (hp : PyOk w An ln cn Ao lo co Ai li ci Ah lh ch p) (hz : Zs w A l c zs) :
    Calls Tryd.prog 21 #[.agg (pyV An ln cn Ao lo co Ai li ci Ah lh ch p.obs p.timed), .slice A l c] w fun e w' => e = .returned (.int .i64 r) ∧ Below w.heap.size w w' := by
  have HP := Lib.hid hp
  have HZ := Lib.hid hz
  have HZL := Lib.hid hz.len
  have HAL := Lib.hid hal
  have hlc : l ≤ 9223372036854775807 := by have := hz.cap; have := hz.big; unfold maxLen at this; omega
  have HC0 := Lib.hid (Cs.new w (pyV An ln cn Ao lo co Ai li ci Ah lh ch p.obs p.timed) 26)
  have HB0 := Lib.hid ((Below.refl w.heap.size w).alloc (Nat.le_refl _) (.cells (pyV An ln cn Ao lo co Ai li ci Ah lh ch p.obs p.timed) 26))
  unfold pyV at HC0 HB0 ⊢
  have HQ := Lib.hid hq
  have HW := Lib.hid (polC_lw hq)
  obtain ⟨s, hs⟩ : ∃ s, lastK (dnM (lvM p)) p.levels.length = s := ⟨_, rfl⟩
  have HS := Lib.hid hs
  rw [hs] at H
  have HSN : Hid (s < p.levels.length) := Lib.hid (by rw [← hs]; exact lastK_lt (polC_lw hq).n0 _ (Nat.le_refl _))
  clear hp hq hz hal hs
  go_enter Tryd.func21, Tryd.ntmps21
  go_upto_region 1 with fail
  obtain ⟨w1, hw1⟩ : ∃ z, w.alloc (.cells #[.slice An ln cn, .slice Ao lo co, .slice Ai li ci, .slice Ah lh ch, .int .i64 p.obs, .bool p.timed] 26) = z := ⟨_, rfl⟩
  obtain ⟨bp, hbp⟩ : ∃ z, w.heap.size = z := ⟨_, rfl⟩
  have HB1 : Hid (Below w.heap.size w w1) := hw1 ▸ HB0
  have HC1 : Hid (Cs w1 bp [.slice An ln cn, .slice Ao lo co, .slice Ai li ci, .slice Ah lh ch, .int .i64 p.obs, .bool p.timed]) := hw1 ▸ hbp ▸ HC0
  rw [hw1, hbp]
  clear hw1 HB0 HC0 hbp
  obtain ⟨c0, c1, c2, c3, c4, c5⟩ := HC1.out.six
  go_upto_region 2 with (first | (go_at_call 41; refine (rlattice_b p An ln cn Ao lo co Ai li ci Ah lh ch HQ.out _ (HP.out.below HB1.out)).mono ?_; rintro e w2 ⟨A1, k1, q, k2, rb, rfl, hm2, hb2⟩; have HB2 := Lib.hid (HB1.out.trans (hb2.mono HB1.out.size)); have HM2 := Lib.hid hm2; clear hb2 hm2) | fail)
  clear c0 c1 c2 c3 c4 c5
  have HM3 := Lib.hid (HM2.out.alloc (.cells #[.slice A1 p.levels.length k1, .slice (some ⟨q, 0, none⟩) p.levels.length k2] 58))
  have HB3 := Lib.hid (HB2.out.alloc HB2.out.size (.cells #[.slice A1 p.levels.length k1, .slice (some ⟨q, 0, none⟩) p.levels.length k2] 58))
  have HC3 := Lib.hid (Cs.new w2 #[.slice A1 p.levels.length k1, .slice (some ⟨q, 0, none⟩) p.levels.length k2] 58)
  obtain ⟨w3, hw3⟩ : ∃ z, w2.alloc (.cells #[.slice A1 p.levels.length k1, .slice (some ⟨q, 0, none⟩) p.levels.length k2] 58) = z := ⟨_, rfl⟩
  obtain ⟨b5, hb5⟩ : ∃ z, w2.heap.size = z := ⟨_, rfl⟩
  rw [hw3] at HM3 HB3 HC3
  rw [hb5] at HC3
  rw [hw3, hb5]
  clear hw3 hb5 HM2 HB2 HC1 HB1
  have c0 := HC3.out.at 0 _ rfl
  have c1 := HC3.out.at 1 _ rfl
  go_wp2_with (first | (go_at_call 42; refine (rbottom_b q p.levels.length k1 k2 rb (lvM p) A1 HW.out.n0 HW.out.n12 s HS _ HM3.out).mono ?_; rintro e w4 ⟨rfl, hb4⟩; have HM4 := Lib.hid (HM3.out.next hb4); have HC4 := Lib.hid (HC3.out.next hb4); have HB4 := Lib.hid (HB3.out.trans (hb4.mono HB3.out.size)); clear hb4) | fail)
  clear c0 c1
  go_loopw [6, 7] (fun u v wr => ∃ k b : Nat, k ≤ l ∧ b < p.levels.length ∧ u = .int .i64 b ∧ v = .int .i64 k ∧ Hid (jaK p.levels.length (lvM p) s (zs.take k) = b) ∧ Hid (Mem wr q p.levels.length p.levels.length rb (lvM p)) ∧ Hid (Cs wr b5 [.slice A1 p.levels.length k1, .slice (some ⟨q, 0, none⟩) p.levels.length k2]) ∧ Hid (Below w.heap.size w wr)) (fun _ v _ => l - (intOf v).toNat)
  case atStart => exact ⟨0, s, Nat.zero_le _, HSN.out, rfl, rfl, Lib.hid rfl, HM4, HC4, HB4⟩
  case round =>
    clear HM4 HC4 HB4
    obtain ⟨k, b, hk, hb, rfl, rfl, HK, HM5, HC5, HB5⟩ := hrel
    have hk0 : (0 : Int) ≤ (k : Int) := by omega
    have hb0 : (0 : Int) ≤ (b : Int) := by omega
    by_cases hkn : k < l
    · have hki : (k : Int) < (l : Int) := by omega
      obtain ⟨g, f, hA, hg, hc⟩ := (HZ.out.below HB5.out).mem (by omega)
      have k0 := hc k hkn
      subst hA
      have hkz : k < zs.length := by rw [HZL.out]; exact hkn
      have HGD : Hid (zs[k]? = some (zs.getD k 0)) := Lib.hid (by rw [List.getD_eq_getElem?_getD, List.getElem?_eq_getElem hkz]; rfl)
      obtain ⟨z, hzz⟩ : ∃ z, zs.getD k 0 = z := ⟨_, rfl⟩
      rw [hzz] at k0 HGD
      obtain ⟨z0, z1⟩ := HAL.out z (List.mem_of_getElem? HGD.out)
      obtain ⟨a, rfl⟩ : ∃ a : Nat, z = a := ⟨z.toNat, by omega⟩
      have ha : a < p.levels.length := by omega
      obtain ⟨d, hd⟩ := Option.isSome_iff_exists.1 (HW.out.bu b a hb ha)
      have HD := Lib.hid hd
      have HN : Hid (jaK p.levels.length (lvM p) s (zs.take (k + 1)) = d) := Lib.hid (by
        rw [List.take_add_one, HGD.out, Option.toList_some, jaK_snoc, HK.out]
        unfold jfM
        rw [show ((a : Nat) : Int).toNat = a from rfl, hd]
        rfl)
      have hdn : d < p.levels.length := bdM_lt hd
      have HAB : Hid (b < p.levels.length ∧ a < p.levels.length) := Lib.hid ⟨hb, ha⟩
      have HK0 := Lib.hid k0
      have HC6 := Lib.hid HC5.out.drew
      have HM6 := Lib.hid HM5.out.drew
      have HB6 := Lib.hid HB5.out.drew
      have KP : Hid (∀ W, Cs W b5 [.slice A1 p.levels.length k1, .slice (some ⟨q, 0, none⟩) p.levels.length k2] → Below wr.heap.size wr W → (W.cell? ⟨b5, 0, none⟩ = some (.slice A1 p.levels.length k1) ∧ W.cell? ⟨b5, 1, none⟩ = some (.slice (some ⟨q, 0, none⟩) p.levels.length k2) ∧ W.cell? ⟨g, f + k, none⟩ = some (.int .i64 a))) := Lib.hid (fun W h hb => ⟨h.at 0 _ rfl, h.at 1 _ rfl, (hb.cell (p := ⟨g, f + k, none⟩) hg).trans k0⟩)
      have HBD := Lib.hid (Below.refl wr.heap.size wr).drew
      clear hd hzz hc k0 hb ha
      go_upto_region 6 with fail
      go_region_held3 (fun W => W.cell? ⟨b5, 0, none⟩ = some (.slice A1 p.levels.length k1) ∧ W.cell? ⟨b5, 1, none⟩ = some (.slice (some ⟨q, 0, none⟩) p.levels.length k2) ∧ W.cell? ⟨g, f + k, none⟩ = some (.int .i64 a)) (first | with_reducible exact KP.out _ HC7.out HBE.out | with_reducible exact KP.out _ HC6.out HBD.out)
        ((go_at_call 43; refine (rjoin_b q p.levels.length k1 k2 rb (lvM p) A1 b a HAB.out.1 HAB.out.2 (some d) d HD (Lib.hid rfl) _ HM6.out HW.out.n12).mono ?_; rintro e w7 ⟨rfl, hb7⟩; have HC7 := Lib.hid (HC6.out.next hb7); have HM7 := Lib.hid (HM6.out.next hb7); have HB7 := Lib.hid (HB6.out.trans (hb7.mono HB6.out.size)); have HBE := Lib.hid (HBD.out.trans (hb7.mono HBD.out.size)); clear hb7))
      go_wp2_with fail
      go_roundw
      case rel => exact ⟨k + 1, d, by omega, hdn, rfl, by go_num, HN, HM7, HC7, HB7⟩
      case measure => simp [intOf]; omega
    · have hki : ¬ ((k : Int) < (l : Int)) := by omega
      obtain rfl : l = k := by omega
      obtain rfl : b = r := by rw [← HK.out, List.take_of_length_le (by rw [HZL.out]; exact Nat.le_refl _)]; exact H.out
      go_wp2_with fail
      go_ret
      exact ⟨rfl, HB5.out⟩
set_option maxHeartbeats 2000000 in
theorem in_b (bp : Nat) (An : Option Addr) (ln cn : Nat) (z : Int) (r : Bool) (H : Hid (levB ln z = r)) (w : World) (c0 : w.cell? ⟨bp, 0, none⟩ = some (.slice An ln cn)) :
    Calls Tryd.prog 19 #[.int .i64 z, .pointer (some ⟨bp, 0, none⟩)] w fun e w' => e = .returned (.bool r) ∧ w = w' := by
  by_cases ha : 0 ≤ z
  · by_cases hl : z < ln
    · obtain rfl : r = true := by rw [← H.out]; unfold levB; rw [decide_eq_true ha, decide_eq_true hl]; rfl
      clear H
      go_enter Tryd.func19, Tryd.ntmps19
      go_wp2_with fail
      go_ret
      exact ⟨rfl, rfl⟩
    · obtain rfl : r = false := by rw [← H.out]; unfold levB; rw [decide_eq_false hl, Bool.and_false]
      clear H
      go_enter Tryd.func19, Tryd.ntmps19
      go_wp2_with fail
      go_ret
      exact ⟨rfl, rfl⟩
  · obtain rfl : r = false := by rw [← H.out]; unfold levB; rw [decide_eq_false ha, Bool.false_and]
    clear H
    go_enter Tryd.func19, Tryd.ntmps19
    go_wp2_with fail
    go_ret
    exact ⟨rfl, rfl⟩

theorem belowC_1 {p : Py} {a b : Int} (h : polC p ≠ 0) : belowC p a b = (false, 1) := by unfold belowC; rw [if_pos h]
theorem belowC_2 {p : Py} {a b : Int} (h : polC p = 0) (h1 : levB p.levels.length a = true) (h2 : levB p.levels.length b = true) : belowC p a b = (mget (lvM p) a.toNat b.toNat, 0) := by
  unfold belowC; rw [if_neg (by rw [h]; decide), if_pos (by rw [h1, h2]; rfl)]
theorem belowC_3 {p : Py} {a b : Int} (h : polC p = 0) (h1 : levB p.levels.length a = false ∨ levB p.levels.length b = false) : belowC p a b = (false, 3) := by
  unfold belowC; rw [if_neg (by rw [h]; decide), if_neg]
  rcases h1 with h1 | h1 <;> rw [h1] <;> simp
theorem joinC_1 {p : Py} {zs : List Int} (h : polC p ≠ 0) : joinC p zs = (0, 1) := by unfold joinC; rw [if_pos h]
set_option maxRecDepth 100000 in
set_option maxHeartbeats 8000000 in
theorem levels_b (p : Py) (An : Option Addr) (ln cn : Nat) (Ao : Option Addr) (lo co : Nat) (Ai : Option Addr) (li ci : Nat) (Ah : Option Addr) (lh ch : Nat) (A : Option Addr) (l c : Nat) (zs : List Int) (a b m : Int) (w : World) (hm : w.cell? ⟨0, 0, none⟩ = some (.int .i64 m)) (hp : PyOk w An ln cn Ao lo co Ai li ci Ah lh ch p) (hz : Zs w A l c zs) :
    Calls Tryd.prog 7 #[.agg (pyV An ln cn Ao lo co Ai li ci Ah lh ch p.obs p.timed), .slice A l c, .agg #[.int .i64 a, .int .i64 b]] w fun e w' => e = .returned (.bool true) ∧ Below w.heap.size w w' := by
  have HMB : Hid (∀ W, Below w.heap.size w W → W.cell? ⟨0, 0, none⟩ = some (.int .i64 m)) := Lib.hid (fun W hb => (hb.cell (p := ⟨0, 0, none⟩) (World.block_lt_of_cell? _ _ hm)).trans hm)
  have HP := Lib.hid hp
  have HZ := Lib.hid hz
  have HZL := Lib.hid hz.len
  have HLN := Lib.hid hp.n.len
  have hlc : l ≤ 9223372036854775807 := by have := hz.cap; have := hz.big; unfold maxLen at this; omega
  have HC0 := Lib.hid (Cs.new w (pyV An ln cn Ao lo co Ai li ci Ah lh ch p.obs p.timed) 26)
  have HB0 := Lib.hid ((Below.refl w.heap.size w).alloc (Nat.le_refl _) (.cells (pyV An ln cn Ao lo co Ai li ci Ah lh ch p.obs p.timed) 26))
  unfold pyV at HC0 HB0 ⊢
  have HC1 := Lib.hid (HC0.out.alloc (.cells #[.int .i64 a, .int .i64 b] 42))
  have HB1 := Lib.hid (HB0.out.alloc HB0.out.size (.cells #[.int .i64 a, .int .i64 b] 42))
  have HD1 := Lib.hid (Cs.new (w.alloc (.cells #[.slice An ln cn, .slice Ao lo co, .slice Ai li ci, .slice Ah lh ch, .int .i64 p.obs, .bool p.timed] 26)) #[.int .i64 a, .int .i64 b] 42)
  have HSZ : Hid ((w.alloc (.cells #[.slice An ln cn, .slice Ao lo co, .slice Ai li ci, .slice Ah lh ch, .int .i64 p.obs, .bool p.timed] 26)).heap.size = w.heap.size + 1) := Lib.hid (by simp)
  rw [HSZ.out] at HD1
  obtain ⟨fb, hfb⟩ : ∃ b, fewB 20 ln lo li lh = b := ⟨_, rfl⟩
  have HFB := Lib.hid hfb
  obtain ⟨r, hr⟩ : ∃ r, polC p = r := ⟨_, rfl⟩
  have HR := Lib.hid hr
  obtain ⟨⟨bv, bc⟩, hbel⟩ : ∃ x, belowC p a b = x := ⟨_, rfl⟩
  have HBEL := Lib.hid hbel
  obtain ⟨⟨jn, jc⟩, hj⟩ : ∃ x, joinC p zs = x := ⟨_, rfl⟩
  have HJ := Lib.hid hj
  have hmf : ∀ (fn : Fn) (first cap : Array Value) (w : World), (Instr.makeFunc fn first cap).run Tryd.prog w = .ok (.func fn first cap) w := fun _ _ _ _ => rfl
  clear hm hp hfb hr hbel hj hz HB0 HC0 HSZ
  go_enter Tryd.func7, Tryd.ntmps7
  go_upto_region 1 with fail
  obtain ⟨w1, hw1⟩ : ∃ z, (w.alloc (.cells #[.slice An ln cn, .slice Ao lo co, .slice Ai li ci, .slice Ah lh ch, .int .i64 p.obs, .bool p.timed] 26)).alloc (.cells #[.int .i64 a, .int .i64 b] 42) = z := ⟨_, rfl⟩
  rw [hw1] at HB1 HC1 HD1
  rw [hw1]
  obtain ⟨bp, hbp⟩ : ∃ z, w.heap.size = z := ⟨_, rfl⟩
  obtain ⟨bq, hbq⟩ : ∃ z, bp + 1 = z := ⟨_, rfl⟩
  rw [hbp] at HC1 HD1
  rw [hbq] at HD1
  rw [hbp, hbq]
  clear hw1 hbp hbq
  go_upto_region 3 with (first | (go_at_call 8; refine (known_b m _ (HMB.out _ HB1.out)).mono ?_; rintro e w2 ⟨rfl, hb2⟩; have HB2 := Lib.hid (HB1.out.trans (hb2.mono HB1.out.size)); have HC2 := Lib.hid (HC1.out.next hb2); have HD2 := Lib.hid (HD1.out.next hb2); clear hb2) | fail)
  obtain ⟨c0, c1, c2, c3, c4, c5⟩ := HC2.out.six
  cases fb with
  | false =>
    go_wp2_with (first | (go_at_call 9; refine (few_b p An ln cn Ao lo co Ai li ci Ah lh ch 20 (by omega) (by omega) false HFB _ (HP.out.below HB2.out)).mono ?_; rintro e w3 ⟨rfl, hb3⟩; have HB3 := Lib.hid (HB2.out.trans (hb3.mono HB2.out.size)); have HC3 := Lib.hid (HC2.out.next hb3); have HD3 := Lib.hid (HD2.out.next hb3); clear hb3; clear c0 c1 c2 c3 c4 c5; obtain ⟨c0, c1, c2, c3, c4, c5⟩ := HC3.out.six; have d0 := HD3.out.at 0 _ rfl; have d1 := HD3.out.at 1 _ rfl) | fail)
    go_ret
    exact ⟨rfl, HB3.out⟩
  | true =>
    by_cases h20 : 20 < l
    · have h20i : (20 : Int) < (l : Int) := by omega
      go_wp2_with (first | (go_at_call 9; refine (few_b p An ln cn Ao lo co Ai li ci Ah lh ch 20 (by omega) (by omega) true HFB _ (HP.out.below HB2.out)).mono ?_; rintro e w3 ⟨rfl, hb3⟩; have HB3 := Lib.hid (HB2.out.trans (hb3.mono HB2.out.size)); have HC3 := Lib.hid (HC2.out.next hb3); have HD3 := Lib.hid (HD2.out.next hb3); clear hb3; clear c0 c1 c2 c3 c4 c5; obtain ⟨c0, c1, c2, c3, c4, c5⟩ := HC3.out.six; have d0 := HD3.out.at 0 _ rfl; have d1 := HD3.out.at 1 _ rfl) | fail)
      go_ret
      exact ⟨rfl, HB3.out⟩
    have h20i : ¬ (20 : Int) < (l : Int) := by omega
    by_cases hr0 : r = 0
    · have hq : polC p = 0 := HR.out.trans hr0
      have HQ := Lib.hid hq
      have HW := Lib.hid (polC_lw hq)
      subst hr0
      obtain ⟨la, hla⟩ : ∃ z, levB p.levels.length a = z := ⟨_, rfl⟩
      obtain ⟨lb, hlb⟩ : ∃ z, levB p.levels.length b = z := ⟨_, rfl⟩
      have HLA := Lib.hid hla
      have HLB := Lib.hid hlb
      have HIA : Hid (levB ln a = la) := Lib.hid (by rw [← HLN.out]; exact hla)
      have HIB : Hid (levB ln b = lb) := Lib.hid (by rw [← HLN.out]; exact hlb)
      clear hla hlb hq
      cases la with
      | true =>
        cases lb with
        | true =>
          have hx := HBEL.out
          rw [belowC_2 HQ.out HLA.out HLB.out] at hx
          injection hx with e1 e2
          subst e2
          obtain ⟨a0, a1⟩ := lev_is HLA.out
          obtain ⟨b0, b1⟩ := lev_is HLB.out
          obtain ⟨an, rfl⟩ : ∃ an : Nat, a = an := ⟨a.toNat, by omega⟩
          obtain ⟨bn, rfl⟩ : ∃ bn : Nat, b = bn := ⟨b.toNat, by omega⟩
          have HMG : Hid (mget (lvM p) an bn = bv) := Lib.hid e1
          have HAN : Hid (an < p.levels.length ∧ bn < p.levels.length) := Lib.hid (by omega)
          clear e1 a0 a1 b0 b1
          go_upto_region 9 with (first | (go_at_call 9; refine (few_b p An ln cn Ao lo co Ai li ci Ah lh ch 20 (by omega) (by omega) true HFB _ (HP.out.below HB2.out)).mono ?_; rintro e w3 ⟨rfl, hb3⟩; have HB3 := Lib.hid (HB2.out.trans (hb3.mono HB2.out.size)); have HC3 := Lib.hid (HC2.out.next hb3); have HD3 := Lib.hid (HD2.out.next hb3); clear hb3; clear c0 c1 c2 c3 c4 c5; obtain ⟨c0, c1, c2, c3, c4, c5⟩ := HC3.out.six; have d0 := HD3.out.at 0 _ rfl; have d1 := HD3.out.at 1 _ rfl) | (go_at_call 17; refine (pbelow_b p An ln cn Ao lo co Ai li ci Ah lh ch an bn (bv, 0) HBEL _ (HP.out.below HB3.out)).mono ?_; rintro e w4 ⟨rfl, hb4⟩; have HB4 := Lib.hid (HB3.out.trans (hb4.mono HB3.out.size)); have HC4 := Lib.hid (HC3.out.next hb4); have HD4 := Lib.hid (HD3.out.next hb4); clear hb4; clear c0 c1 c2 c3 c4 c5 d0 d1; obtain ⟨c0, c1, c2, c3, c4, c5⟩ := HC4.out.six; have d0 := HD4.out.at 0 _ rfl; have d1 := HD4.out.at 1 _ rfl) | (go_at_call 18; refine (pjoin_b p An ln cn Ao lo co Ai li ci Ah lh ch A l c zs (jn, jc) HJ _ (HP.out.below HB4.out) (HZ.out.below HB4.out)).mono ?_; rintro e w5 ⟨rfl, hb5⟩; have HB5 := Lib.hid (HB4.out.trans (hb5.mono HB4.out.size)); have HC5 := Lib.hid (HC4.out.next hb5); have HD5 := Lib.hid (HD4.out.next hb5); clear hb5; clear c0 c1 c2 c3 c4 c5 d0 d1; obtain ⟨c0, c1, c2, c3, c4, c5⟩ := HC5.out.six; have d0 := HD5.out.at 0 _ rfl; have d1 := HD5.out.at 1 _ rfl) | (go_at_call 11; refine (rcheck_b p An ln cn Ao lo co Ai li ci Ah lh ch 0 HR _ (HP.out.below HB5.out)).mono ?_; rintro e w6 ⟨rfl, hb6⟩; have HB6 := Lib.hid (HB5.out.trans (hb6.mono HB5.out.size)); have HC6 := Lib.hid (HC5.out.next hb6); have HD6 := Lib.hid (HD5.out.next hb6); clear hb6; clear c0 c1 c2 c3 c4 c5 d0 d1; obtain ⟨c0, c1, c2, c3, c4, c5⟩ := HC6.out.six; have d0 := HD6.out.at 0 _ rfl; have d1 := HD6.out.at 1 _ rfl) | fail)
          have HIN := Lib.hid c0
          cases bv with
          | true =>
            go_wp2_with (first | (go_at_call 19; first | (refine (in_b bp An ln cn an true HIA _ HIN.out).mono ?_; rintro e wy ⟨rfl, rfl⟩; clear HIA) | (refine (in_b bp An ln cn bn true HIB _ HIN.out).mono ?_; rintro e wy ⟨rfl, rfl⟩)) | (go_at_call 20; refine (rle_b p An ln cn Ao lo co Ai li ci Ah lh ch HQ.out an bn HAN.out.1 HAN.out.2 true HMG _ (HP.out.below HB6.out)).mono ?_; rintro e w7 ⟨rfl, hb7⟩; have HB7 := Lib.hid (HB6.out.trans (hb7.mono HB6.out.size)); have HC7 := Lib.hid (HC6.out.next hb7); clear hb7; clear c0 c1 c2 c3 c4 c5 d0 d1; have HI7 := Lib.hid (HC7.out.at 0 _ rfl); obtain ⟨c0, c1, c2, c3, c4, c5⟩ := HC7.out.six) | fail)
            go_loop [88] (fun v => ∃ k : Nat, k ≤ l ∧ v = .int .i64 k ∧ Hid ((zs.take k).all (levB p.levels.length) = true)) (fun v => l - (intOf v).toNat)
            case atStart => exact ⟨0, Nat.zero_le _, rfl, Lib.hid rfl⟩
            case round =>
              obtain ⟨k, hk, rfl, HK⟩ := hrel
              have hk0 : (0 : Int) ≤ (k : Int) := by omega
              by_cases hkn : k < l
              · have hki : (k : Int) < (l : Int) := by omega
                obtain ⟨g, f, hA, hg, hc⟩ := (HZ.out.below HB7.out).mem (by omega)
                have k0 := hc k hkn
                subst hA
                have hkz : k < zs.length := by rw [HZL.out]; exact hkn
                have HGD : Hid (zs[k]? = some (zs.getD k 0)) := Lib.hid (by rw [List.getD_eq_getElem?_getD, List.getElem?_eq_getElem hkz]; rfl)
                obtain ⟨z, hzz⟩ : ∃ z, zs.getD k 0 = z := ⟨_, rfl⟩
                rw [hzz] at k0 HGD
                clear hzz hc
                by_cases hL : levB p.levels.length z = true
                · have HN : Hid ((zs.take (k + 1)).all (levB p.levels.length) = true) := Lib.hid (by rw [List.take_add_one, HGD.out, Option.toList_some, List.all_append, HK.out]; simp [hL])
                  have HLZ : Hid (levB ln z = true) := Lib.hid (by rw [← HLN.out]; exact hL)
                  clear hL
                  go_wp2_with (first | (go_at_call 19; refine (in_b bp An ln cn z true HLZ _ HI7.out).mono ?_; rintro e wy ⟨rfl, rfl⟩) | fail)
                  go_round
                  case rel => exact ⟨k + 1, by omega, by go_num, HN⟩
                  case measure => simp [intOf]; omega
                · have hr : (jn, jc) = ((0 : Nat), (3 : Int)) := by
                    rw [← HJ.out]
                    unfold joinC
                    rw [if_neg (by rw [HQ.out]; decide), if_neg (fun h => hL (List.all_eq_true.1 h z (List.mem_of_getElem? HGD.out)))]
                  injection hr with e1 e2
                  subst e1 e2
                  have HLZ : Hid (levB ln z = false) := Lib.hid (by rw [← HLN.out]; simpa using hL)
                  clear hL
                  go_wp2_with (first | (go_at_call 19; refine (in_b bp An ln cn z false HLZ _ HI7.out).mono ?_; rintro e wy ⟨rfl, rfl⟩) | fail)
                  go_ret
                  exact ⟨rfl, HB7.out⟩
              · have hki : ¬ ((k : Int) < (l : Int)) := by omega
                obtain rfl : l = k := by omega
                have HAL : Hid (zs.all (levB p.levels.length) = true) := Lib.hid (by have h := HK.out; rw [List.take_of_length_le (by rw [HZL.out]; exact Nat.le_refl _)] at h; exact h)
                have hr : (jn, jc) = (jaK p.levels.length (lvM p) (bndK p.levels.length (dnM (lvM p)) p.levels.length) zs, (0 : Int)) := by
                  rw [← HJ.out]
                  unfold joinC
                  rw [if_neg (by rw [HQ.out]; decide), if_pos HAL.out]
                injection hr with e1 e2
                subst e2
                have HJJ : Hid (jaK p.levels.length (lvM p) (lastK (dnM (lvM p)) p.levels.length) zs = jn) := Lib.hid (by rw [e1, bnd_last HW.out.dn HW.out.bd HW.out.n0])
                clear e1
                go_wp2_with (first | (go_at_call 21; refine (rjoin19_b p An ln cn Ao lo co Ai li ci Ah lh ch HQ.out A l c zs (allLv_of HAL.out) jn HJJ _ (HP.out.below HB7.out) (HZ.out.below HB7.out)).mono ?_; rintro e w6 ⟨rfl, hb6⟩; have HB6 := Lib.hid (HB7.out.trans (hb6.mono HB7.out.size)); clear hb6) | fail)
                go_ret
                exact ⟨rfl, HB6.out⟩
          | false =>
            go_wp2_with (first | (go_at_call 19; first | (refine (in_b bp An ln cn an true HIA _ HIN.out).mono ?_; rintro e wy ⟨rfl, rfl⟩; clear HIA) | (refine (in_b bp An ln cn bn true HIB _ HIN.out).mono ?_; rintro e wy ⟨rfl, rfl⟩)) | (go_at_call 20; refine (rle_b p An ln cn Ao lo co Ai li ci Ah lh ch HQ.out an bn HAN.out.1 HAN.out.2 false HMG _ (HP.out.below HB6.out)).mono ?_; rintro e w7 ⟨rfl, hb7⟩; have HB7 := Lib.hid (HB6.out.trans (hb7.mono HB6.out.size)); have HC7 := Lib.hid (HC6.out.next hb7); clear hb7; clear c0 c1 c2 c3 c4 c5 d0 d1; have HI7 := Lib.hid (HC7.out.at 0 _ rfl); obtain ⟨c0, c1, c2, c3, c4, c5⟩ := HC7.out.six) | fail)
            go_loop [88] (fun v => ∃ k : Nat, k ≤ l ∧ v = .int .i64 k ∧ Hid ((zs.take k).all (levB p.levels.length) = true)) (fun v => l - (intOf v).toNat)
            case atStart => exact ⟨0, Nat.zero_le _, rfl, Lib.hid rfl⟩
            case round =>
              obtain ⟨k, hk, rfl, HK⟩ := hrel
              have hk0 : (0 : Int) ≤ (k : Int) := by omega
              by_cases hkn : k < l
              · have hki : (k : Int) < (l : Int) := by omega
                obtain ⟨g, f, hA, hg, hc⟩ := (HZ.out.below HB7.out).mem (by omega)
                have k0 := hc k hkn
                subst hA
                have hkz : k < zs.length := by rw [HZL.out]; exact hkn
                have HGD : Hid (zs[k]? = some (zs.getD k 0)) := Lib.hid (by rw [List.getD_eq_getElem?_getD, List.getElem?_eq_getElem hkz]; rfl)
                obtain ⟨z, hzz⟩ : ∃ z, zs.getD k 0 = z := ⟨_, rfl⟩
                rw [hzz] at k0 HGD
                clear hzz hc
                by_cases hL : levB p.levels.length z = true
                · have HN : Hid ((zs.take (k + 1)).all (levB p.levels.length) = true) := Lib.hid (by rw [List.take_add_one, HGD.out, Option.toList_some, List.all_append, HK.out]; simp [hL])
                  have HLZ : Hid (levB ln z = true) := Lib.hid (by rw [← HLN.out]; exact hL)
                  clear hL
                  go_wp2_with (first | (go_at_call 19; refine (in_b bp An ln cn z true HLZ _ HI7.out).mono ?_; rintro e wy ⟨rfl, rfl⟩) | fail)
                  go_round
                  case rel => exact ⟨k + 1, by omega, by go_num, HN⟩
                  case measure => simp [intOf]; omega
                · have hr : (jn, jc) = ((0 : Nat), (3 : Int)) := by
                    rw [← HJ.out]
                    unfold joinC
                    rw [if_neg (by rw [HQ.out]; decide), if_neg (fun h => hL (List.all_eq_true.1 h z (List.mem_of_getElem? HGD.out)))]
                  injection hr with e1 e2
                  subst e1 e2
                  have HLZ : Hid (levB ln z = false) := Lib.hid (by rw [← HLN.out]; simpa using hL)
                  clear hL
                  go_wp2_with (first | (go_at_call 19; refine (in_b bp An ln cn z false HLZ _ HI7.out).mono ?_; rintro e wy ⟨rfl, rfl⟩) | fail)
                  go_ret
                  exact ⟨rfl, HB7.out⟩
              · have hki : ¬ ((k : Int) < (l : Int)) := by omega
                obtain rfl : l = k := by omega
                have HAL : Hid (zs.all (levB p.levels.length) = true) := Lib.hid (by have h := HK.out; rw [List.take_of_length_le (by rw [HZL.out]; exact Nat.le_refl _)] at h; exact h)
                have hr : (jn, jc) = (jaK p.levels.length (lvM p) (bndK p.levels.length (dnM (lvM p)) p.levels.length) zs, (0 : Int)) := by
                  rw [← HJ.out]
                  unfold joinC
                  rw [if_neg (by rw [HQ.out]; decide), if_pos HAL.out]
                injection hr with e1 e2
                subst e2
                have HJJ : Hid (jaK p.levels.length (lvM p) (lastK (dnM (lvM p)) p.levels.length) zs = jn) := Lib.hid (by rw [e1, bnd_last HW.out.dn HW.out.bd HW.out.n0])
                clear e1
                go_wp2_with (first | (go_at_call 21; refine (rjoin19_b p An ln cn Ao lo co Ai li ci Ah lh ch HQ.out A l c zs (allLv_of HAL.out) jn HJJ _ (HP.out.below HB7.out) (HZ.out.below HB7.out)).mono ?_; rintro e w6 ⟨rfl, hb6⟩; have HB6 := Lib.hid (HB7.out.trans (hb6.mono HB7.out.size)); clear hb6) | fail)
                go_ret
                exact ⟨rfl, HB6.out⟩
        | false =>
          have hx := HBEL.out
          rw [belowC_3 HQ.out (.inr HLB.out)] at hx
          injection hx with e1 e2
          subst e1 e2
          go_upto_region 9 with (first | (go_at_call 9; refine (few_b p An ln cn Ao lo co Ai li ci Ah lh ch 20 (by omega) (by omega) true HFB _ (HP.out.below HB2.out)).mono ?_; rintro e w3 ⟨rfl, hb3⟩; have HB3 := Lib.hid (HB2.out.trans (hb3.mono HB2.out.size)); have HC3 := Lib.hid (HC2.out.next hb3); have HD3 := Lib.hid (HD2.out.next hb3); clear hb3; clear c0 c1 c2 c3 c4 c5; obtain ⟨c0, c1, c2, c3, c4, c5⟩ := HC3.out.six; have d0 := HD3.out.at 0 _ rfl; have d1 := HD3.out.at 1 _ rfl) | (go_at_call 17; refine (pbelow_b p An ln cn Ao lo co Ai li ci Ah lh ch a b (false, 3) HBEL _ (HP.out.below HB3.out)).mono ?_; rintro e w4 ⟨rfl, hb4⟩; have HB4 := Lib.hid (HB3.out.trans (hb4.mono HB3.out.size)); have HC4 := Lib.hid (HC3.out.next hb4); have HD4 := Lib.hid (HD3.out.next hb4); clear hb4; clear c0 c1 c2 c3 c4 c5 d0 d1; obtain ⟨c0, c1, c2, c3, c4, c5⟩ := HC4.out.six; have d0 := HD4.out.at 0 _ rfl; have d1 := HD4.out.at 1 _ rfl) | (go_at_call 18; refine (pjoin_b p An ln cn Ao lo co Ai li ci Ah lh ch A l c zs (jn, jc) HJ _ (HP.out.below HB4.out) (HZ.out.below HB4.out)).mono ?_; rintro e w5 ⟨rfl, hb5⟩; have HB5 := Lib.hid (HB4.out.trans (hb5.mono HB4.out.size)); have HC5 := Lib.hid (HC4.out.next hb5); have HD5 := Lib.hid (HD4.out.next hb5); clear hb5; clear c0 c1 c2 c3 c4 c5 d0 d1; obtain ⟨c0, c1, c2, c3, c4, c5⟩ := HC5.out.six; have d0 := HD5.out.at 0 _ rfl; have d1 := HD5.out.at 1 _ rfl) | (go_at_call 11; refine (rcheck_b p An ln cn Ao lo co Ai li ci Ah lh ch 0 HR _ (HP.out.below HB5.out)).mono ?_; rintro e w6 ⟨rfl, hb6⟩; have HB6 := Lib.hid (HB5.out.trans (hb6.mono HB5.out.size)); have HC6 := Lib.hid (HC5.out.next hb6); have HD6 := Lib.hid (HD5.out.next hb6); clear hb6; clear c0 c1 c2 c3 c4 c5 d0 d1; obtain ⟨c0, c1, c2, c3, c4, c5⟩ := HC6.out.six; have d0 := HD6.out.at 0 _ rfl; have d1 := HD6.out.at 1 _ rfl) | fail)
          have HIN := Lib.hid c0
          go_wp2_with (first | (go_at_call 19; first | (refine (in_b bp An ln cn a true HIA _ HIN.out).mono ?_; rintro e wy ⟨rfl, rfl⟩; clear HIA) | (refine (in_b bp An ln cn b false HIB _ HIN.out).mono ?_; rintro e wy ⟨rfl, rfl⟩)) | fail)
          go_loop [88] (fun v => ∃ k : Nat, k ≤ l ∧ v = .int .i64 k ∧ Hid ((zs.take k).all (levB p.levels.length) = true)) (fun v => l - (intOf v).toNat)
          case atStart => exact ⟨0, Nat.zero_le _, rfl, Lib.hid rfl⟩
          case round =>
            obtain ⟨k, hk, rfl, HK⟩ := hrel
            have hk0 : (0 : Int) ≤ (k : Int) := by omega
            by_cases hkn : k < l
            · have hki : (k : Int) < (l : Int) := by omega
              obtain ⟨g, f, hA, hg, hc⟩ := (HZ.out.below HB6.out).mem (by omega)
              have k0 := hc k hkn
              subst hA
              have hkz : k < zs.length := by rw [HZL.out]; exact hkn
              have HGD : Hid (zs[k]? = some (zs.getD k 0)) := Lib.hid (by rw [List.getD_eq_getElem?_getD, List.getElem?_eq_getElem hkz]; rfl)
              obtain ⟨z, hzz⟩ : ∃ z, zs.getD k 0 = z := ⟨_, rfl⟩
              rw [hzz] at k0 HGD
              clear hzz hc
              by_cases hL : levB p.levels.length z = true
              · have HN : Hid ((zs.take (k + 1)).all (levB p.levels.length) = true) := Lib.hid (by rw [List.take_add_one, HGD.out, Option.toList_some, List.all_append, HK.out]; simp [hL])
                have HLZ : Hid (levB ln z = true) := Lib.hid (by rw [← HLN.out]; exact hL)
                clear hL
                go_wp2_with (first | (go_at_call 19; refine (in_b bp An ln cn z true HLZ _ HIN.out).mono ?_; rintro e wy ⟨rfl, rfl⟩) | fail)
                go_round
                case rel => exact ⟨k + 1, by omega, by go_num, HN⟩
                case measure => simp [intOf]; omega
              · have hr : (jn, jc) = ((0 : Nat), (3 : Int)) := by
                  rw [← HJ.out]
                  unfold joinC
                  rw [if_neg (by rw [HQ.out]; decide), if_neg (fun h => hL (List.all_eq_true.1 h z (List.mem_of_getElem? HGD.out)))]
                injection hr with e1 e2
                subst e1 e2
                have HLZ : Hid (levB ln z = false) := Lib.hid (by rw [← HLN.out]; simpa using hL)
                clear hL
                go_wp2_with (first | (go_at_call 19; refine (in_b bp An ln cn z false HLZ _ HIN.out).mono ?_; rintro e wy ⟨rfl, rfl⟩) | fail)
                go_ret
                exact ⟨rfl, HB6.out⟩
            · have hki : ¬ ((k : Int) < (l : Int)) := by omega
              obtain rfl : l = k := by omega
              have HAL : Hid (zs.all (levB p.levels.length) = true) := Lib.hid (by have h := HK.out; rw [List.take_of_length_le (by rw [HZL.out]; exact Nat.le_refl _)] at h; exact h)
              have hr : (jn, jc) = (jaK p.levels.length (lvM p) (bndK p.levels.length (dnM (lvM p)) p.levels.length) zs, (0 : Int)) := by
                rw [← HJ.out]
                unfold joinC
                rw [if_neg (by rw [HQ.out]; decide), if_pos HAL.out]
              injection hr with e1 e2
              subst e2
              have HJJ : Hid (jaK p.levels.length (lvM p) (lastK (dnM (lvM p)) p.levels.length) zs = jn) := Lib.hid (by rw [e1, bnd_last HW.out.dn HW.out.bd HW.out.n0])
              clear e1
              go_wp2_with (first | (go_at_call 21; refine (rjoin19_b p An ln cn Ao lo co Ai li ci Ah lh ch HQ.out A l c zs (allLv_of HAL.out) jn HJJ _ (HP.out.below HB6.out) (HZ.out.below HB6.out)).mono ?_; rintro e w6 ⟨rfl, hb6⟩; have HB6 := Lib.hid (HB6.out.trans (hb6.mono HB6.out.size)); clear hb6) | fail)
              go_ret
              exact ⟨rfl, HB6.out⟩
      | false =>
        have hx := HBEL.out
        rw [belowC_3 HQ.out (.inl HLA.out)] at hx
        injection hx with e1 e2
        subst e1 e2
        go_upto_region 9 with (first | (go_at_call 9; refine (few_b p An ln cn Ao lo co Ai li ci Ah lh ch 20 (by omega) (by omega) true HFB _ (HP.out.below HB2.out)).mono ?_; rintro e w3 ⟨rfl, hb3⟩; have HB3 := Lib.hid (HB2.out.trans (hb3.mono HB2.out.size)); have HC3 := Lib.hid (HC2.out.next hb3); have HD3 := Lib.hid (HD2.out.next hb3); clear hb3; clear c0 c1 c2 c3 c4 c5; obtain ⟨c0, c1, c2, c3, c4, c5⟩ := HC3.out.six; have d0 := HD3.out.at 0 _ rfl; have d1 := HD3.out.at 1 _ rfl) | (go_at_call 17; refine (pbelow_b p An ln cn Ao lo co Ai li ci Ah lh ch a b (false, 3) HBEL _ (HP.out.below HB3.out)).mono ?_; rintro e w4 ⟨rfl, hb4⟩; have HB4 := Lib.hid (HB3.out.trans (hb4.mono HB3.out.size)); have HC4 := Lib.hid (HC3.out.next hb4); have HD4 := Lib.hid (HD3.out.next hb4); clear hb4; clear c0 c1 c2 c3 c4 c5 d0 d1; obtain ⟨c0, c1, c2, c3, c4, c5⟩ := HC4.out.six; have d0 := HD4.out.at 0 _ rfl; have d1 := HD4.out.at 1 _ rfl) | (go_at_call 18; refine (pjoin_b p An ln cn Ao lo co Ai li ci Ah lh ch A l c zs (jn, jc) HJ _ (HP.out.below HB4.out) (HZ.out.below HB4.out)).mono ?_; rintro e w5 ⟨rfl, hb5⟩; have HB5 := Lib.hid (HB4.out.trans (hb5.mono HB4.out.size)); have HC5 := Lib.hid (HC4.out.next hb5); have HD5 := Lib.hid (HD4.out.next hb5); clear hb5; clear c0 c1 c2 c3 c4 c5 d0 d1; obtain ⟨c0, c1, c2, c3, c4, c5⟩ := HC5.out.six; have d0 := HD5.out.at 0 _ rfl; have d1 := HD5.out.at 1 _ rfl) | (go_at_call 11; refine (rcheck_b p An ln cn Ao lo co Ai li ci Ah lh ch 0 HR _ (HP.out.below HB5.out)).mono ?_; rintro e w6 ⟨rfl, hb6⟩; have HB6 := Lib.hid (HB5.out.trans (hb6.mono HB5.out.size)); have HC6 := Lib.hid (HC5.out.next hb6); have HD6 := Lib.hid (HD5.out.next hb6); clear hb6; clear c0 c1 c2 c3 c4 c5 d0 d1; obtain ⟨c0, c1, c2, c3, c4, c5⟩ := HC6.out.six; have d0 := HD6.out.at 0 _ rfl; have d1 := HD6.out.at 1 _ rfl) | fail)
        have HIN := Lib.hid c0
        go_wp2_with (first | (go_at_call 19; refine (in_b bp An ln cn a false HIA _ HIN.out).mono ?_; rintro e wy ⟨rfl, rfl⟩) | fail)
        go_loop [88] (fun v => ∃ k : Nat, k ≤ l ∧ v = .int .i64 k ∧ Hid ((zs.take k).all (levB p.levels.length) = true)) (fun v => l - (intOf v).toNat)
        case atStart => exact ⟨0, Nat.zero_le _, rfl, Lib.hid rfl⟩
        case round =>
          obtain ⟨k, hk, rfl, HK⟩ := hrel
          have hk0 : (0 : Int) ≤ (k : Int) := by omega
          by_cases hkn : k < l
          · have hki : (k : Int) < (l : Int) := by omega
            obtain ⟨g, f, hA, hg, hc⟩ := (HZ.out.below HB6.out).mem (by omega)
            have k0 := hc k hkn
            subst hA
            have hkz : k < zs.length := by rw [HZL.out]; exact hkn
            have HGD : Hid (zs[k]? = some (zs.getD k 0)) := Lib.hid (by rw [List.getD_eq_getElem?_getD, List.getElem?_eq_getElem hkz]; rfl)
            obtain ⟨z, hzz⟩ : ∃ z, zs.getD k 0 = z := ⟨_, rfl⟩
            rw [hzz] at k0 HGD
            clear hzz hc
            by_cases hL : levB p.levels.length z = true
            · have HN : Hid ((zs.take (k + 1)).all (levB p.levels.length) = true) := Lib.hid (by rw [List.take_add_one, HGD.out, Option.toList_some, List.all_append, HK.out]; simp [hL])
              have HLZ : Hid (levB ln z = true) := Lib.hid (by rw [← HLN.out]; exact hL)
              clear hL
              go_wp2_with (first | (go_at_call 19; refine (in_b bp An ln cn z true HLZ _ HIN.out).mono ?_; rintro e wy ⟨rfl, rfl⟩) | fail)
              go_round
              case rel => exact ⟨k + 1, by omega, by go_num, HN⟩
              case measure => simp [intOf]; omega
            · have hr : (jn, jc) = ((0 : Nat), (3 : Int)) := by
                rw [← HJ.out]
                unfold joinC
                rw [if_neg (by rw [HQ.out]; decide), if_neg (fun h => hL (List.all_eq_true.1 h z (List.mem_of_getElem? HGD.out)))]
              injection hr with e1 e2
              subst e1 e2
              have HLZ : Hid (levB ln z = false) := Lib.hid (by rw [← HLN.out]; simpa using hL)
              clear hL
              go_wp2_with (first | (go_at_call 19; refine (in_b bp An ln cn z false HLZ _ HIN.out).mono ?_; rintro e wy ⟨rfl, rfl⟩) | fail)
              go_ret
              exact ⟨rfl, HB6.out⟩
          · have hki : ¬ ((k : Int) < (l : Int)) := by omega
            obtain rfl : l = k := by omega
            have HAL : Hid (zs.all (levB p.levels.length) = true) := Lib.hid (by have h := HK.out; rw [List.take_of_length_le (by rw [HZL.out]; exact Nat.le_refl _)] at h; exact h)
            have hr : (jn, jc) = (jaK p.levels.length (lvM p) (bndK p.levels.length (dnM (lvM p)) p.levels.length) zs, (0 : Int)) := by
              rw [← HJ.out]
              unfold joinC
              rw [if_neg (by rw [HQ.out]; decide), if_pos HAL.out]
            injection hr with e1 e2
            subst e2
            have HJJ : Hid (jaK p.levels.length (lvM p) (lastK (dnM (lvM p)) p.levels.length) zs = jn) := Lib.hid (by rw [e1, bnd_last HW.out.dn HW.out.bd HW.out.n0])
            clear e1
            go_wp2_with (first | (go_at_call 21; refine (rjoin19_b p An ln cn Ao lo co Ai li ci Ah lh ch HQ.out A l c zs (allLv_of HAL.out) jn HJJ _ (HP.out.below HB6.out) (HZ.out.below HB6.out)).mono ?_; rintro e w6 ⟨rfl, hb6⟩; have HB6 := Lib.hid (HB6.out.trans (hb6.mono HB6.out.size)); clear hb6) | fail)
            go_ret
            exact ⟨rfl, HB6.out⟩
    · have hq : polC p ≠ 0 := by rw [HR.out]; exact hr0
      have hx := HBEL.out
      rw [belowC_1 hq] at hx
      injection hx with e1 e2
      subst e1 e2
      have hx := HJ.out
      rw [joinC_1 hq] at hx
      injection hx with e1 e2
      subst e1 e2
      clear hq
      go_wp2_with (first | (go_at_call 9; refine (few_b p An ln cn Ao lo co Ai li ci Ah lh ch 20 (by omega) (by omega) true HFB _ (HP.out.below HB2.out)).mono ?_; rintro e w3 ⟨rfl, hb3⟩; have HB3 := Lib.hid (HB2.out.trans (hb3.mono HB2.out.size)); have HC3 := Lib.hid (HC2.out.next hb3); have HD3 := Lib.hid (HD2.out.next hb3); clear hb3; clear c0 c1 c2 c3 c4 c5; obtain ⟨c0, c1, c2, c3, c4, c5⟩ := HC3.out.six; have d0 := HD3.out.at 0 _ rfl; have d1 := HD3.out.at 1 _ rfl) | (go_at_call 17; refine (pbelow_b p An ln cn Ao lo co Ai li ci Ah lh ch a b (false, 1) HBEL _ (HP.out.below HB3.out)).mono ?_; rintro e w4 ⟨rfl, hb4⟩; have HB4 := Lib.hid (HB3.out.trans (hb4.mono HB3.out.size)); have HC4 := Lib.hid (HC3.out.next hb4); have HD4 := Lib.hid (HD3.out.next hb4); clear hb4; clear c0 c1 c2 c3 c4 c5 d0 d1; obtain ⟨c0, c1, c2, c3, c4, c5⟩ := HC4.out.six; have d0 := HD4.out.at 0 _ rfl; have d1 := HD4.out.at 1 _ rfl) | (go_at_call 18; refine (pjoin_b p An ln cn Ao lo co Ai li ci Ah lh ch A l c zs (0, 1) HJ _ (HP.out.below HB4.out) (HZ.out.below HB4.out)).mono ?_; rintro e w5 ⟨rfl, hb5⟩; have HB5 := Lib.hid (HB4.out.trans (hb5.mono HB4.out.size)); have HC5 := Lib.hid (HC4.out.next hb5); have HD5 := Lib.hid (HD4.out.next hb5); clear hb5; clear c0 c1 c2 c3 c4 c5 d0 d1; obtain ⟨c0, c1, c2, c3, c4, c5⟩ := HC5.out.six; have d0 := HD5.out.at 0 _ rfl; have d1 := HD5.out.at 1 _ rfl) | (go_at_call 11; refine (rcheck_b p An ln cn Ao lo co Ai li ci Ah lh ch r HR _ (HP.out.below HB5.out)).mono ?_; rintro e w6 ⟨rfl, hb6⟩; have HB6 := Lib.hid (HB5.out.trans (hb6.mono HB5.out.size)); have HC6 := Lib.hid (HC5.out.next hb6); have HD6 := Lib.hid (HD5.out.next hb6); clear hb6; clear c0 c1 c2 c3 c4 c5 d0 d1; obtain ⟨c0, c1, c2, c3, c4, c5⟩ := HC6.out.six; have d0 := HD6.out.at 0 _ rfl; have d1 := HD6.out.at 1 _ rfl) | fail)
      go_ret
      exact ⟨rfl, HB6.out⟩
end Go.Proofs.YtnipigninbeplaaDoor
