/-
  The walk over the reference's Print.
  The walks over the reference's skipped and tokens.
-/
import Derived.Test.YtnipigninbeplaaDoorPK
namespace Go.Proofs.YtnipigninbeplaaDoor
open Go.RowKit

/-- The text behind the order's line, as far as it is of interest: a text that is too long already may be another. -/
def OrdT (p : Py) (t : List UInt8) : Prop := t = headT p.levels ++ ordT p.levels p.order ∨ (8192 < t.length ∧ 8192 < (printL p).length)
theorem OrdT.last {p : Py} {t : List UInt8} (h : OrdT p t) {u : List UInt8} (hu : u = t ++ labsT p.levels tInput p.inputs ++ labsT p.levels tHatch p.hatches ++ obsT p.levels p.obs p.timed) : (8192 < u.length ↔ 8192 < (printL p).length) ∧ (¬ 8192 < u.length → u = printL p) := by
  rcases h with rfl | ⟨h1, h2⟩
  · have e : u = printL p := by rw [hu]; unfold printL; simp only [List.append_assoc]
    rw [e]
    exact ⟨Iff.rfl, fun _ => rfl⟩
  · have : 8192 < u.length := by rw [hu]; simp only [List.length_append]; omega
    exact ⟨⟨fun _ => h2, fun _ => this⟩, fun h => absurd this h⟩
set_option maxRecDepth 100000 in
set_option maxHeartbeats 8000000 in
theorem rprint_b (p : Py) (An : Option Addr) (ln cn : Nat) (Ao : Option Addr) (lo co : Nat) (Ai : Option Addr) (li ci : Nat) (Ah : Option Addr) (lh ch : Nat) (hlo : lo ≤ 1000) (r : ByteArray) (k : Int) (H : Hid (printC p = (r.data.toList, k))) (w : World) (hp : PyOk w An ln cn Ao lo co Ai li ci Ah lh ch p) :
    Calls Tryd.prog 13 #[.agg (pyV An ln cn Ao lo co Ai li ci Ah lh ch p.obs p.timed)] w fun e w' => e = .returned (.tuple #[.string r, .int .i64 k]) ∧ Below w.heap.size w w' := by
  have HP := Lib.hid hp
  have HLI : Hid (p.inputs.length = li ∧ p.hatches.length = lh ∧ p.levels.length = ln ∧ p.order.length = lo) := Lib.hid ⟨hp.i.len, hp.h.len, hp.n.len, hp.o.len⟩
  have HC0 := Lib.hid (Cs.new w (pyV An ln cn Ao lo co Ai li ci Ah lh ch p.obs p.timed) 26)
  have HB0 := Lib.hid ((Below.refl w.heap.size w).alloc (Nat.le_refl _) (.cells (pyV An ln cn Ao lo co Ai li ci Ah lh ch p.obs p.timed) 26))
  unfold pyV at HC0 HB0 ⊢
  obtain ⟨r1, hr1⟩ : ∃ z, polC p = z := ⟨_, rfl⟩
  have H1 := Lib.hid hr1
  clear hp hr1
  go_enter Tryd.func13, Tryd.ntmps13
  go_upto_region 1 with fail
  obtain ⟨w1, hw1⟩ : ∃ z, w.alloc (.cells #[.slice An ln cn, .slice Ao lo co, .slice Ai li ci, .slice Ah lh ch, .int .i64 p.obs, .bool p.timed] 26) = z := ⟨_, rfl⟩
  obtain ⟨bp, hbp⟩ : ∃ z, w.heap.size = z := ⟨_, rfl⟩
  have HB1 : Hid (Below w.heap.size w w1) := hw1 ▸ HB0
  have HC1 : Hid (Cs w1 bp [.slice An ln cn, .slice Ao lo co, .slice Ai li ci, .slice Ah lh ch, .int .i64 p.obs, .bool p.timed]) := hw1 ▸ hbp ▸ HC0
  rw [hw1, hbp]
  clear hw1 HB0 HC0 hbp
  obtain ⟨c0, c1, c2, c3, c4, c5⟩ := HC1.out.six
  by_cases h1 : r1 = 0
  case neg =>
    have hk := H.out
    unfold printC at hk
    rw [if_pos (by rw [H1.out]; exact h1)] at hk
    injection hk with e1 e2
    have hr : r = ⟨#[]⟩ := bytes_eq e1.symm
    subst hr
    subst e2
    clear H e1
    go_wp2_with (first | (go_at_call 11; refine (rcheck_b p An ln cn Ao lo co Ai li ci Ah lh ch r1 H1 _ (HP.out.below HB1.out)).mono ?_; rintro e w2 ⟨rfl, hb2⟩; have HB2 := Lib.hid (HB1.out.trans (hb2.mono HB1.out.size)); clear hb2) | fail)
    go_returns
    exact ⟨rfl, HB2.out⟩
  subst h1
  have HV := Lib.hid (polC_ok H1.out)
  have hln12 : ln ≤ 12 := by rw [← HLI.out.2.2.1]; exact HV.out.n12
  have hli : li ≤ 64 := by rw [← HLI.out.1]; exact HV.out.ni
  have hlh : lh ≤ 64 := by rw [← HLI.out.2.1]; exact HV.out.nh
  go_wp2_with (first | (go_at_call 11; refine (rcheck_b p An ln cn Ao lo co Ai li ci Ah lh ch 0 H1 _ (HP.out.below HB1.out)).mono ?_; rintro e w2 ⟨rfl, hb2⟩; have HB2 := Lib.hid (HB1.out.trans (hb2.mono HB1.out.size)); have HC2 := Lib.hid (HC1.out.next hb2); clear hb2; clear c0 c1 c2 c3 c4 c5; obtain ⟨c0, c1, c2, c3, c4, c5⟩ := HC2.out.six) | fail)
  have HP2 := Lib.hid (HP.out.below HB2.out)
  have HNL : Hid (∀ k, (namU p.levels k).length ≤ 168) := Lib.hid (fun k => by have := namU_len HV.out.nm k; have := HV.out.n12; omega)
  have HOL : Hid (∀ k, (ordU p.levels p.order k).length ≤ 30000) := Lib.hid (fun k => by have := ordU_len HV.out.nm p.order k; rw [HLI.out.2.2.2] at this; omega)
  go_loop [4, 5] (fun u v => ∃ (k : Nat) (s : ByteArray), k ≤ ln ∧ v = .int .i64 k ∧ u = .string s ∧ Hid (s.data.toList = tLevels ++ namU p.levels k)) (fun _ v => ln - (intOf v).toNat)
  case atStart => exact ⟨0, ⟨#[108, 101, 118, 101, 108, 115, 32]⟩, Nat.zero_le _, rfl, rfl, Lib.hid rfl⟩
  case round =>
  obtain ⟨k1, s, hk, rfl, rfl, HT⟩ := hrel
  have hk0 : (0 : Int) ≤ (k1 : Int) := by omega
  by_cases hkn : k1 < ln
  case pos =>
    have hki : (k1 : Int) < (ln : Int) := by omega
    obtain ⟨s1, g, f, hX1, _, hA7, _, hc7⟩ := HP2.out.n.at k1 hkn
    subst hA7
    have HONE := Lib.hid (namU_one p.levels k1 s1 hX1)
    clear hX1
    by_cases hk00 : k1 = 0
    · obtain ⟨z1, hz1⟩ := mk_bytes (s.data.toList ++ s1.data.toList)
      have HN : Hid (z1.data.toList = tLevels ++ namU p.levels (k1 + 1)) := Lib.hid (by
        rw [hz1, HT.out, HONE.out, if_pos hk00, hk00]
        unfold namU
        rw [List.take_zero, List.map_nil]
        simp [Lib.join, List.intercalate])
      have ad1 := add_fact s s1 z1 hz1.symm (by rw [HN.out, List.length_append]; have := HNL.out (k1 + 1); have : tLevels.length = 7 := rfl; omega)
      subst hk00
      rw [Nat.add_zero] at hc7
      clear hz1 hki hk0
      go_wp2_with fail
      go_round
      case rel => exact ⟨1, z1, by omega, rfl, rfl, HN⟩
      case measure => simp [intOf]; omega
    · obtain ⟨z0, hz0⟩ := mk_bytes (s.data.toList ++ tSep)
      obtain ⟨z1, hz1⟩ := mk_bytes (z0.data.toList ++ s1.data.toList)
      have HN : Hid (z1.data.toList = tLevels ++ namU p.levels (k1 + 1)) := Lib.hid (by
        rw [hz1, hz0, HT.out, HONE.out, if_neg hk00]
        simp only [List.append_assoc])
      have hzl : z1.data.toList.length ≤ 90000 := by rw [HN.out, List.length_append]; have := HNL.out (k1 + 1); have : tLevels.length = 7 := rfl; omega
      have hzk : z0.data.toList.length ≤ z1.data.toList.length := by rw [hz1, List.length_append]; omega
      have ad0 := add_fact s ⟨#[44, 32]⟩ z0 (by rw [hz0]; rfl) (by omega)
      have ad1 := add_fact z0 s1 z1 hz1.symm (by omega)
      have hk2 : (0 : Int) < (k1 : Int) := by omega
      clear hz1 hz0 hzl hzk
      go_wp2_with fail
      go_round
      case rel => exact ⟨k1 + 1, z1, by omega, by go_num, rfl, HN⟩
      case measure => simp [intOf]; omega
  have hki : ¬ ((k1 : Int) < (ln : Int)) := by omega
  obtain rfl : ln = k1 := by omega
  obtain ⟨s1, hs1⟩ := mk_bytes (headT p.levels)
  have HH1 : Hid (s1.data.toList = headT p.levels ++ ordU p.levels p.order 0) := Lib.hid (by rw [hs1, ordU_zero, List.append_nil])
  have ad0 := add_fact s ⟨#[10]⟩ s1 (by rw [hs1, HT.out]; unfold headT; rw [HLI.out.2.2.1]) (by rw [hs1]; unfold headT; have := HNL.out p.levels.length; have : tLevels.length = 7 := rfl; simp only [List.length_append, List.length_singleton]; omega)
  have HHL : Hid ((headT p.levels).length ≤ 200) := Lib.hid (by unfold headT; have := HNL.out p.levels.length; have : tLevels.length = 7 := rfl; simp only [List.length_append, List.length_singleton]; omega)
  clear hs1
  go_wp2_with fail
  clear ad0
  have HW0 := Lib.hid (Below.refl w2.heap.size w2)
  go_loopw [4, 6] (fun u v wr => ∃ (k : Nat) (s : ByteArray), k ≤ lo ∧ v = .int .i64 k ∧ u = .string s ∧ Hid (s.data.toList = headT p.levels ++ ordU p.levels p.order k) ∧ Hid (Below w2.heap.size w2 wr)) (fun _ v _ => lo - (intOf v).toNat)
  case atStart => exact ⟨0, s1, Nat.zero_le _, rfl, rfl, HH1, HW0⟩
  case round =>
  clear HH1 HT HW0
  obtain ⟨k2, s, hk2, rfl, rfl, HT, HW⟩ := hrel
  have hk20 : (0 : Int) ≤ (k2 : Int) := by omega
  have HSL : Hid (s.data.toList.length ≤ 31000) := Lib.hid (by rw [HT.out, List.length_append]; have := HOL.out k2; have := HHL.out; omega)
  have hss : s.size ≤ 31000 := by rw [bsize_len]; exact HSL.out
  clear c0 c1 c2 c3 c4 c5
  obtain ⟨c0, c1, c2, c3, c4, c5⟩ := (HC2.out.next HW.out).six
  by_cases hgo : k2 < lo ∧ s.size ≤ 8192
  case pos =>
    obtain ⟨hkn, hsz⟩ := hgo
    have hki : (k2 : Int) < (lo : Int) := by omega
    have hsi : (s.size : Int) ≤ 8192 := by omega
    obtain ⟨x, y, g, f, ht, hAA, hg, k0, k1⟩ := (HP2.out.below HW.out).o.at k2 hkn
    subst hAA
    have hq := HV.out.od (x, y) (List.mem_of_getElem? ht)
    unfold inPb at hq
    simp only [Bool.and_eq_true, decide_eq_true_eq, HLI.out.2.2.1] at hq
    obtain ⟨⟨hx0, hx1⟩, hy0, hy1⟩ := hq
    obtain ⟨X, rfl⟩ : ∃ X : Nat, x = X := ⟨x.toNat, by omega⟩
    obtain ⟨Y, rfl⟩ : ∃ Y : Nat, y = Y := ⟨y.toNat, by omega⟩
    have HO1 := Lib.hid (ordU_one p.levels p.order k2 (X, Y) ht)
    obtain ⟨s5, g5, f5, hX1, _, hA7, _, hc7⟩ := (HP2.out.below HW.out).n.at X (by omega)
    subst hA7
    obtain ⟨s6, g6, f6, hY1, _, hA8, _, hc8⟩ := (HP2.out.below HW.out).n.at Y (by omega)
    injection hA8 with hA8
    injection hA8 with eb6 ec6
    subst eb6 ec6
    have HPT : Hid (pairT p.levels (X, Y) = s5.data.toList ++ tLt ++ s6.data.toList) := Lib.hid (by unfold pairT; rw [lvT_at hX1, lvT_at hY1])
    have hplen := pairT_len HV.out.nm (X, Y)
    have HPL := Lib.hid hplen
    clear ht hX1 hY1 hplen
    by_cases hk00 : k2 = 0
    · obtain ⟨z0, hz0⟩ := mk_bytes (s.data.toList ++ tOrder)
      obtain ⟨z1, hz1⟩ := mk_bytes (z0.data.toList ++ s5.data.toList)
      obtain ⟨z2, hz2⟩ := mk_bytes (z1.data.toList ++ tLt)
      obtain ⟨z3, hz3⟩ := mk_bytes (z2.data.toList ++ s6.data.toList)
      have HN : Hid (z3.data.toList = headT p.levels ++ ordU p.levels p.order (k2 + 1)) := Lib.hid (by
        rw [hz3, hz2, hz1, hz0, HT.out, HO1.out, if_pos hk00, HPT.out]
        simp only [List.append_assoc])
      have hl3 : z3.data.toList.length ≤ 90000 := by rw [HN.out, List.length_append]; have := HOL.out (k2 + 1); have := HHL.out; omega
      have hl2 : z2.data.toList.length ≤ z3.data.toList.length := by rw [hz3, List.length_append]; omega
      have hl1 : z1.data.toList.length ≤ z2.data.toList.length := by rw [hz2, List.length_append]; omega
      have hl0 : z0.data.toList.length ≤ z1.data.toList.length := by rw [hz1, List.length_append]; omega
      have ad0 := add_fact s ⟨#[111, 114, 100, 101, 114, 32]⟩ z0 (by rw [hz0]; rfl) (by omega)
      have ad1 := add_fact z0 s5 z1 hz1.symm (by omega)
      have ad2 := add_fact z1 ⟨#[32, 60, 32]⟩ z2 (by rw [hz2]; rfl) (by omega)
      have ad3 := add_fact z2 s6 z3 hz3.symm (by omega)
      subst hk00
      rw [Nat.zero_mul, Nat.add_zero] at k0 k1
      have hki0 : (0 : Int) < (lo : Int) := by omega
      clear hz0 hz1 hz2 hz3 hl3 hl2 hl1 hl0 hki hk20
      go_upto_region 17 with fail
      go_quiet (fail)
      have HW' := Lib.hid (below_drewN HW.out nq)
      go_wp2_with fail
      go_roundw
      case rel => exact ⟨1, z3, by omega, rfl, rfl, HN, HW'⟩
      case measure => simp [intOf]; omega
    · obtain ⟨z0, hz0⟩ := mk_bytes (s.data.toList ++ tSep)
      obtain ⟨z1, hz1⟩ := mk_bytes (z0.data.toList ++ s5.data.toList)
      obtain ⟨z2, hz2⟩ := mk_bytes (z1.data.toList ++ tLt)
      obtain ⟨z3, hz3⟩ := mk_bytes (z2.data.toList ++ s6.data.toList)
      have HN : Hid (z3.data.toList = headT p.levels ++ ordU p.levels p.order (k2 + 1)) := Lib.hid (by
        rw [hz3, hz2, hz1, hz0, HT.out, HO1.out, if_neg hk00, HPT.out]
        simp only [List.append_assoc])
      have hl3 : z3.data.toList.length ≤ 90000 := by rw [HN.out, List.length_append]; have := HOL.out (k2 + 1); have := HHL.out; omega
      have hl2 : z2.data.toList.length ≤ z3.data.toList.length := by rw [hz3, List.length_append]; omega
      have hl1 : z1.data.toList.length ≤ z2.data.toList.length := by rw [hz2, List.length_append]; omega
      have hl0 : z0.data.toList.length ≤ z1.data.toList.length := by rw [hz1, List.length_append]; omega
      have ad0 := add_fact s ⟨#[44, 32]⟩ z0 (by rw [hz0]; rfl) (by omega)
      have ad1 := add_fact z0 s5 z1 hz1.symm (by omega)
      have ad2 := add_fact z1 ⟨#[32, 60, 32]⟩ z2 (by rw [hz2]; rfl) (by omega)
      have ad3 := add_fact z2 s6 z3 hz3.symm (by omega)
      have hkz : (0 : Int) < (k2 : Int) := by omega
      clear hz0 hz1 hz2 hz3 hl3 hl2 hl1 hl0
      go_upto_region 17 with fail
      go_quiet (fail)
      have HW' := Lib.hid (below_drewN HW.out nq)
      go_wp2_with fail
      go_roundw
      case rel => exact ⟨k2 + 1, z3, by omega, by go_num, rfl, HN, HW'⟩
      case measure => simp [intOf]; omega
  have hcase : (∃ s3 : ByteArray, OrdT p s3.data.toList ∧ s3.data.toList.length ≤ 32000 ∧ (k2 : Int) < (lo : Int) ∧ ¬ (s.size : Int) ≤ 8192 ∧ (0 : Int) < (lo : Int) ∧ ∀ wx, (Op.stringOp .add s ⟨#[10]⟩).run Tryd.prog wx = .ok (.string s3) wx) ∨
      (∃ s3 : ByteArray, OrdT p s3.data.toList ∧ s3.data.toList.length ≤ 32000 ∧ ¬ (k2 : Int) < (lo : Int) ∧ True ∧ (0 : Int) < (lo : Int) ∧ ∀ wx, (Op.stringOp .add s ⟨#[10]⟩).run Tryd.prog wx = .ok (.string s3) wx) ∨
      (∃ s3 : ByteArray, OrdT p s3.data.toList ∧ s3.data.toList.length ≤ 32000 ∧ ¬ (k2 : Int) < (lo : Int) ∧ True ∧ ¬ (0 : Int) < (lo : Int) ∧ s3 = s) := by
    by_cases hkn : k2 < lo
    · have hsz : ¬ s.size ≤ 8192 := fun h => hgo ⟨hkn, h⟩
      obtain ⟨s3, hs3⟩ := mk_bytes (s.data.toList ++ [10])
      refine .inl ⟨s3, .inr ⟨by rw [hs3, List.length_append, ← bsize_len]; omega, ?_⟩, by rw [hs3, List.length_append, List.length_singleton]; have := HSL.out; omega, by omega, by omega, by omega, add_fact s ⟨#[10]⟩ s3 (by rw [hs3]) (by rw [hs3, List.length_append, List.length_singleton]; have := HSL.out; omega)⟩
      have hle := ordU_le p.levels p.order (lo - k2) k2 (by rw [HLI.out.2.2.2]; omega)
      rw [show k2 + (lo - k2) = lo by omega] at hle
      have h1 : s.data.toList.length = (headT p.levels).length + (ordU p.levels p.order k2).length := by rw [HT.out, List.length_append]
      rw [bsize_len] at hsz
      unfold printL ordT
      rw [HLI.out.2.2.2]
      simp only [List.length_append]
      omega
    · have e : lo = k2 := by omega
      have hu : s.data.toList = headT p.levels ++ ordU p.levels p.order p.order.length := by rw [HT.out, HLI.out.2.2.2, e]
      by_cases h0 : 0 < lo
      · obtain ⟨s3, hs3⟩ := mk_bytes (s.data.toList ++ [10])
        refine .inr (.inl ⟨s3, .inl ?_, by rw [hs3, List.length_append, List.length_singleton]; have := HSL.out; omega, by omega, trivial, by omega, add_fact s ⟨#[10]⟩ s3 (by rw [hs3]) (by rw [hs3, List.length_append, List.length_singleton]; have := HSL.out; omega)⟩)
        rw [hs3, hu]
        unfold ordT
        rw [if_pos (by rw [HLI.out.2.2.2]; exact h0), List.append_assoc]
      · refine .inr (.inr ⟨s, .inl ?_, by have := HSL.out; omega, by omega, trivial, by omega, rfl⟩)
        rw [hu]
        unfold ordT
        rw [if_neg (by rw [HLI.out.2.2.2]; exact h0), List.append_nil]
  clear HT HSL hgo
  rcases hcase with ⟨s3, hot, hl2, hki, hsi, hl0, ad⟩ | ⟨s3, hot, hl2, hki, hsi, hl0, ad⟩ | ⟨s3, hot, hl2, hki, hsi, hl0, hs⟩
  all_goals
    try subst hs
    obtain ⟨tb, htb⟩ : ∃ z, s3.data.toList = z := ⟨_, rfl⟩
    rw [htb] at hot hl2
    have HT3 := Lib.hid htb
    have HOT := Lib.hid hot
    have HL3 := Lib.hid hl2
    clear htb hot hl2
    go_wp2_with fail
    go_loopw [4, 7] (fun u v wr => ∃ (k : Nat) (s : ByteArray), k ≤ li ∧ v = .int .i64 k ∧ u = .string s ∧ Hid (s.data.toList = tb ++ labsT p.levels tInput (p.inputs.take k)) ∧ Hid (Below w2.heap.size w2 wr)) (fun _ v _ => li - (intOf v).toNat)
    case atStart => exact ⟨0, s3, Nat.zero_le _, rfl, rfl, Lib.hid (by rw [HT3.out, List.take_zero]; simp [labsT]), HW⟩
    case round =>
    clear HT3 HW
    obtain ⟨k, s4, hk, rfl, rfl, HT, HW⟩ := hrel
    have hk0 : (0 : Int) ≤ (k : Int) := by omega
    clear c0 c1 c2 c3 c4 c5
    obtain ⟨c0, c1, c2, c3, c4, c5⟩ := (HC2.out.next HW.out).six
    by_cases hkn : k < li
    case pos =>
      have hki : (k : Int) < (li : Int) := by omega
      obtain ⟨nm, lv, g, f, ht, _, hAA, hg, k0, k1⟩ := (HP2.out.below HW.out).i.at k hkn
      subst hAA
      have hq := HV.out.li ⟨nm, lv⟩ (List.mem_of_getElem? ht)
      obtain ⟨hq1, hq2, hq3⟩ := hq
      simp only [HLI.out.2.2.1] at hq2 hq3
      obtain ⟨X, rfl⟩ : ∃ X : Nat, lv = X := ⟨lv.toNat, by omega⟩
      obtain ⟨sX, ga, fa, hX1, _, hA7, _, hc7⟩ := (HP2.out.below HW.out).n.at X (by omega)
      subst hA7
      have HONE : Hid (labsT p.levels tInput (p.inputs.take (k + 1)) = labsT p.levels tInput (p.inputs.take k) ++ labT p.levels tInput ⟨nm, X⟩) := Lib.hid (labsT_one p.levels tInput p.inputs k ⟨nm, X⟩ ht)
      have HLB : Hid ((labT p.levels tInput ⟨nm, X⟩).length ≤ 60) := Lib.hid (labT_len HV.out.nm tInput (by decide) ⟨nm, X⟩ hq1)
      have HLT := Lib.hid (labsT_take HV.out.nm tInput (by decide) p.inputs HV.out.ni (fun x hx => (HV.out.li x hx).1) k)
      have HLX : Hid (lvT p.levels (X : Nat) = sX.data.toList) := Lib.hid (lvT_at hX1)
      obtain ⟨z1, hz1⟩ := mk_bytes (s4.data.toList ++ tInput)
      obtain ⟨z2, hz2⟩ := mk_bytes (z1.data.toList ++ nm.data.toList)
      obtain ⟨z3, hz3⟩ := mk_bytes (z2.data.toList ++ [32])
      obtain ⟨z4, hz4⟩ := mk_bytes (z3.data.toList ++ sX.data.toList)
      obtain ⟨z5, hz5⟩ := mk_bytes (z4.data.toList ++ [10])
      have hall : z5.data.toList = s4.data.toList ++ labT p.levels tInput ⟨nm, X⟩ := by
        rw [hz5, hz4, hz3, hz2, hz1]
        unfold labT
        rw [HLX.out]
        simp only [List.append_assoc]
      have HALL := Lib.hid hall
      have hlen : z5.data.toList.length ≤ 90000 := by
        rw [hall, HT.out, List.length_append, List.length_append]
        have := HLB.out
        have := HLT.out
        have := HL3.out
        omega
      have hl4 : z4.data.toList.length ≤ z5.data.toList.length := by rw [hz5, List.length_append]; omega
      have hl3 : z3.data.toList.length ≤ z4.data.toList.length := by rw [hz4, List.length_append]; omega
      have hl2 : z2.data.toList.length ≤ z3.data.toList.length := by rw [hz3, List.length_append]; omega
      have hl1 : z1.data.toList.length ≤ z2.data.toList.length := by rw [hz2, List.length_append]; omega
      have ad1 := add_fact s4 ⟨#[105, 110, 112, 117, 116, 32]⟩ z1 (by rw [hz1]; rfl) (by omega)
      have ad2 := add_fact z1 nm z2 (by rw [hz2]) (by omega)
      have ad3 := add_fact z2 ⟨#[32]⟩ z3 (by rw [hz3]) (by omega)
      have ad4 := add_fact z3 sX z4 (by rw [hz4]) (by omega)
      have ad5 := add_fact z4 ⟨#[10]⟩ z5 (by rw [hz5]) (by omega)
      have HN : Hid (z5.data.toList = tb ++ labsT p.levels tInput (p.inputs.take (k + 1))) := Lib.hid (by rw [HALL.out, HT.out, HONE.out]; simp only [List.append_assoc])
      clear ht hX1 hz1 hz2 hz3 hz4 hz5 hall hlen hl4 hl3 hl2 hl1
      go_upto_region 23 with fail
      go_quiet (fail)
      have HW' := Lib.hid (below_drewN HW.out nq)
      go_wp2_with fail
      go_roundw
      case rel => exact ⟨k + 1, z5, by omega, by go_num, rfl, HN, HW'⟩
      case measure => simp [intOf]; omega
    have hki : ¬ ((k : Int) < (li : Int)) := by omega
    obtain rfl : li = k := by omega
    have HT4 : Hid (s4.data.toList = tb ++ labsT p.levels tInput p.inputs) := Lib.hid (by have h := HT.out; rw [List.take_of_length_le (by rw [HLI.out.1]; exact Nat.le_refl _)] at h; exact h)
    have HL4 : Hid ((tb ++ labsT p.levels tInput p.inputs).length ≤ 36000) := Lib.hid (by
      have h := labsT_take HV.out.nm tInput (by decide) p.inputs HV.out.ni (fun x hx => (HV.out.li x hx).1) p.inputs.length
      rw [List.take_length] at h
      rw [List.length_append]
      have := HL3.out
      omega)
    clear hkn hki HT
    go_wp2_with fail
    go_loopw [4, 8] (fun u v wr => ∃ (k : Nat) (s : ByteArray), k ≤ lh ∧ v = .int .i64 k ∧ u = .string s ∧ Hid (s.data.toList = (tb ++ labsT p.levels tInput p.inputs) ++ labsT p.levels tHatch (p.hatches.take k)) ∧ Hid (Below w2.heap.size w2 wr)) (fun _ v _ => lh - (intOf v).toNat)
    case atStart => exact ⟨0, s4, Nat.zero_le _, rfl, rfl, Lib.hid (by rw [HT4.out, List.take_zero]; simp [labsT]), HW⟩
    case round =>
    clear HT4 HW
    obtain ⟨k, s5, hk, rfl, rfl, HT, HW⟩ := hrel
    have hk0 : (0 : Int) ≤ (k : Int) := by omega
    clear c0 c1 c2 c3 c4 c5
    obtain ⟨c0, c1, c2, c3, c4, c5⟩ := (HC2.out.next HW.out).six
    by_cases hkn : k < lh
    case pos =>
      have hki : (k : Int) < (lh : Int) := by omega
      obtain ⟨nm, lv, g, f, ht, _, hAA, hg, k0, k1⟩ := (HP2.out.below HW.out).h.at k hkn
      subst hAA
      have hq := HV.out.lh ⟨nm, lv⟩ (List.mem_of_getElem? ht)
      obtain ⟨hq1, hq2, hq3⟩ := hq
      simp only [HLI.out.2.2.1] at hq2 hq3
      obtain ⟨X, rfl⟩ : ∃ X : Nat, lv = X := ⟨lv.toNat, by omega⟩
      obtain ⟨sX, ga, fa, hX1, _, hA7, _, hc7⟩ := (HP2.out.below HW.out).n.at X (by omega)
      subst hA7
      have HONE : Hid (labsT p.levels tHatch (p.hatches.take (k + 1)) = labsT p.levels tHatch (p.hatches.take k) ++ labT p.levels tHatch ⟨nm, X⟩) := Lib.hid (labsT_one p.levels tHatch p.hatches k ⟨nm, X⟩ ht)
      have HLB : Hid ((labT p.levels tHatch ⟨nm, X⟩).length ≤ 60) := Lib.hid (labT_len HV.out.nm tHatch (by decide) ⟨nm, X⟩ hq1)
      have HLT := Lib.hid (labsT_take HV.out.nm tHatch (by decide) p.hatches HV.out.nh (fun x hx => (HV.out.lh x hx).1) k)
      have HLX : Hid (lvT p.levels (X : Nat) = sX.data.toList) := Lib.hid (lvT_at hX1)
      obtain ⟨z1, hz1⟩ := mk_bytes (s5.data.toList ++ tHatch)
      obtain ⟨z2, hz2⟩ := mk_bytes (z1.data.toList ++ nm.data.toList)
      obtain ⟨z3, hz3⟩ := mk_bytes (z2.data.toList ++ [32])
      obtain ⟨z4, hz4⟩ := mk_bytes (z3.data.toList ++ sX.data.toList)
      obtain ⟨z5, hz5⟩ := mk_bytes (z4.data.toList ++ [10])
      have hall : z5.data.toList = s5.data.toList ++ labT p.levels tHatch ⟨nm, X⟩ := by
        rw [hz5, hz4, hz3, hz2, hz1]
        unfold labT
        rw [HLX.out]
        simp only [List.append_assoc]
      have HALL := Lib.hid hall
      have hlen : z5.data.toList.length ≤ 90000 := by
        rw [hall, HT.out, List.length_append, List.length_append]
        have := HLB.out
        have := HLT.out
        have := HL4.out
        omega
      have hl4 : z4.data.toList.length ≤ z5.data.toList.length := by rw [hz5, List.length_append]; omega
      have hl3 : z3.data.toList.length ≤ z4.data.toList.length := by rw [hz4, List.length_append]; omega
      have hl2 : z2.data.toList.length ≤ z3.data.toList.length := by rw [hz3, List.length_append]; omega
      have hl1 : z1.data.toList.length ≤ z2.data.toList.length := by rw [hz2, List.length_append]; omega
      have ad1 := add_fact s5 ⟨#[104, 97, 116, 99, 104, 32]⟩ z1 (by rw [hz1]; rfl) (by omega)
      have ad2 := add_fact z1 nm z2 (by rw [hz2]) (by omega)
      have ad3 := add_fact z2 ⟨#[32]⟩ z3 (by rw [hz3]) (by omega)
      have ad4 := add_fact z3 sX z4 (by rw [hz4]) (by omega)
      have ad5 := add_fact z4 ⟨#[10]⟩ z5 (by rw [hz5]) (by omega)
      have HN : Hid (z5.data.toList = (tb ++ labsT p.levels tInput p.inputs) ++ labsT p.levels tHatch (p.hatches.take (k + 1))) := Lib.hid (by rw [HALL.out, HT.out, HONE.out]; simp only [List.append_assoc])
      clear ht hX1 hz1 hz2 hz3 hz4 hz5 hall hlen hl4 hl3 hl2 hl1
      go_upto_region 27 with fail
      go_quiet (fail)
      have HW' := Lib.hid (below_drewN HW.out nq)
      go_wp2_with fail
      go_roundw
      case rel => exact ⟨k + 1, z5, by omega, by go_num, rfl, HN, HW'⟩
      case measure => simp [intOf]; omega
    have hki : ¬ ((k : Int) < (lh : Int)) := by omega
    obtain rfl : lh = k := by omega
    have HT5 : Hid (s5.data.toList = (tb ++ labsT p.levels tInput p.inputs) ++ labsT p.levels tHatch p.hatches) := Lib.hid (by have h := HT.out; rw [List.take_of_length_le (by rw [HLI.out.2.1]; exact Nat.le_refl _)] at h; exact h)
    have HL5 : Hid (((tb ++ labsT p.levels tInput p.inputs) ++ labsT p.levels tHatch p.hatches).length ≤ 40000) := Lib.hid (by
      have h := labsT_take HV.out.nm tHatch (by decide) p.hatches HV.out.nh (fun x hx => (HV.out.lh x hx).1) p.hatches.length
      rw [List.take_length] at h
      rw [List.length_append]
      have := HL4.out
      omega)
    clear hkn hki HT
    
    clear c0 c1 c2 c3 c4 c5
    obtain ⟨c0, c1, c2, c3, c4, c5⟩ := (HC2.out.next HW.out).six
    obtain ⟨ob, hob⟩ : ∃ z, p.obs = z := ⟨_, rfl⟩
    obtain ⟨tm, htm⟩ : ∃ z, p.timed = z := ⟨_, rfl⟩
    have HOB' := Lib.hid hob
    have HTM := Lib.hid htm
    have hor := HV.out.ob
    rw [hob, HLI.out.2.2.1] at hor
    obtain ⟨hor0, hor1⟩ := hor
    obtain ⟨X, rfl⟩ : ∃ X : Nat, ob = X := ⟨ob.toNat, by omega⟩
    have HOB : Hid (p.obs = (X : Int)) := HOB'
    rw [hob] at c4
    rw [htm] at c5
    obtain ⟨sX, ga, fa, hX1, _, hA7, _, hc7⟩ := (HP2.out.below HW.out).n.at X (by omega)
    subst hA7
    have HX1 := Lib.hid hX1
    have HLX : Hid (sX.data.toList.length ≤ 12) := Lib.hid (by have h := lvT_len HV.out.nm (X : Int); rw [lvT_at hX1] at h; exact h)
    obtain ⟨o1, ho1⟩ := mk_bytes (s5.data.toList ++ tObs)
    obtain ⟨o2, ho2⟩ := mk_bytes (o1.data.toList ++ sX.data.toList)
    have HO2 : Hid (o2.data.toList = s5.data.toList ++ tObs ++ sX.data.toList) := Lib.hid (by rw [ho2, ho1])
    have hol : o2.data.toList.length ≤ 90000 := by
      rw [ho2, ho1, HT5.out]
      have h5 := HL5.out
      have := HLX.out
      have e1 : tObs.length = 8 := rfl
      simp only [List.length_append] at h5 ⊢
      omega
    have hol1 : o1.data.toList.length ≤ o2.data.toList.length := by rw [ho2, List.length_append]; omega
    have ad1 := add_fact s5 ⟨#[111, 98, 115, 101, 114, 118, 101, 32]⟩ o1 (by rw [ho1]; rfl) (by omega)
    have ad2 := add_fact o1 sX o2 ho2.symm (by omega)
    clear hob htm HOB' hX1 ho1 ho2 hol hol1
    cases tm
    case true =>
      obtain ⟨o3, ho3⟩ := mk_bytes (o2.data.toList ++ tTimed)
      obtain ⟨o4, ho4⟩ := mk_bytes (o3.data.toList ++ [10])
      have HU : Hid (o4.data.toList = tb ++ labsT p.levels tInput p.inputs ++ labsT p.levels tHatch p.hatches ++ obsT p.levels p.obs p.timed) := Lib.hid (by
        rw [ho4, ho3, HO2.out, HT5.out, HOB.out, HTM.out]
        unfold obsT
        rw [lvT_at HX1.out]
        simp [tTimed])
      have hl4 : o4.data.toList.length ≤ 90000 := by
        rw [ho4, ho3, HO2.out, HT5.out]
        have h5 := HL5.out
        have := HLX.out
        have e1 : tObs.length = 8 := rfl
        have e2 : tTimed.length = 6 := rfl
        simp only [List.length_append, List.length_singleton] at h5 ⊢
        omega
      have hl3 : o3.data.toList.length ≤ o4.data.toList.length := by rw [ho4, List.length_append]; omega
      have ad3 := add_fact o2 ⟨#[32, 116, 105, 109, 101, 100]⟩ o3 (by rw [ho3]; rfl) (by omega)
      have ad4 := add_fact o3 ⟨#[10]⟩ o4 (by rw [ho4]) (by omega)
      have ho9 : o4.size ≤ 90000 := by rw [bsize_len]; exact hl4
      have HLS := Lib.hid (HOT.out.last HU.out)
      clear ho3 ho4 hl4 hl3
      by_cases hbig : 8192 < o4.size
      · have hbi : (8192 : Int) < (o4.size : Int) := by omega
        have hk := H.out
        unfold printC at hk
        rw [if_neg (by rw [H1.out]; decide), if_pos (HLS.out.1.1 (by rw [← bsize_len]; exact hbig))] at hk
        injection hk with e1 e2
        have hr : r = ⟨#[]⟩ := bytes_eq e1.symm
        subst hr
        subst e2
        clear e1
        go_wp2_with fail
        go_returns
        exact ⟨rfl, HB2.out.trans (HW.out.mono HB2.out.size)⟩
      · have hbi : ¬ (8192 : Int) < (o4.size : Int) := by omega
        have hk := H.out
        unfold printC at hk
        rw [if_neg (by rw [H1.out]; decide), if_neg (fun h => hbig (by rw [bsize_len]; exact HLS.out.1.2 h))] at hk
        injection hk with e1 e2
        have hr : r = o4 := bytes_eq (by rw [← e1, HLS.out.2 (by rw [← bsize_len]; exact hbig)])
        subst hr
        subst e2
        clear e1
        go_wp2_with fail
        go_returns
        exact ⟨rfl, HB2.out.trans (HW.out.mono HB2.out.size)⟩
    obtain ⟨o3, ho3⟩ := mk_bytes (o2.data.toList ++ [])
    obtain ⟨o4, ho4⟩ := mk_bytes (o3.data.toList ++ [10])
    have HU : Hid (o4.data.toList = tb ++ labsT p.levels tInput p.inputs ++ labsT p.levels tHatch p.hatches ++ obsT p.levels p.obs p.timed) := Lib.hid (by
      rw [ho4, ho3, HO2.out, HT5.out, HOB.out, HTM.out]
      unfold obsT
      rw [lvT_at HX1.out]
      simp)
    have hl4 : o4.data.toList.length ≤ 90000 := by
      rw [ho4, ho3, HO2.out, HT5.out]
      have h5 := HL5.out
      have := HLX.out
      have e1 : tObs.length = 8 := rfl
      have e2 : tTimed.length = 6 := rfl
      simp only [List.length_append, List.length_singleton, List.length_nil] at h5 ⊢
      omega
    have hl3 : o3.data.toList.length ≤ o4.data.toList.length := by rw [ho4, List.length_append]; omega
    obtain rfl : o3 = o2 := bytes_eq (by rw [ho3, List.append_nil])
    have ad4 := add_fact o3 ⟨#[10]⟩ o4 (by rw [ho4]) (by omega)
    have ho9 : o4.size ≤ 90000 := by rw [bsize_len]; exact hl4
    have HLS := Lib.hid (HOT.out.last HU.out)
    clear ho3 ho4 hl4 hl3
    by_cases hbig : 8192 < o4.size
    · have hbi : (8192 : Int) < (o4.size : Int) := by omega
      have hk := H.out
      unfold printC at hk
      rw [if_neg (by rw [H1.out]; decide), if_pos (HLS.out.1.1 (by rw [← bsize_len]; exact hbig))] at hk
      injection hk with e1 e2
      have hr : r = ⟨#[]⟩ := bytes_eq e1.symm
      subst hr
      subst e2
      clear e1
      go_wp2_with fail
      go_returns
      exact ⟨rfl, HB2.out.trans (HW.out.mono HB2.out.size)⟩
    · have hbi : ¬ (8192 : Int) < (o4.size : Int) := by omega
      have hk := H.out
      unfold printC at hk
      rw [if_neg (by rw [H1.out]; decide), if_neg (fun h => hbig (by rw [bsize_len]; exact HLS.out.1.2 h))] at hk
      injection hk with e1 e2
      have hr : r = o4 := bytes_eq (by rw [← e1, HLS.out.2 (by rw [← bsize_len]; exact hbig)])
      subst hr
      subst e2
      clear e1
      go_wp2_with fail
      go_returns
      exact ⟨rfl, HB2.out.trans (HW.out.mono HB2.out.size)⟩

set_option maxHeartbeats 2000000 in
theorem skipped_b (s : ByteArray) (hs : s.size ≤ 9000) (r : Bool) (H : Hid (skipS s.data.toList = r)) (w : World) :
    Calls Tryd.prog 34 #[.string s] w fun e w' => e = .returned (.bool r) ∧ w = w' := by
  go_enter Tryd.func34, Tryd.ntmps34
  go_wp2_with fail
  go_loop [3] (fun v => ∃ i : Nat, i ≤ s.size ∧ v = .int .i64 i ∧ Hid (skipS (s.data.toList.drop i) = r)) (fun v => s.size - (intOf v).toNat)
  case atStart => exact ⟨0, Nat.zero_le _, rfl, H⟩
  case round =>
    obtain ⟨i, hi, rfl, HS⟩ := hrel
    have hi0 : (0 : Int) ≤ (i : Int) := by omega
    by_cases hit : i < s.size
    · have hit' : (i : Int) < (s.size : Int) := by omega
      have HDR := Lib.hid (drop_byte s i hit)
      by_cases h32 : s[i].toNat = 32
      · have HN : Hid (skipS (s.data.toList.drop (i + 1)) = r) := Lib.hid (by
          have h := HS.out
          rw [HDR.out] at h
          unfold skipS at h
          rw [if_pos (u8_32 h32)] at h
          exact h)
        have h32i : (s[i].toNat : Int) = 32 := by omega
        clear h32 HS
        go_wp2_with fail
        go_round
        case rel => exact ⟨i + 1, by omega, by go_num, HN⟩
        case measure => simp [intOf]; omega
      · have hr : r = (s[i] == 35) := by
          have h := HS.out
          rw [HDR.out] at h
          unfold skipS at h
          rw [if_neg (fun e => h32 (by rw [e]; rfl))] at h
          exact h.symm
        have h32i : ¬ (s[i].toNat : Int) = 32 := by omega
        clear h32 HS H
        by_cases h35 : s[i].toNat = 35
        · have e : s[i] = 35 := UInt8.toNat_inj.1 (h35.trans rfl)
          have hr2 : r = true := by rw [hr, e]; rfl
          subst hr2
          have h35i : (s[i].toNat : Int) = 35 := by omega
          clear hr e h35
          go_wp2_with fail
          go_ret
          exact ⟨rfl, rfl⟩
        · have hr2 : r = false := by
            rw [hr, beq_eq_false_iff_ne]
            exact fun e => h35 (by rw [e]; rfl)
          subst hr2
          have h35i : ¬ (s[i].toNat : Int) = 35 := by omega
          have h35b : ((s[i].toNat : Int) == 35) = false := by rw [beq_eq_false_iff_ne]; exact h35i
          clear hr h35
          go_wp2_with fail
          go_ret
          exact ⟨rfl, rfl⟩
    · have hge : ¬ ((i : Int) < (s.size : Int)) := by omega
      obtain rfl : s.size = i := by omega
      obtain rfl : r = true := by
        have h := HS.out
        rw [List.drop_eq_nil_of_le (by rw [← bsize_len]; exact Nat.le_refl _)] at h
        exact h.symm
      go_wp2_with fail
      go_ret
      exact ⟨rfl, rfl⟩
/-- The tokens that have been read, in a row of the call's own. -/
structure Tr (w W : World) (V : Value) (out : List ByteArray) : Prop where
  bel : Below w.heap.size w W
  own : W.ownsRow w.heap.size 9 1 V out.length (svals out)
  lt : w.heap.size < W.heap.size
theorem Tr.zero (w : World) : Tr w (w.alloc (.cells #[] 9)) (.slice (some ⟨w.heap.size, 0, none⟩) 0 0) [] :=
  ⟨(Below.refl _ _).alloc (Nat.le_refl _) _, World.ownsRow_lit w #[] 0 (Nat.le_refl _) (Nat.zero_le _) rfl, by simp⟩
theorem Tr.push {w W W6 : World} {V : Value} {out : List ByteArray} {gg cap : Nat} (h : Tr w W V out) (d : ByteArray) (hg : (W.alloc (.cells #[.string d] 9)).grownBy W6 V.ownBlock)
    (ho : W6.ownsRow w.heap.size 9 1 (.slice (some ⟨gg, 0, none⟩) (out.length + 1) cap) (out.length + 1) (svals out ++ [.string d])) : Tr w W6 (.slice (some ⟨gg, 0, none⟩) (out.length + 1) cap) (out ++ [d]) := by
  have hs := hg.size
  have hl := h.lt
  have hz : (W.alloc (.cells #[.string d] 9)).heap.size = W.heap.size + 1 := by simp
  refine ⟨(h.bel.alloc (by omega) _).grown hg (by omega) (fun q hq => (h.own.lt q hq).1), ?_, by omega⟩
  have e1 : (out ++ [d]).length = out.length + 1 := by simp
  have e2 : svals (out ++ [d]) = svals out ++ [.string d] := by simp [svals]
  rw [e1, e2]
  exact ho
theorem Tr.res {w W : World} {V : Value} {out : List ByteArray} (h : Tr w W V out) (hx : ∀ x ∈ out, x.size ≤ 9000) : TokRes w (some out) (.returned (.tuple #[V, .bool true])) W := by
  obtain ⟨A, c, rfl⟩ := own_shape h.own
  exact ⟨h.bel, A, c, rfl, own_nok h.own (fun x hx' => by have := hx x hx'; unfold maxLen; omega), fun a ha => (h.own.lt a.block (by rw [ha]; rfl)).1⟩
theorem tokS_cut (u r : List UInt8) (hu : u ≠ []) (hw : ∀ b ∈ u, wordc b = true) (hr : ∀ c, r.head? = some c → wordc c = false) (out : List ByteArray) : (tokS [] (u ++ r)).map (out ++ ·) = (tokS [] r).map ((out ++ [⟨u.toArray⟩]) ++ ·) := by
  rw [tokS_past u r hu hw hr, Option.map_map]
  congr 1
  funext x
  simp
theorem slice_two (s : ByteArray) (a b : Nat) (h1 : a ≤ b) (h2 : b ≤ s.size) (wx : World) : (Instr.slice 9 (.string s) (some (.int .i64 (a : Int))) (some (.int .i64 (b : Int))) none).run Tryd.prog wx = .ok (.string (s.extract a b)) wx := by
  have := run_slice_string (P := Tryd.prog) (w := wx) 9 s .i64 .i64 (a : Int) (b : Int) Tryd.underlying9 (by omega) (by omega) (by omega)
  rw [Int.toNat_natCast, Int.toNat_natCast] at this
  exact this
set_option maxRecDepth 100000 in
set_option maxHeartbeats 4000000 in
theorem rtokens_b (s : ByteArray) (o : Option (List ByteArray)) (H : Hid (tokS [] s.data.toList = o)) (hs : s.size ≤ 9000) (w : World) :
    Calls Tryd.prog 35 #[.string s] w fun e w' => TokRes w o e w' := by
  have hsm : s.size ≤ 9223372036854775807 := by omega
  have HR0 : Hid ((tokS [] (s.data.toList.drop 0)).map (([] : List ByteArray) ++ ·) = o) := by
    rw [List.drop_zero, ← H.out]
    have : (fun x => ([] : List ByteArray) ++ x) = id := by funext x; rfl
    rw [this, Option.map_id]
    exact Lib.hid rfl
  have HT0 := Lib.hid (Tr.zero w)
  obtain ⟨i0, hi0, hz0, hz1, hz2⟩ := info_parts (P := Tryd.prog) (e := 9) (z := .string ⟨#[]⟩) (size := 1) (bytes := 16) (by kernel_rfl)
  have HIN := Lib.hid (And.intro hi0 (And.intro hz0 (And.intro hz1 hz2)))
  clear H hi0 hz0 hz1 hz2
  go_enter Tryd.func35, Tryd.ntmps35
  go_wp2_with fail
  go_loopw [4, 5] (fun u v wr => ∃ (i : Nat) (out : List ByteArray), i ≤ s.size ∧ v = .int .i64 i ∧ Hid (Tr w wr u out) ∧ Hid ((tokS [] (s.data.toList.drop i)).map (out ++ ·) = o) ∧ Hid (out.length ≤ i ∧ ∀ x ∈ out, x.size ≤ s.size)) (fun _ v _ => s.size - (intOf v).toNat)
  case atStart => exact ⟨0, [], Nat.zero_le _, rfl, HT0, HR0, Lib.hid ⟨Nat.zero_le _, fun x hx => by cases hx⟩⟩
  case round =>
    obtain ⟨i, out, hi, rfl, HT, HR, HO⟩ := hrel
    clear HT0 HR0
    have hi0 : (0 : Int) ≤ (i : Int) := by omega
    have hol : out.length ≤ 9000 := by have := HO.out.1; omega
    by_cases hit : i < s.size
    · have hit' : (i : Int) < (s.size : Int) := by omega
      rename World => wo
      go_wp2_with fail
      go_loop [5] (fun v => ∃ j : Nat, i ≤ j ∧ j ≤ s.size ∧ v = .int .i64 j ∧ Hid (∀ b ∈ (s.data.toList.drop i).take (j - i), wordc b = true)) (fun v => s.size - (intOf v).toNat)
      case atStart => exact ⟨i, Nat.le_refl _, by omega, rfl, Lib.hid (fun b hb => by simp at hb)⟩
      case round =>
        obtain ⟨j, hij, hj, rfl, HW⟩ := hrel
        have hj0 : (0 : Int) ≤ (j : Int) := by omega
        by_cases hjn : j < s.size
        · have hji : (j : Int) < (s.size : Int) := by omega
          obtain ⟨b1, hb1⟩ : ∃ z, wordc s[j] = z := ⟨_, rfl⟩
          have HB1 := Lib.hid hb1
          clear hb1
          cases b1 with
          | true =>
            have HW2 : Hid (∀ b ∈ (s.data.toList.drop i).take (j + 1 - i), wordc b = true) := Lib.hid (fun b hb => by
              rw [show j + 1 - i = (j - i) + 1 by omega, List.take_add_one, List.getElem?_drop, show i + (j - i) = j by omega, List.getElem?_eq_getElem (by rw [← bsize_len]; exact hjn)] at hb
              rcases List.mem_append.1 hb with hb | hb
              · exact HW.out b hb
              · rw [List.mem_singleton.1 hb]; exact HB1.out)
            go_wp2_with (first | (go_at_call 63; refine (rwordByte_b s[j] true HB1 _).mono ?_; rintro e w1 ⟨rfl, rfl⟩) | fail)
            go_round
            case rel => exact ⟨j + 1, by omega, by omega, by go_num, HW2⟩
            case measure => simp [intOf]; omega
          | false =>
            have HNW : Hid (∀ c, (s.data.toList.drop j).head? = some c → wordc c = false) := Lib.hid (fun c hc => by
              rw [drop_byte s j hjn] at hc
              injection hc with hc
              rw [← hc]
              exact HB1.out)
            by_cases hlt : i < j
            · skip
              obtain ⟨d, hd⟩ : ∃ d, s.extract i j = d := ⟨_, rfl⟩
              have hsl : ∀ wx, (Instr.slice 9 (.string s) (some (.int .i64 (i : Int))) (some (.int .i64 (j : Int))) none).run Tryd.prog wx = .ok (.string d) wx := fun wx => by rw [← hd]; exact slice_two s i j (by omega) (by omega) wx
              have HDD : Hid (d.data.toList = (s.data.toList.drop i).take (j - i)) := Lib.hid (by rw [← hd]; exact Lib.extract_data s i j)
              have hdl : d.data.toList.length = j - i := by rw [HDD.out, List.length_take, List.length_drop, ← bsize_len]; omega
              have HDZ : Hid (d.size ≤ s.size) := Lib.hid (by rw [bsize_len, hdl]; omega)
              have HR2 : Hid ((tokS [] (s.data.toList.drop j)).map ((out ++ [d]) ++ ·) = o) := Lib.hid (by
                have h := HR.out
                have e : s.data.toList.drop i = d.data.toList ++ s.data.toList.drop j := by
                  rw [HDD.out]
                  have := (List.take_append_drop (j - i) (s.data.toList.drop i)).symm
                  rw [List.drop_drop, show i + (j - i) = j by omega] at this
                  exact this
                have hne : d.data.toList ≠ [] := fun h0 => by rw [h0] at hdl; simp at hdl; omega
                rw [e, tokS_cut d.data.toList _ hne (fun b hb => HW.out b (by rw [← HDD.out]; exact hb)) HNW.out out, ba_eta] at h
                exact h)
              have HO2 : Hid ((out ++ [d]).length ≤ j ∧ ∀ x ∈ out ++ [d], x.size ≤ s.size) := Lib.hid ⟨by rw [List.length_append, List.length_singleton]; have := HO.out.1; omega, fun x hx => by
                rcases List.mem_append.1 hx with hx | hx
                · exact HO.out.2 x hx
                · rw [List.mem_singleton.1 hx]; exact HDZ.out⟩
              have HS5 : Hid (w.heap.size ≤ (wo.alloc (.cells #[.string d] 9)).heap.size) := Lib.hid (by have := HT.out.lt; simp; omega)
              have hiji : (i : Int) < (j : Int) := by omega
              clear hd hdl HR HO
              go_wp2_with (first | (go_at_call 63; refine (rwordByte_b s[j] false HB1 _).mono ?_; rintro e w1 ⟨rfl, rfl⟩) | (at_builtin; (refine wpList_append_lies _ rfl _ _ 22 rfl w.heap.size 9 i0 _ 1 16 Tryd.underlying22 HIN.out.1 HIN.out.2.1 HIN.out.2.2.1 HIN.out.2.2.2 rfl (by omega) u4 out.length (svals out) rfl (own_frS HT.out.own (Fr.of (S := fun _ => False) ((Below.refl _ _).alloc (Nat.le_refl _) (.cells #[.string d] 9))) (fun _ _ h => h)) ⟨wo.heap.size, 0, none⟩ 1 1 [.string d] rfl rfl (World.news_of_block (cs := #[.string d]) (t := 9) (fr := (0, 0)) (heap_alloc_new wo _)) (by simp [Value.oneCell']) (by omega) (by unfold maxLen; omega) (by omega) HS5.out (wo.heap.size + 1) (by simp) ?_); intro gg cap w6 hown6 hgrow6 _ _; have HT6 := Lib.hid (HT.out.push d hgrow6 hown6); clear hown6 hgrow6) | fail)
              go_roundw
              case rel => exact ⟨j, out ++ [d], by omega, rfl, HT6, HR2, HO2⟩
              case measure => simp [intOf]; omega
            · skip
              obtain rfl : i = j := by omega
              have HDR := Lib.hid (drop_byte s i hjn)
              go_upto_region 9 with (first | (go_at_call 63; refine (rwordByte_b s[i] false HB1 _).mono ?_; rintro e w1 ⟨rfl, rfl⟩) | fail)
              by_cases hsg : s[i].toNat = 44 ∨ s[i].toNat = 60
              · have hsgb : s[i] = 44 ∨ s[i] = 60 := by rcases hsg with h | h; exact .inl (u8_44 h); exact .inr (u8_60 h)
                obtain ⟨d, hd⟩ : ∃ d, s.extract i (i + 1) = d := ⟨_, rfl⟩
                have HDB : Hid (d.data.toList = [s[i]]) := Lib.hid (by rw [← hd]; exact byte_piece s i hjn)
                have hsl : ∀ wx, (Instr.slice 9 (.string s) (some (.int .i64 (i : Int))) (some (.int .i64 ((i : Int) + 1))) none).run Tryd.prog wx = .ok (.string d) wx := fun wx => by rw [← hd]; exact slice_piece s i hjn wx
                have hi1 : (i : Int) + 1 ≤ (s.size : Int) := by omega
                have hdd : (⟨#[s[i]]⟩ : ByteArray) = d := bytes_eq HDB.out.symm
                have HR2 : Hid ((tokS [] (s.data.toList.drop (i + 1))).map ((out ++ [d]) ++ ·) = o) := Lib.hid (by
                  have h := HR.out
                  rw [HDR.out, tokS, if_neg (by rw [HB1.out]; decide), if_neg (by rcases hsgb with e | e <;> rw [e] <;> decide), if_pos hsgb, Option.map_map] at h
                  have e : ((out ++ ·) ∘ fun r => flushW [] (⟨#[s[i]]⟩ :: r)) = ((out ++ [d]) ++ ·) := by
                    funext r
                    show out ++ flushW [] (⟨#[s[i]]⟩ :: r) = _
                    rw [flushW_nil, hdd]
                    simp
                  rw [e] at h
                  exact h)
                have HDZ : Hid (d.size ≤ s.size) := Lib.hid (by rw [bsize_len, HDB.out]; simp; omega)
                have HO2 : Hid ((out ++ [d]).length ≤ i + 1 ∧ ∀ x ∈ out ++ [d], x.size ≤ s.size) := Lib.hid ⟨by rw [List.length_append, List.length_singleton]; have := HO.out.1; omega, fun x hx => by
                  rcases List.mem_append.1 hx with hx | hx
                  · exact HO.out.2 x hx
                  · rw [List.mem_singleton.1 hx]; exact HDZ.out⟩
                have HS5 : Hid (w.heap.size ≤ (wo.alloc (.cells #[.string d] 9)).heap.size) := Lib.hid (by have := HT.out.lt; simp; omega)
                clear hd hdd HR HO hsgb
                rcases hsg with h44 | h60
                · have h44i : (s[i].toNat : Int) = 44 := by omega
                  clear h44
                  go_wp2_with (first | (at_builtin; (refine wpList_append_lies _ rfl _ _ 22 rfl w.heap.size 9 i0 _ 1 16 Tryd.underlying22 HIN.out.1 HIN.out.2.1 HIN.out.2.2.1 HIN.out.2.2.2 rfl (by omega) u4 out.length (svals out) rfl (own_frS HT.out.own (Fr.of (S := fun _ => False) ((Below.refl _ _).alloc (Nat.le_refl _) (.cells #[.string d] 9))) (fun _ _ h => h)) ⟨wo.heap.size, 0, none⟩ 1 1 [.string d] rfl rfl (World.news_of_block (cs := #[.string d]) (t := 9) (fr := (0, 0)) (heap_alloc_new wo _)) (by simp [Value.oneCell']) (by omega) (by unfold maxLen; omega) (by omega) HS5.out (wo.heap.size + 1) (by simp) ?_); intro gg cap w6 hown6 hgrow6 _ _; have HT6 := Lib.hid (HT.out.push d hgrow6 hown6); clear hown6 hgrow6) | fail)
                  go_roundw
                  case rel => exact ⟨i + 1, out ++ [d], by omega, by go_num, HT6, HR2, HO2⟩
                  case measure => simp [intOf]; omega
                · have h44i : ¬ (s[i].toNat : Int) = 44 := by omega
                  have h44b : ((s[i].toNat : Int) == 44) = false := by rw [beq_eq_false_iff_ne]; exact h44i
                  have h60i : (s[i].toNat : Int) = 60 := by omega
                  clear h60
                  go_wp2_with (first | (at_builtin; (refine wpList_append_lies _ rfl _ _ 22 rfl w.heap.size 9 i0 _ 1 16 Tryd.underlying22 HIN.out.1 HIN.out.2.1 HIN.out.2.2.1 HIN.out.2.2.2 rfl (by omega) u4 out.length (svals out) rfl (own_frS HT.out.own (Fr.of (S := fun _ => False) ((Below.refl _ _).alloc (Nat.le_refl _) (.cells #[.string d] 9))) (fun _ _ h => h)) ⟨wo.heap.size, 0, none⟩ 1 1 [.string d] rfl rfl (World.news_of_block (cs := #[.string d]) (t := 9) (fr := (0, 0)) (heap_alloc_new wo _)) (by simp [Value.oneCell']) (by omega) (by unfold maxLen; omega) (by omega) HS5.out (wo.heap.size + 1) (by simp) ?_); intro gg cap w6 hown6 hgrow6 _ _; have HT6 := Lib.hid (HT.out.push d hgrow6 hown6); clear hown6 hgrow6) | fail)
                  go_roundw
                  case rel => exact ⟨i + 1, out ++ [d], by omega, by go_num, HT6, HR2, HO2⟩
                  case measure => simp [intOf]; omega
              have h44i : ¬ (s[i].toNat : Int) = 44 := by omega
              have h60i : ¬ (s[i].toNat : Int) = 60 := by omega
              have h44b : ((s[i].toNat : Int) == 44) = false := by rw [beq_eq_false_iff_ne]; exact h44i
              have h60b : ((s[i].toNat : Int) == 60) = false := by rw [beq_eq_false_iff_ne]; exact h60i
              have HNS : Hid (¬ (s[i] = 44 ∨ s[i] = 60)) := Lib.hid (fun h => hsg (by rcases h with e | e; exact .inl (by rw [e]; rfl); exact .inr (by rw [e]; rfl)))
              clear hsg
              by_cases h32 : s[i].toNat = 32
              · have HR2 : Hid ((tokS [] (s.data.toList.drop (i + 1))).map (out ++ ·) = o) := Lib.hid (by
                  have h := HR.out
                  rw [HDR.out, u8_32 h32, tokS_space] at h
                  exact h)
                have h32i : (s[i].toNat : Int) = 32 := by omega
                have HO2 : Hid (out.length ≤ i + 1 ∧ ∀ x ∈ out, x.size ≤ s.size) := Lib.hid ⟨by have := HO.out.1; omega, HO.out.2⟩
                clear h32 HR HO
                go_wp2_with fail
                go_roundw
                case rel => exact ⟨i + 1, out, by omega, by go_num, HT, HR2, HO2⟩
                case measure => simp [intOf]; omega
              · have hon : o = none := by
                  have h := HR.out
                  rw [HDR.out, tokS, if_neg (by rw [HB1.out]; decide), if_neg (fun e => h32 (by rw [e]; rfl)), if_neg HNS.out] at h
                  exact h.symm
                have h32i : ¬ (s[i].toNat : Int) = 32 := by omega
                have h32b : ((s[i].toNat : Int) == 32) = false := by rw [beq_eq_false_iff_ne]; exact h32i
                subst hon
                clear h32 HR
                go_wp2_with fail
                go_returns
                exact ⟨HT.out.bel, rfl⟩
        · have hji : ¬ ((j : Int) < (s.size : Int)) := by omega
          obtain rfl : s.size = j := by omega
          have HNW : Hid (∀ c, (s.data.toList.drop s.size).head? = some c → wordc c = false) := Lib.hid (fun c hc => by
            rw [List.drop_eq_nil_of_le (by rw [← bsize_len]; exact Nat.le_refl _)] at hc
            cases hc)
          obtain ⟨d, hd⟩ : ∃ d, s.extract i s.size = d := ⟨_, rfl⟩
          have hsl : ∀ wx, (Instr.slice 9 (.string s) (some (.int .i64 (i : Int))) (some (.int .i64 (s.size : Int))) none).run Tryd.prog wx = .ok (.string d) wx := fun wx => by rw [← hd]; exact slice_two s i s.size (by omega) (by omega) wx
          have HDD : Hid (d.data.toList = (s.data.toList.drop i).take (s.size - i)) := Lib.hid (by rw [← hd]; exact Lib.extract_data s i s.size)
          have hdl : d.data.toList.length = s.size - i := by rw [HDD.out, List.length_take, List.length_drop, ← bsize_len]; omega
          have HDZ : Hid (d.size ≤ s.size) := Lib.hid (by rw [bsize_len, hdl]; omega)
          have HR2 : Hid ((tokS [] (s.data.toList.drop s.size)).map ((out ++ [d]) ++ ·) = o) := Lib.hid (by
            have h := HR.out
            have e : s.data.toList.drop i = d.data.toList ++ s.data.toList.drop s.size := by
              rw [HDD.out]
              have := (List.take_append_drop (s.size - i) (s.data.toList.drop i)).symm
              rw [List.drop_drop, show i + (s.size - i) = s.size by omega] at this
              exact this
            have hne : d.data.toList ≠ [] := fun h0 => by rw [h0] at hdl; simp at hdl; omega
            rw [e, tokS_cut d.data.toList _ hne (fun b hb => HW.out b (by rw [← HDD.out]; exact hb)) HNW.out out, ba_eta] at h
            exact h)
          have HO2 : Hid ((out ++ [d]).length ≤ s.size ∧ ∀ x ∈ out ++ [d], x.size ≤ s.size) := Lib.hid ⟨by rw [List.length_append, List.length_singleton]; have := HO.out.1; omega, fun x hx => by
            rcases List.mem_append.1 hx with hx | hx
            · exact HO.out.2 x hx
            · rw [List.mem_singleton.1 hx]; exact HDZ.out⟩
          have HS5 : Hid (w.heap.size ≤ (wo.alloc (.cells #[.string d] 9)).heap.size) := Lib.hid (by have := HT.out.lt; simp; omega)
          have hiji : (i : Int) < (s.size : Int) := by omega
          clear hd hdl HR HO
          go_wp2_with (first | (at_builtin; (refine wpList_append_lies _ rfl _ _ 22 rfl w.heap.size 9 i0 _ 1 16 Tryd.underlying22 HIN.out.1 HIN.out.2.1 HIN.out.2.2.1 HIN.out.2.2.2 rfl (by omega) u4 out.length (svals out) rfl (own_frS HT.out.own (Fr.of (S := fun _ => False) ((Below.refl _ _).alloc (Nat.le_refl _) (.cells #[.string d] 9))) (fun _ _ h => h)) ⟨wo.heap.size, 0, none⟩ 1 1 [.string d] rfl rfl (World.news_of_block (cs := #[.string d]) (t := 9) (fr := (0, 0)) (heap_alloc_new wo _)) (by simp [Value.oneCell']) (by omega) (by unfold maxLen; omega) (by omega) HS5.out (wo.heap.size + 1) (by simp) ?_); intro gg cap w6 hown6 hgrow6 _ _; have HT6 := Lib.hid (HT.out.push d hgrow6 hown6); clear hown6 hgrow6) | fail)
          go_roundw
          case rel => exact ⟨s.size, out ++ [d], by omega, rfl, HT6, HR2, HO2⟩
          case measure => simp [intOf]; omega
    · have hge : ¬ ((i : Int) < (s.size : Int)) := by omega
      obtain rfl : s.size = i := by omega
      have ho : o = some out := by
        have h := HR.out
        rw [List.drop_eq_nil_of_le (by rw [← bsize_len]; exact Nat.le_refl _)] at h
        have e : tokS [] ([] : List UInt8) = some [] := rfl
        rw [e] at h
        rw [← h]
        simp
      subst ho
      have HRES := Lib.hid (HT.out.res (fun x hx => by have := HO.out.2 x hx; omega))
      clear HR
      go_wp2_with fail
      go_returns
      exact HRES.out
end Go.Proofs.YtnipigninbeplaaDoor
