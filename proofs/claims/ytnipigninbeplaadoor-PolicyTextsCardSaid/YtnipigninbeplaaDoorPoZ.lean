/-
  The walk over the program's Print.
-/
import Derived.Test.YtnipigninbeplaaDoorPoX
import Derived.Test.YtnipigninbeplaaDoorPoY
import Derived.Test.YtnipigninbeplaaDoorPF
import Derived.StillTailTactics
import Derived.Deep.DeepCutAuto
namespace Go.Proofs.YtnipigninbeplaaDoor
open Go.RowKit

theorem lvT_at {names : List ByteArray} {i : Nat} {s : ByteArray} (h : names[i]? = some s) : lvT names (i : Int) = s.data.toList := by
  unfold lvT
  rw [Int.toNat_natCast, List.getD_eq_getElem?_getD, h, Option.getD_some]
theorem joins_b (A : Option Addr) (l c : Nat) (xs : List ByteArray) (js : ByteArray) (H : Hid (js.data.toList = Lib.join (xs.map (·.data.toList)) tSep)) (h1 : 1 ≤ l) (h12 : l ≤ 12) (w : World) (hx : NOk w A l c xs) (hlen : js.data.toList.length ≤ 100000) :
    Calls Tryd.prog 28 #[.slice A l c, .string ⟨#[44, 32]⟩] w fun e w' => e = .returned (.string js) ∧ Below w.heap.size w w' := by
  obtain ⟨g, f, hA, hg, hm⟩ := hx.mem (by omega)
  subst hA
  have hl := hx.len
  subst hl
  have e : (⟨(Lib.join (xs.map (·.data.toList)) tSep).toArray⟩ : ByteArray) = js := by
    rw [← H.out]
  have h := Tryd.strings_Join g f c xs ⟨#[44, 32]⟩ w (fun j x hj => by
    obtain ⟨hj1, rfl⟩ := List.getElem?_eq_some_iff.1 hj
    exact hm j hj1) hg (by omega) hx.cap (by
      have := H.out
      show (Lib.join (xs.map (·.data.toList)) tSep).length ≤ _
      rw [← this]
      omega)
  refine h.mono ?_
  rintro e' w' ⟨he, hb⟩
  refine ⟨?_, hb⟩
  rw [he]
  exact congrArg (fun z => Ending.returned (.string z)) e
set_option maxRecDepth 100000 in
set_option maxHeartbeats 8000000 in
theorem print_b (p : Py) (An : Option Addr) (ln cn : Nat) (Ao : Option Addr) (lo co : Nat) (Ai : Option Addr) (li ci : Nat) (Ah : Option Addr) (lh ch : Nat) (hlo : lo ≤ 1000) (r : ByteArray) (k : Int) (H : Hid (printC p = (r.data.toList, k))) (w : World) (hp : PyOk w An ln cn Ao lo co Ai li ci Ah lh ch p) :
    Calls Tryd.prog 12 #[.agg (pyV An ln cn Ao lo co Ai li ci Ah lh ch p.obs p.timed)] w fun e w' => e = .returned (.tuple #[.string r, .int .i64 k]) ∧ Below w.heap.size w w' := by
  have HP := Lib.hid hp
  have HLI : Hid (p.inputs.length = li ∧ p.hatches.length = lh ∧ p.levels.length = ln ∧ p.order.length = lo) := Lib.hid ⟨hp.i.len, hp.h.len, hp.n.len, hp.o.len⟩
  have HC0 := Lib.hid (Cs.new w (pyV An ln cn Ao lo co Ai li ci Ah lh ch p.obs p.timed) 26)
  have HB0 := Lib.hid ((Below.refl w.heap.size w).alloc (Nat.le_refl _) (.cells (pyV An ln cn Ao lo co Ai li ci Ah lh ch p.obs p.timed) 26))
  obtain ⟨r1, hr1⟩ : ∃ z, polC p = z := ⟨_, rfl⟩
  have H1 := Lib.hid hr1
  unfold pyV at HC0 HB0 ⊢
  clear hp hr1
  go_enter Tryd.func12, Tryd.ntmps12
  go_upto_region 1 with fail
  obtain ⟨w1, hw1⟩ : ∃ z, w.alloc (.cells #[.slice An ln cn, .slice Ao lo co, .slice Ai li ci, .slice Ah lh ch, .int .i64 p.obs, .bool p.timed] 26) = z := ⟨_, rfl⟩
  obtain ⟨bp, hbp⟩ : ∃ z, w.heap.size = z := ⟨_, rfl⟩
  have HB1 : Hid (Below w.heap.size w w1) := hw1 ▸ HB0
  have HC1 : Hid (Cs w1 bp [.slice An ln cn, .slice Ao lo co, .slice Ai li ci, .slice Ah lh ch, .int .i64 p.obs, .bool p.timed]) := hw1 ▸ hbp ▸ HC0
  rw [hw1, hbp]
  have HBP := Lib.hid hbp
  clear hw1 HB0 HC0 hbp
  have c0 := HC1.out.at 0 _ rfl
  have c1 := HC1.out.at 1 _ rfl
  have c2 := HC1.out.at 2 _ rfl
  have c3 := HC1.out.at 3 _ rfl
  have c4 := HC1.out.at 4 _ rfl
  have c5 := HC1.out.at 5 _ rfl
  by_cases h1 : r1 = 0
  · subst h1
    go_wp2_with (first | (go_at_call 10; refine (check_b p An ln cn Ao lo co Ai li ci Ah lh ch 0 H1 _ (HP.out.below HB1.out)).mono ?_; rintro e w2 ⟨rfl, hb2⟩; clear c0 c1 c2 c3 c4 c5; have HB2 : Hid (Below w.heap.size w w2) := Lib.hid (HB1.out.trans (hb2.mono HB1.out.size)); have HC2 := Lib.hid (HC1.out.next hb2); have c0 := HC2.out.at 0 _ rfl; have hbpl := HC2.out.lt; clear hb2) | fail)
    have HV := Lib.hid (polC_ok H1.out)
    have HP2 := Lib.hid (HP.out.below HB2.out)
    have HBS0 := Lib.hid (Bst.zero w2)
    have hln1 : 1 ≤ ln := by rw [← HLI.out.2.2.1]; exact HV.out.n1
    obtain ⟨gn, fn, hAn, _, _⟩ := HP2.out.n.mem (by omega)
    subst hAn
    have hln12 : ln ≤ 12 := by rw [← HLI.out.2.2.1]; exact HV.out.n12
    have hli : li ≤ 64 := by rw [← HLI.out.1]; exact HV.out.ni
    have hlh : lh ≤ 64 := by rw [← HLI.out.2.1]; exact HV.out.nh
    have HBP2 : Hid (bp < w2.heap.size) := Lib.hid HC2.out.lt
    clear c0
    obtain ⟨b, hb⟩ : ∃ z, w2.heap.size = z := ⟨_, rfl⟩
    obtain ⟨w3, hw3⟩ : ∃ z, w2.alloc (.cells #[.pointer none, .slice none 0 0] 63) = z := ⟨_, rfl⟩
    have HS : Hid (Bst w2 b w3 []) := hb ▸ hw3 ▸ HBS0
    rw [hw3, hb]
    clear hw3 hb HBS0
    obtain ⟨js, hjs⟩ := mk_bytes (namU p.levels p.levels.length)
    obtain ⟨s2, hs2⟩ := mk_bytes (tLevels ++ namU p.levels p.levels.length)
    obtain ⟨s3, hs3⟩ := mk_bytes (headT p.levels)
    have hnl := namU_len HV.out.nm p.levels.length
    have hn12 := HV.out.n12
    have hhl : (headT p.levels).length ≤ 200 := by
      unfold headT
      have : tLevels.length = 7 := rfl
      simp only [List.length_append, List.length_cons, List.length_nil]
      omega
    have HHL := Lib.hid hhl
    have ad1 : ∀ wx, (Op.stringOp .add ⟨#[108, 101, 118, 101, 108, 115, 32]⟩ js).run Tryd.prog wx = .ok (.string s2) wx := add_fact _ _ _ (by rw [hjs, hs2]; rfl) (by rw [hs2, List.length_append]; have : tLevels.length = 7 := rfl; omega)
    have ad2 : ∀ wx, (Op.stringOp .add s2 ⟨#[10]⟩).run Tryd.prog wx = .ok (.string s3) wx := add_fact _ _ _ (by rw [hs2, hs3]; rfl) (by rw [hs3]; omega)
    have HJS : Hid (js.data.toList = Lib.join (p.levels.map (·.data.toList)) tSep) := Lib.hid (by rw [hjs]; unfold namU; rw [List.take_length])
    have HS3 : Hid (([] : List UInt8) ++ s3.data.toList = headT p.levels) := Lib.hid (by rw [hs3]; rfl)
    have HJL : Hid (js.data.toList.length ≤ 100000) := Lib.hid (by rw [hjs]; omega)
    clear hjs hs2 hs3 hnl hhl hn12
    have c0 := (HC2.out.next HS.out.bel).at 0 _ rfl
    go_upto_region 5 with (first | (go_at_call 28; refine (joins_b (some ⟨gn, fn, none⟩) ln cn p.levels js HJS hln1 hln12 _ (HP2.out.below HS.out.bel).n HJL.out).mono ?_; rintro e w4 ⟨rfl, hb4⟩; have HS4 := Lib.hid (HS.out.next hb4); clear hb4) | (go_at_call 27; refine (ws_b w2 b _ _ s3 (headT p.levels) HS3 HS4.out (by have := HHL.out; omega)).mono ?_; rintro e w5 ⟨rfl, hs5, _⟩; have HS5 := Lib.hid hs5; clear hs5) | fail)
    clear HS4 HS ad1 ad2 c0 HS3 HJS HJL
    have HT1 : Hid (Bst w2 b w5 (headT p.levels ++ ordU p.levels p.order 0)) := Lib.hid (by rw [ordU_zero, List.append_nil]; exact HS5.out)
    have c1 := (HC2.out.next HS5.out.bel).at 1 _ rfl
    clear HS5
    go_wp2_with fail
    go_loopw [23] (fun v wr => ∃ i : Nat, i ≤ lo ∧ v = .int .i64 i ∧ Hid (Bst w2 b wr (headT p.levels ++ ordU p.levels p.order i))) (fun v _ => lo - (intOf v).toNat)
    case atStart => exact ⟨0, Nat.zero_le _, rfl, HT1⟩
    case round =>
      obtain ⟨i, hi, rfl, HS⟩ := hrel
      clear HT1 c1
      by_cases hit : i < lo
      · have hit' : (i : Int) < (lo : Int) := by omega
        have hi0 : (0 : Int) ≤ (i : Int) := by omega
        obtain ⟨x, y, g, f, ht, hAA, hg, k0, k1⟩ := (HP2.out.below HS.out.bel).o.at i hit
        subst hAA
        have hq := HV.out.od (x, y) (List.mem_of_getElem? ht)
        unfold inPb at hq
        simp only [Bool.and_eq_true, decide_eq_true_eq, HLI.out.2.2.1] at hq
        obtain ⟨⟨hx0, hx1⟩, hy0, hy1⟩ := hq
        obtain ⟨X, rfl⟩ : ∃ X : Nat, x = X := ⟨x.toNat, by omega⟩
        obtain ⟨Y, rfl⟩ : ∃ Y : Nat, y = Y := ⟨y.toNat, by omega⟩
        have HO1 := Lib.hid (ordU_one p.levels p.order i (X, Y) ht)
        obtain ⟨s1, ga, fa, hX1, _, hA7, _, hc7⟩ := HP2.out.n.at X (by omega)
        obtain ⟨s2, gc, fc, hY1, _, hA8, _, hc8⟩ := HP2.out.n.at Y (by omega)
        clear hA7 hc7 hA8 hc8
        have HX1 := Lib.hid hX1
        have HY1 := Lib.hid hY1
        have HOL : Hid (∀ k, (ordU p.levels p.order k).length ≤ 30000) := Lib.hid (fun k => by have := ordU_len HV.out.nm p.order k; rw [HLI.out.2.2.2] at this; omega)
        obtain ⟨z1, hz1⟩ := mk_bytes (s1.data.toList ++ tLt)
        obtain ⟨z2, hz2⟩ := mk_bytes (pairT p.levels (X, Y))
        have hpl := pairT_len HV.out.nm (X, Y)
        have hz12 : z2.data.toList = z1.data.toList ++ s2.data.toList := by rw [hz1, hz2]; unfold pairT; rw [lvT_at hX1, lvT_at hY1]
        have had1 : ∀ wx, (Op.stringOp .add s1 ⟨#[32, 60, 32]⟩).run Tryd.prog wx = .ok (.string z1) wx := add_fact _ _ _ (by rw [hz1]; rfl) (by have h9 := congrArg List.length hz12; rw [hz2, List.length_append] at h9; omega)
        have had2 : ∀ wx, (Op.stringOp .add z1 s2).run Tryd.prog wx = .ok (.string z2) wx := add_fact _ _ _ hz12.symm (by rw [hz2]; omega)
        have HZ2 := Lib.hid hz2
        have HQ0 := Lib.hid (Bk.new wr #[.int .i64 X, .int .i64 Y] 42)
        have HS5 := Lib.hid (HS.out.alloc (.cells #[.int .i64 X, .int .i64 Y] 42))
        have HNEB : Hid (wr.heap.size ≠ b) := Lib.hid (by have := HS.out.lt; omega)
        clear ht hX1 hY1 hz1 hz2 hpl hz12
        go_upto_region 8 with fail
        obtain ⟨w5, hwn⟩ : ∃ w5, wr.alloc (.cells #[.int .i64 X, .int .i64 Y] 42) = w5 := ⟨_, rfl⟩
        obtain ⟨h5, hhn⟩ : ∃ h5, wr.heap.size = h5 := ⟨_, rfl⟩
        rw [hwn] at HQ0 HS5
        rw [hhn] at HQ0 HNEB
        rw [hwn, hhn]
        have HQ := HQ0
        clear hwn hhn k0 k1 HQ0
        by_cases hi00 : i = 0
        · have HSEP : Hid ((headT p.levels ++ ordU p.levels p.order i) ++ (⟨#[111, 114, 100, 101, 114, 32]⟩ : ByteArray).data.toList = headT p.levels ++ ordU p.levels p.order i ++ tOrder) := Lib.hid rfl
          have HONE : Hid ((headT p.levels ++ ordU p.levels p.order i ++ tOrder) ++ z2.data.toList = headT p.levels ++ ordU p.levels p.order (i + 1)) := Lib.hid (by rw [HZ2.out, HO1.out, if_pos hi00]; simp only [List.append_assoc])
          have hsl : tOrder.length ≤ 6 := by decide
          have HSL := Lib.hid hsl
          clear hsl
          have hi1 : (i : Int) = 0 := by omega
          go_upto_region 11 with (first | (go_at_call 27; refine (ws_b w2 b _ _ ⟨#[111, 114, 100, 101, 114, 32]⟩ _ HSEP HS5.out (by rw [List.length_append, List.length_append]; have := HSL.out; have := HHL.out; have := HOL.out i; omega)).mono ?_; rintro e w6 ⟨rfl, hs6, hk6⟩; have HS6 := Lib.hid hs6; have HQ6 := Lib.hid (HQ.out.kept hk6 (by decide) HNEB.out); clear hs6 hk6) | fail)
          have d0 := (HC2.out.next HS6.out.bel).at 0 _ rfl
          have n0 := HQ6.out.at 0 _ rfl
          have n1 := HQ6.out.at 1 _ rfl
          have m0 := (HP2.out.below HS6.out.bel).n.at X (by omega)
          have m1 := (HP2.out.below HS6.out.bel).n.at Y (by omega)
          obtain ⟨s5, g5, f5, e5, _, ea5, _, m0⟩ := m0
          obtain ⟨s6, g6, f6, e6, _, ea6, _, m1⟩ := m1
          injection ea5 with ea5
          injection ea5 with eb5 ec5
          injection ea6 with ea6
          injection ea6 with eb6 ec6
          subst eb5 ec5 eb6 ec6
          rw [HX1.out] at e5
          rw [HY1.out] at e6
          cases e5
          cases e6
          go_still_tail 14, (by kernel_rfl)
          have HS7 := Lib.hid HS6.out.drew
          clear d0 n0 n1 m0 m1 had1 had2
          go_wp2_with (first | (go_at_call 27; refine (ws_b w2 b _ _ z2 _ HONE HS7.out (by rw [List.length_append]; have := HHL.out; have := HOL.out (i + 1); omega)).mono ?_; rintro e w8 ⟨rfl, hs8, _⟩; have HS8 := Lib.hid hs8; clear hs8) | fail)
          go_roundw
          case rel => exact ⟨i + 1, by omega, by go_num, HS8⟩
          case measure => simp [intOf]; omega
        · have HSEP : Hid ((headT p.levels ++ ordU p.levels p.order i) ++ (⟨#[44, 32]⟩ : ByteArray).data.toList = headT p.levels ++ ordU p.levels p.order i ++ tSep) := Lib.hid rfl
          have HONE : Hid ((headT p.levels ++ ordU p.levels p.order i ++ tSep) ++ z2.data.toList = headT p.levels ++ ordU p.levels p.order (i + 1)) := Lib.hid (by rw [HZ2.out, HO1.out, if_neg hi00]; simp only [List.append_assoc])
          have hsl : tSep.length ≤ 6 := by decide
          have HSL := Lib.hid hsl
          clear hsl
          have hi1 : ¬ (i : Int) = 0 := by omega
          go_upto_region 11 with (first | (go_at_call 27; refine (ws_b w2 b _ _ ⟨#[44, 32]⟩ _ HSEP HS5.out (by rw [List.length_append, List.length_append]; have := HSL.out; have := HHL.out; have := HOL.out i; omega)).mono ?_; rintro e w6 ⟨rfl, hs6, hk6⟩; have HS6 := Lib.hid hs6; have HQ6 := Lib.hid (HQ.out.kept hk6 (by decide) HNEB.out); clear hs6 hk6) | fail)
          have d0 := (HC2.out.next HS6.out.bel).at 0 _ rfl
          have n0 := HQ6.out.at 0 _ rfl
          have n1 := HQ6.out.at 1 _ rfl
          have m0 := (HP2.out.below HS6.out.bel).n.at X (by omega)
          have m1 := (HP2.out.below HS6.out.bel).n.at Y (by omega)
          obtain ⟨s5, g5, f5, e5, _, ea5, _, m0⟩ := m0
          obtain ⟨s6, g6, f6, e6, _, ea6, _, m1⟩ := m1
          injection ea5 with ea5
          injection ea5 with eb5 ec5
          injection ea6 with ea6
          injection ea6 with eb6 ec6
          subst eb5 ec5 eb6 ec6
          rw [HX1.out] at e5
          rw [HY1.out] at e6
          cases e5
          cases e6
          go_still_tail 14, (by kernel_rfl)
          have HS7 := Lib.hid HS6.out.drew
          clear d0 n0 n1 m0 m1 had1 had2
          go_wp2_with (first | (go_at_call 27; refine (ws_b w2 b _ _ z2 _ HONE HS7.out (by rw [List.length_append]; have := HHL.out; have := HOL.out (i + 1); omega)).mono ?_; rintro e w8 ⟨rfl, hs8, _⟩; have HS8 := Lib.hid hs8; clear hs8) | fail)
          go_roundw
          case rel => exact ⟨i + 1, by omega, by go_num, HS8⟩
          case measure => simp [intOf]; omega
      · have hge : ¬ ((i : Int) < (lo : Int)) := by omega
        obtain rfl : i = lo := by omega
        have HTE : Hid (ordT p.levels p.order = ordU p.levels p.order i ++ (if 0 < i then [10] else [])) := Lib.hid (by unfold ordT; rw [HLI.out.2.2.2])
        have HOL : Hid ((ordU p.levels p.order i).length ≤ 30000) := Lib.hid (by have := ordU_len HV.out.nm p.order i; rw [HLI.out.2.2.2] at this; omega)
        have HTL : Hid ((ordT p.levels p.order).length ≤ 30001) := Lib.hid (by rw [HTE.out, List.length_append]; have := HOL.out; split <;> simp <;> omega)
        have c1 := (HC2.out.next HS.out.bel).at 1 _ rfl
        have c2 := (HC2.out.next HS.out.bel).at 2 _ rfl
        clear hit
        go_upto_if 51 with fail
        go_cut [] (fun wc => Hid (Bst w2 b wc (headT p.levels ++ ordT p.levels p.order ++ labsT p.levels tInput (p.inputs.take 0))))
        case first =>
          by_cases h0 : 0 < i
          · have h0i : (0 : Int) < (i : Int) := by omega
            have HTB : Hid ((headT p.levels ++ ordU p.levels p.order i) ++ [10] = headT p.levels ++ ordT p.levels p.order ++ labsT p.levels tInput (p.inputs.take 0)) := Lib.hid (by rw [HTE.out, if_pos h0]; simp [labsT])
            go_wp2_with (first | (go_at_call 29; refine (wb_b w2 b _ _ _ HTB HS.out (by rw [List.take_zero, List.length_append, List.length_append]; have := HHL.out; have := HTL.out; simp [labsT]; omega)).mono ?_; rintro e w8 ⟨rfl, hs8⟩; have HS8 := Lib.hid hs8; clear hs8) | fail)
            go_meet
            case rel => exact HS8
          · have h0i : ¬ (0 : Int) < (i : Int) := by omega
            have HS8 : Hid (Bst w2 b wr (headT p.levels ++ ordT p.levels p.order ++ labsT p.levels tInput (p.inputs.take 0))) := Lib.hid (by have h := HS.out; rw [HTE.out, if_neg h0]; simpa [labsT] using h)
            go_wp2_with fail
            go_meet
            case rel => exact HS8
        case rest =>
          clear HS c1 c2 HTE HOL
          have HLB : Hid (∀ k, (labsT p.levels tInput (p.inputs.take k)).length ≤ 3840) := Lib.hid (labsT_take HV.out.nm tInput (by decide) p.inputs HV.out.ni (fun x hx => (HV.out.li x hx).1))
          have HLH : Hid (∀ k, (labsT p.levels tHatch (p.hatches.take k)).length ≤ 3840) := Lib.hid (labsT_take HV.out.nm tHatch (by decide) p.hatches HV.out.nh (fun x hx => (HV.out.lh x hx).1))
          have HLI3 : Hid ((labsT p.levels tInput p.inputs).length ≤ 3840) := Lib.hid (by have := HLB.out p.inputs.length; rw [List.take_length] at this; exact this)
          have HLH3 : Hid ((labsT p.levels tHatch p.hatches).length ≤ 3840) := Lib.hid (by have := HLH.out p.hatches.length; rw [List.take_length] at this; exact this)
          have c2 := (HC2.out.next hcut.out.bel).at 2 _ rfl
          go_wp2_with fail
          go_loopw [56] (fun v wr => ∃ i : Nat, i ≤ li ∧ v = .int .i64 i ∧ Hid (Bst w2 b wr (headT p.levels ++ ordT p.levels p.order ++ labsT p.levels tInput (p.inputs.take i)))) (fun v _ => li - (intOf v).toNat)
          case atStart => exact ⟨0, Nat.zero_le _, rfl, hcut⟩
          case round =>
            obtain ⟨i, hi, rfl, HS⟩ := hrel
            clear hcut
            by_cases hit : i < li
            · have hit' : (i : Int) < (li : Int) := by omega
              have hi0 : (0 : Int) ≤ (i : Int) := by omega
              obtain ⟨s, v, g, f, ht, hsz, hAA, hg, k0, k1⟩ := (HP2.out.below HS.out.bel).i.at i hit
              subst hAA
              obtain ⟨hnm, hv0, hv1⟩ := HV.out.li ⟨s, v⟩ (List.mem_of_getElem? ht)
              simp only [HLI.out.2.2.1] at hv0 hv1
              obtain ⟨X, rfl⟩ : ∃ X : Nat, v = X := ⟨v.toNat, by omega⟩
              have HONE0 := Lib.hid (labsT_one p.levels tInput p.inputs i ⟨s, X⟩ ht)
              obtain ⟨s1, ga, fa, hX1, _, hA7, _, hc7⟩ := HP2.out.n.at X (by omega)
              clear hA7 hc7
              have HX1 := Lib.hid hX1
              have hll := labT_len HV.out.nm tInput (by decide) ⟨s, X⟩ hnm
              obtain ⟨z1, hz1⟩ := mk_bytes (tInput ++ s.data.toList)
              obtain ⟨z2, hz2⟩ := mk_bytes (tInput ++ s.data.toList ++ [32])
              obtain ⟨z3, hz3⟩ := mk_bytes (tInput ++ s.data.toList ++ [32] ++ lvT p.levels X)
              obtain ⟨z4, hz4⟩ := mk_bytes (labT p.levels tInput ⟨s, X⟩)
              have hll2 : (tInput ++ s.data.toList ++ [32] ++ lvT p.levels X ++ [10]).length ≤ 60 := hll
              simp only [List.length_append] at hll2
              have had1 : ∀ wx, (Op.stringOp .add ⟨#[105, 110, 112, 117, 116, 32]⟩ s).run Tryd.prog wx = .ok (.string z1) wx := add_fact _ _ _ (by rw [hz1]; rfl) (by rw [hz1, List.length_append]; omega)
              have had2 : ∀ wx, (Op.stringOp .add z1 ⟨#[32]⟩).run Tryd.prog wx = .ok (.string z2) wx := add_fact _ _ _ (by rw [hz1, hz2]) (by rw [hz2, List.length_append, List.length_append]; omega)
              have had3 : ∀ wx, (Op.stringOp .add z2 s1).run Tryd.prog wx = .ok (.string z3) wx := add_fact _ _ _ (by rw [hz2, hz3, lvT_at hX1]) (by rw [hz3, List.length_append, List.length_append, List.length_append]; omega)
              have had4 : ∀ wx, (Op.stringOp .add z3 ⟨#[10]⟩).run Tryd.prog wx = .ok (.string z4) wx := add_fact _ _ _ (by rw [hz3, hz4]; rfl) (by rw [hz4]; omega)
              have HONE : Hid ((headT p.levels ++ ordT p.levels p.order ++ labsT p.levels tInput (p.inputs.take i)) ++ z4.data.toList = headT p.levels ++ ordT p.levels p.order ++ labsT p.levels tInput (p.inputs.take (i + 1))) := Lib.hid (by rw [hz4, HONE0.out]; simp only [List.append_assoc])
              have HQ0 := Lib.hid (Bk.new wr #[.string s, .int .i64 X] 71)
              have HS5 := Lib.hid (HS.out.alloc (.cells #[.string s, .int .i64 X] 71))
              clear ht hX1 hz1 hz2 hz3 hz4 hll hll2 hsz hnm
              go_upto_region 18 with fail
              obtain ⟨w5, hwn⟩ : ∃ w5, wr.alloc (.cells #[.string s, .int .i64 X] 71) = w5 := ⟨_, rfl⟩
              obtain ⟨h5, hhn⟩ : ∃ h5, wr.heap.size = h5 := ⟨_, rfl⟩
              rw [hwn] at HQ0 HS5
              rw [hhn] at HQ0
              rw [hwn, hhn]
              clear hwn hhn k0 k1
              have d0 := (HC2.out.next HS5.out.bel).at 0 _ rfl
              have n0 := HQ0.out.at 0 _ rfl
              have n1 := HQ0.out.at 1 _ rfl
              have m0 := (HP2.out.below HS5.out.bel).n.at X (by omega)
              obtain ⟨s5, g5, f5, e5, _, ea5, _, m0⟩ := m0
              injection ea5 with ea5
              injection ea5 with eb5 ec5
              subst eb5 ec5
              rw [HX1.out] at e5
              cases e5
              go_still_tail 12, (by kernel_rfl)
              have HS7 := Lib.hid HS5.out.drew
              clear d0 n0 n1 m0 had1 had2 had3 had4
              go_wp2_with (first | (go_at_call 27; refine (ws_b w2 b _ _ z4 _ HONE HS7.out (by rw [List.length_append, List.length_append]; have := HHL.out; have := HTL.out; have := HLB.out (i + 1); omega)).mono ?_; rintro e w8 ⟨rfl, hs8, _⟩; have HS8 := Lib.hid hs8; clear hs8) | fail)
              go_roundw
              case rel => exact ⟨i + 1, by omega, by go_num, HS8⟩
              case measure => simp [intOf]; omega
            · have hge : ¬ ((i : Int) < (li : Int)) := by omega
              obtain rfl : i = li := by omega
              have HSE : Hid (Bst w2 b wr (headT p.levels ++ ordT p.levels p.order ++ labsT p.levels tInput p.inputs ++ labsT p.levels tHatch (p.hatches.take 0))) := Lib.hid (by have h := HS.out; rw [List.take_of_length_le (by rw [HLI.out.1]; exact Nat.le_refl _)] at h; simpa [labsT] using h)
              clear HS hit
              clear c2
              rename World => wo2
              have c3 := (HC2.out.next HSE.out.bel).at 3 _ rfl
              go_wp2_with fail
              go_loopw [77] (fun v wr => ∃ i : Nat, i ≤ lh ∧ v = .int .i64 i ∧ Hid (Bst w2 b wr (headT p.levels ++ ordT p.levels p.order ++ labsT p.levels tInput p.inputs ++ labsT p.levels tHatch (p.hatches.take i)))) (fun v _ => lh - (intOf v).toNat)
              case atStart => exact ⟨0, Nat.zero_le _, rfl, HSE⟩
              case round =>
                obtain ⟨i, hi, rfl, HS⟩ := hrel
                clear HSE
                by_cases hit : i < lh
                · have hit' : (i : Int) < (lh : Int) := by omega
                  have hi0 : (0 : Int) ≤ (i : Int) := by omega
                  obtain ⟨s, v, g, f, ht, hsz, hAA, hg, k0, k1⟩ := (HP2.out.below HS.out.bel).h.at i hit
                  subst hAA
                  obtain ⟨hnm, hv0, hv1⟩ := HV.out.lh ⟨s, v⟩ (List.mem_of_getElem? ht)
                  simp only [HLI.out.2.2.1] at hv0 hv1
                  obtain ⟨X, rfl⟩ : ∃ X : Nat, v = X := ⟨v.toNat, by omega⟩
                  have HONE0 := Lib.hid (labsT_one p.levels tHatch p.hatches i ⟨s, X⟩ ht)
                  obtain ⟨s1, ga, fa, hX1, _, hA7, _, hc7⟩ := HP2.out.n.at X (by omega)
                  clear hA7 hc7
                  have HX1 := Lib.hid hX1
                  have hll := labT_len HV.out.nm tHatch (by decide) ⟨s, X⟩ hnm
                  obtain ⟨z1, hz1⟩ := mk_bytes (tHatch ++ s.data.toList)
                  obtain ⟨z2, hz2⟩ := mk_bytes (tHatch ++ s.data.toList ++ [32])
                  obtain ⟨z3, hz3⟩ := mk_bytes (tHatch ++ s.data.toList ++ [32] ++ lvT p.levels X)
                  obtain ⟨z4, hz4⟩ := mk_bytes (labT p.levels tHatch ⟨s, X⟩)
                  have hll2 : (tHatch ++ s.data.toList ++ [32] ++ lvT p.levels X ++ [10]).length ≤ 60 := hll
                  simp only [List.length_append] at hll2
                  have had1 : ∀ wx, (Op.stringOp .add ⟨#[104, 97, 116, 99, 104, 32]⟩ s).run Tryd.prog wx = .ok (.string z1) wx := add_fact _ _ _ (by rw [hz1]; rfl) (by rw [hz1, List.length_append]; omega)
                  have had2 : ∀ wx, (Op.stringOp .add z1 ⟨#[32]⟩).run Tryd.prog wx = .ok (.string z2) wx := add_fact _ _ _ (by rw [hz1, hz2]) (by rw [hz2, List.length_append, List.length_append]; omega)
                  have had3 : ∀ wx, (Op.stringOp .add z2 s1).run Tryd.prog wx = .ok (.string z3) wx := add_fact _ _ _ (by rw [hz2, hz3, lvT_at hX1]) (by rw [hz3, List.length_append, List.length_append, List.length_append]; omega)
                  have had4 : ∀ wx, (Op.stringOp .add z3 ⟨#[10]⟩).run Tryd.prog wx = .ok (.string z4) wx := add_fact _ _ _ (by rw [hz3, hz4]; rfl) (by rw [hz4]; omega)
                  have HONE : Hid ((headT p.levels ++ ordT p.levels p.order ++ labsT p.levels tInput p.inputs ++ labsT p.levels tHatch (p.hatches.take i)) ++ z4.data.toList = headT p.levels ++ ordT p.levels p.order ++ labsT p.levels tInput p.inputs ++ labsT p.levels tHatch (p.hatches.take (i + 1))) := Lib.hid (by rw [hz4, HONE0.out]; simp only [List.append_assoc])
                  have HQ0 := Lib.hid (Bk.new wr #[.string s, .int .i64 X] 71)
                  have HS5 := Lib.hid (HS.out.alloc (.cells #[.string s, .int .i64 X] 71))
                  clear ht hX1 hz1 hz2 hz3 hz4 hll hll2 hsz hnm
                  go_upto_region 23 with fail
                  obtain ⟨w5, hwn⟩ : ∃ w5, wr.alloc (.cells #[.string s, .int .i64 X] 71) = w5 := ⟨_, rfl⟩
                  obtain ⟨h5, hhn⟩ : ∃ h5, wr.heap.size = h5 := ⟨_, rfl⟩
                  rw [hwn] at HQ0 HS5
                  rw [hhn] at HQ0
                  rw [hwn, hhn]
                  clear hwn hhn k0 k1
                  have d0 := (HC2.out.next HS5.out.bel).at 0 _ rfl
                  have n0 := HQ0.out.at 0 _ rfl
                  have n1 := HQ0.out.at 1 _ rfl
                  have m0 := (HP2.out.below HS5.out.bel).n.at X (by omega)
                  obtain ⟨s5, g5, f5, e5, _, ea5, _, m0⟩ := m0
                  injection ea5 with ea5
                  injection ea5 with eb5 ec5
                  subst eb5 ec5
                  rw [HX1.out] at e5
                  cases e5
                  go_still_tail 12, (by kernel_rfl)
                  have HS7 := Lib.hid HS5.out.drew
                  clear d0 n0 n1 m0 had1 had2 had3 had4
                  go_wp2_with (first | (go_at_call 27; refine (ws_b w2 b _ _ z4 _ HONE HS7.out (by rw [List.length_append, List.length_append, List.length_append]; have := HHL.out; have := HTL.out; have := HLI3.out; have := HLH.out (i + 1); omega)).mono ?_; rintro e w8 ⟨rfl, hs8, _⟩; have HS8 := Lib.hid hs8; clear hs8) | fail)
                  go_roundw
                  case rel => exact ⟨i + 1, by omega, by go_num, HS8⟩
                  case measure => simp [intOf]; omega
                · have hge : ¬ ((i : Int) < (lh : Int)) := by omega
                  obtain rfl : i = lh := by omega
                  have HSE : Hid (Bst w2 b wr (headT p.levels ++ ordT p.levels p.order ++ labsT p.levels tInput p.inputs ++ labsT p.levels tHatch p.hatches)) := Lib.hid (by have h := HS.out; rw [List.take_of_length_le (by rw [HLI.out.2.1]; exact Nat.le_refl _)] at h; exact h)
                  clear HS hit
                  have hlo0 := HV.out.ob
                  rw [HLI.out.2.2.1] at hlo0
                  obtain ⟨ob, hob⟩ : ∃ z, p.obs = z := ⟨_, rfl⟩
                  have HOB := Lib.hid hob
                  rw [hob] at hlo0
                  obtain ⟨X, hX⟩ : ∃ X : Nat, ob = X := ⟨ob.toNat, by omega⟩
                  subst hX
                  obtain ⟨s1, ga, fa, hX1, _, hA7, _, hc7⟩ := HP2.out.n.at X (by omega)
                  clear hA7 hc7
                  have hlv := lvT_len HV.out.nm (X : Int)
                  have HX1 := Lib.hid hX1
                  obtain ⟨z1, hz1⟩ := mk_bytes (tObs ++ lvT p.levels X)
                  have had1 : ∀ wx, (Op.stringOp .add ⟨#[111, 98, 115, 101, 114, 118, 101, 32]⟩ s1).run Tryd.prog wx = .ok (.string z1) wx := add_fact _ _ _ (by rw [hz1, lvT_at hX1]; rfl) (by rw [hz1, List.length_append]; have : tObs.length = 8 := rfl; omega)
                  obtain ⟨TT, hTT⟩ : ∃ z, headT p.levels ++ ordT p.levels p.order ++ labsT p.levels tInput p.inputs ++ labsT p.levels tHatch p.hatches = z := ⟨_, rfl⟩
                  have HTT : Hid (TT.length ≤ 40000) := Lib.hid (by rw [← hTT, List.length_append, List.length_append, List.length_append]; have := HHL.out; have := HTL.out; have := HLI3.out; have := HLH3.out; omega)
                  have HTP : Hid (printL p = TT ++ obsT p.levels p.obs p.timed) := Lib.hid (by unfold printL; rw [hTT])
                  rw [hTT] at HSE
                  have HO1 : Hid (TT ++ z1.data.toList = TT ++ (tObs ++ lvT p.levels X)) := Lib.hid (by rw [hz1])
                  have hz1l : (tObs ++ lvT p.levels X).length ≤ 20 := by rw [List.length_append]; have : tObs.length = 8 := rfl; omega
                  have HZ1L := Lib.hid hz1l
                  have d0 := (HC2.out.next HSE.out.bel).at 0 _ rfl
                  have d4 := (HC2.out.next HSE.out.bel).at 4 _ rfl
                  have m0 := (HP2.out.below HSE.out.bel).n.at X (by omega)
                  obtain ⟨s5, g5, f5, e5, _, ea5, _, m0⟩ := m0
                  injection ea5 with ea5
                  injection ea5 with eb5 ec5
                  subst eb5 ec5
                  rw [HX1.out] at e5
                  cases e5
                  rw [hob] at d4
                  have hx0' : (0 : Int) ≤ (X : Int) := by omega
                  have hx1' : (X : Int) < (ln : Int) := by omega
                  have HOBS : Hid (obsT p.levels p.obs p.timed = tObs ++ lvT p.levels X ++ (if p.timed then tTimed else []) ++ [10]) := Lib.hid (by unfold obsT; rw [hob])
                  clear hTT hX1 hz1 hz1l hlv hob hlo0 c3
                  go_upto_region 26 with (first | (go_at_call 27; refine (ws_b w2 b _ _ z1 _ HO1 HSE.out (by rw [List.length_append]; have := HTT.out; have := HZ1L.out; omega)).mono ?_; rintro e w8 ⟨rfl, hs8, _⟩; have HS8 := Lib.hid hs8; clear hs8) | fail)
                  clear d0 d4 m0 had1
                  have d5 := (HC2.out.next HS8.out.bel).at 5 _ rfl
                  cases htm : p.timed with
                  | true =>
                    rw [htm] at d5
                    have HTM : Hid ((TT ++ (tObs ++ lvT p.levels X)) ++ (⟨#[32, 116, 105, 109, 101, 100]⟩ : ByteArray).data.toList = TT ++ (tObs ++ lvT p.levels X) ++ tTimed) := Lib.hid rfl
                    have HTE2 : Hid ((TT ++ (tObs ++ lvT p.levels X) ++ tTimed) ++ [10] = printL p) := Lib.hid (by rw [HTP.out, HOBS.out, htm]; simp)
                    have hpl : (printL p).length ≤ 100000 := by rw [← HTE2.out]; simp only [List.length_append, List.length_cons, List.length_nil]; have := HTT.out; have := HZ1L.out; have : tTimed.length = 6 := rfl; simp only [List.length_append] at *; omega
                    have HPL := Lib.hid hpl
                    clear hpl htm
                    have hk := H.out
                    unfold printC at hk
                    rw [if_neg (by rw [H1.out]; decide)] at hk
                    by_cases h8 : 8192 < (printL p).length
                    · rw [if_pos h8] at hk
                      injection hk with e1 e2
                      have hr : r = ⟨#[]⟩ := bytes_eq e1.symm
                      subst hr
                      subst e2
                      obtain ⟨N, hN⟩ : ∃ N, (printL p).length = N := ⟨_, rfl⟩
                      rw [hN] at h8
                      have h8i : (8192 : Int) < (N : Int) := by omega
                      have HN := Lib.hid hN
                      clear H h8 hN e1
                      go_wp2_with (first | (go_at_call 27; refine (ws_b w2 b _ _ ⟨#[32, 116, 105, 109, 101, 100]⟩ _ HTM HS8.out (by rw [List.length_append, List.length_append]; have := HTT.out; have := HZ1L.out; have : tTimed.length = 6 := rfl; omega)).mono ?_; rintro e w9 ⟨rfl, hs9, _⟩; have HS9 := Lib.hid hs9; clear hs9) | (go_at_call 29; refine (wb_b w2 b _ _ _ HTE2 HS9.out HPL.out).mono ?_; rintro e w10 ⟨rfl, hs10⟩; have HS10 := Lib.hid hs10; clear hs10) | (go_at_call 30; refine (bl_b w2 b _ _ HS10.out).mono ?_; rintro e wy ⟨rfl, rfl⟩; rw [HN.out]) | fail)
                      go_returns
                      exact ⟨rfl, HBP.out ▸ (HB2.out.trans (HS10.out.bel.mono HB2.out.size))⟩
                    · rw [if_neg h8] at hk
                      injection hk with e1 e2
                      subst e2
                      have hr : (⟨(printL p).toArray⟩ : ByteArray) = r := bytes_eq e1
                      obtain ⟨N, hN⟩ : ∃ N, (printL p).length = N := ⟨_, rfl⟩
                      rw [hN] at h8
                      have h8i : ¬ (8192 : Int) < (N : Int) := by omega
                      have HN := Lib.hid hN
                      have HRR := Lib.hid hr
                      clear H h8 hN e1 hr
                      go_wp2_with (first | (go_at_call 27; refine (ws_b w2 b _ _ ⟨#[32, 116, 105, 109, 101, 100]⟩ _ HTM HS8.out (by rw [List.length_append, List.length_append]; have := HTT.out; have := HZ1L.out; have : tTimed.length = 6 := rfl; omega)).mono ?_; rintro e w9 ⟨rfl, hs9, _⟩; have HS9 := Lib.hid hs9; clear hs9) | (go_at_call 29; refine (wb_b w2 b _ _ _ HTE2 HS9.out HPL.out).mono ?_; rintro e w10 ⟨rfl, hs10⟩; have HS10 := Lib.hid hs10; clear hs10) | (go_at_call 30; refine (bl_b w2 b _ _ HS10.out).mono ?_; rintro e wy ⟨rfl, rfl⟩; rw [HN.out]) | (go_at_call 31; refine (bs_b w2 b _ _ HS10.out).mono ?_; rintro e w11 ⟨rfl, hb11⟩; rw [HRR.out]; have HB11 := Lib.hid hb11; clear hb11) | fail)
                      go_returns
                      exact ⟨rfl, HBP.out ▸ (HB2.out.trans (HB11.out.mono HB2.out.size))⟩
                  | false =>
                    rw [htm] at d5
                    have HTE2 : Hid ((TT ++ (tObs ++ lvT p.levels X)) ++ [10] = printL p) := Lib.hid (by rw [HTP.out, HOBS.out, htm]; simp)
                    have hpl : (printL p).length ≤ 100000 := by rw [← HTE2.out]; simp only [List.length_append, List.length_cons, List.length_nil]; have := HTT.out; have := HZ1L.out; simp only [List.length_append] at *; omega
                    have HPL := Lib.hid hpl
                    clear hpl htm
                    have hk := H.out
                    unfold printC at hk
                    rw [if_neg (by rw [H1.out]; decide)] at hk
                    by_cases h8 : 8192 < (printL p).length
                    · rw [if_pos h8] at hk
                      injection hk with e1 e2
                      have hr : r = ⟨#[]⟩ := bytes_eq e1.symm
                      subst hr
                      subst e2
                      obtain ⟨N, hN⟩ : ∃ N, (printL p).length = N := ⟨_, rfl⟩
                      rw [hN] at h8
                      have h8i : (8192 : Int) < (N : Int) := by omega
                      have HN := Lib.hid hN
                      clear H h8 hN e1
                      go_wp2_with (first | (go_at_call 29; refine (wb_b w2 b _ _ _ HTE2 HS8.out HPL.out).mono ?_; rintro e w10 ⟨rfl, hs10⟩; have HS10 := Lib.hid hs10; clear hs10) | (go_at_call 30; refine (bl_b w2 b _ _ HS10.out).mono ?_; rintro e wy ⟨rfl, rfl⟩; rw [HN.out]) | fail)
                      go_returns
                      exact ⟨rfl, HBP.out ▸ (HB2.out.trans (HS10.out.bel.mono HB2.out.size))⟩
                    · rw [if_neg h8] at hk
                      injection hk with e1 e2
                      subst e2
                      have hr : (⟨(printL p).toArray⟩ : ByteArray) = r := bytes_eq e1
                      obtain ⟨N, hN⟩ : ∃ N, (printL p).length = N := ⟨_, rfl⟩
                      rw [hN] at h8
                      have h8i : ¬ (8192 : Int) < (N : Int) := by omega
                      have HN := Lib.hid hN
                      have HRR := Lib.hid hr
                      clear H h8 hN e1 hr
                      go_wp2_with (first | (go_at_call 29; refine (wb_b w2 b _ _ _ HTE2 HS8.out HPL.out).mono ?_; rintro e w10 ⟨rfl, hs10⟩; have HS10 := Lib.hid hs10; clear hs10) | (go_at_call 30; refine (bl_b w2 b _ _ HS10.out).mono ?_; rintro e wy ⟨rfl, rfl⟩; rw [HN.out]) | (go_at_call 31; refine (bs_b w2 b _ _ HS10.out).mono ?_; rintro e w11 ⟨rfl, hb11⟩; rw [HRR.out]; have HB11 := Lib.hid hb11; clear hb11) | fail)
                      go_returns
                      exact ⟨rfl, HBP.out ▸ (HB2.out.trans (HB11.out.mono HB2.out.size))⟩
  · go_upto_region 2 with (first | (go_at_call 10; refine (check_b p An ln cn Ao lo co Ai li ci Ah lh ch r1 H1 _ (HP.out.below HB1.out)).mono ?_; rintro e w2 ⟨rfl, hb2⟩) | fail)
    have HB2 : Hid (Below w.heap.size w w2) := Lib.hid (HB1.out.trans (hb2.mono HB1.out.size))
    have HC2 := Lib.hid (HC1.out.next hb2)
    clear hb2 c0 c1 c2 c3 c4 c5
    have hpc : printC p = ([], 1) := by unfold printC; rw [if_pos (by rw [H1.out]; exact h1)]
    have hk := H.out
    rw [hpc] at hk
    injection hk with e1 e2
    have hr : r = ⟨#[]⟩ := bytes_eq e1.symm
    subst hr
    subst e2
    clear H
    go_wp2_with fail
    go_returns
    exact ⟨rfl, HBP.out ▸ HB2.out⟩
end Go.Proofs.YtnipigninbeplaaDoor
