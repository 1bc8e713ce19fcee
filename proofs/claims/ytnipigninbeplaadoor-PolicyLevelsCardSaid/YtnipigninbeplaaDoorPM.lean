/-
  The walks over ordered, Below and Join of policies.
  The walks over Join of policies and over the reference's Lattice, Bottom, Le and Join.
-/
import Derived.Test.YtnipigninbeplaaDoorQoX
import Derived.Test.YtnipigninbeplaaDoorPK
import Derived.Deep.RegionHeld3
namespace Go.Proofs.YtnipigninbeplaaDoor
open Go.RowKit

theorem polC_new {p : Py} (h : polC p = 0) : newC p.levels p.order = 0 := (polC_ok h).new
/-- The order of a policy's levels. -/
def lvM (p : Py) : Mx := lePo p.levels p.order
theorem new_no_knot {xs : List ByteArray} {o : List (Int × Int)} (h : newC xs o = 0) : ¬ knotM xs.length (lePo xs o) ∧ boundsM xs.length (lePo xs o) := by
  unfold newC at h
  split at h
  · cases h
  · split at h
    · rename_i h2; exact absurd h h2
    · split at h
      · cases h
      · split at h
        · cases h
        · rename_i h4
          split at h
          · rename_i h5; exact ⟨h4, h5⟩
          · cases h
/-- What is known of the order of a policy of code 0. -/
structure Lw (p : Py) : Prop where
  n0 : 0 < p.levels.length
  n12 : p.levels.length ≤ 12
  up : Ord p.levels.length (upM (lvM p))
  dn : Ord p.levels.length (dnM (lvM p))
  bu : ∀ a b, a < p.levels.length → b < p.levels.length → (bdM p.levels.length (upM (lvM p)) a b).isSome = true
  bd : ∀ a b, a < p.levels.length → b < p.levels.length → (bdM p.levels.length (dnM (lvM p)) a b).isSome = true
theorem polC_lw {p : Py} (h : polC p = 0) : Lw p := by
  have hv := polC_ok h
  obtain ⟨h1, h2⟩ := new_no_knot hv.new
  have ho : Ord p.levels.length (upM (lvM p)) := le_ord (fun q hq => by
    obtain ⟨x, hx, rfl⟩ := List.mem_map.1 hq
    have h3 := hv.od x hx
    unfold inPb at h3
    simp only [Bool.and_eq_true, decide_eq_true_eq] at h3
    unfold natP
    simp only
    omega) h1
  exact ⟨by have := hv.n1; omega, hv.n12, ho, ho.flip, fun a b ha hb => (h2 a b ha hb).1, fun a b ha hb => (h2 a b ha hb).2⟩
set_option maxRecDepth 100000 in
set_option maxHeartbeats 2000000 in
theorem ordered_no (p : Py) (An : Option Addr) (ln cn : Nat) (Ao : Option Addr) (lo co : Nat) (Ai : Option Addr) (li ci : Nat) (Ah : Option Addr) (lh ch : Nat) (hq : polC p ≠ 0) (w : World) (hp : PyOk w An ln cn Ao lo co Ai li ci Ah lh ch p) :
    Calls Tryd.prog 38 #[.agg (pyV An ln cn Ao lo co Ai li ci Ah lh ch p.obs p.timed)] w fun e w' => e = .returned (.pointer none) ∧ Below w.heap.size w w' := by
  have HP := Lib.hid hp
  have HC0 := Lib.hid (Cs.new w (pyV An ln cn Ao lo co Ai li ci Ah lh ch p.obs p.timed) 26)
  have HB0 := Lib.hid ((Below.refl w.heap.size w).alloc (Nat.le_refl _) (.cells (pyV An ln cn Ao lo co Ai li ci Ah lh ch p.obs p.timed) 26))
  unfold pyV at HC0 HB0 ⊢
  obtain ⟨r, hr⟩ : ∃ r, polC p = r := ⟨_, rfl⟩
  have HR := Lib.hid hr
  have hr0 : ¬ r = 0 := by rw [← hr]; exact hq
  clear hp hr hq
  go_enter Tryd.func38, Tryd.ntmps38
  go_upto_region 1 with fail
  obtain ⟨w1, hw1⟩ : ∃ z, w.alloc (.cells #[.slice An ln cn, .slice Ao lo co, .slice Ai li ci, .slice Ah lh ch, .int .i64 p.obs, .bool p.timed] 26) = z := ⟨_, rfl⟩
  obtain ⟨bp, hbp⟩ : ∃ z, w.heap.size = z := ⟨_, rfl⟩
  have HB1 : Hid (Below w.heap.size w w1) := hw1 ▸ HB0
  have HC1 : Hid (Cs w1 bp [.slice An ln cn, .slice Ao lo co, .slice Ai li ci, .slice Ah lh ch, .int .i64 p.obs, .bool p.timed]) := hw1 ▸ hbp ▸ HC0
  rw [hw1, hbp]
  clear hw1 HB0 HC0 hbp
  obtain ⟨c0, c1, c2, c3, c4, c5⟩ := HC1.out.six
  go_wp2_with (first | (go_at_call 10; refine (check_b p An ln cn Ao lo co Ai li ci Ah lh ch r HR _ (HP.out.below HB1.out)).mono ?_; rintro e w2 ⟨rfl, hb2⟩; have HB2 := Lib.hid (HB1.out.trans (hb2.mono HB1.out.size)); clear hb2) | fail)
  go_ret
  exact ⟨rfl, HB2.out⟩
def OrdY (w : World) (p : Py) (e : Ending) (w' : World) : Prop := ∃ b0, e = .returned (.pointer (some ⟨b0, 0, none⟩)) ∧ Lat w' b0 p.levels.length (lvM p) ∧ Below w.heap.size w w'
set_option maxRecDepth 100000 in
set_option maxHeartbeats 2000000 in
theorem ordered_yes (p : Py) (An : Option Addr) (ln cn : Nat) (Ao : Option Addr) (lo co : Nat) (Ai : Option Addr) (li ci : Nat) (Ah : Option Addr) (lh ch : Nat) (hq : polC p = 0) (w : World) (hp : PyOk w An ln cn Ao lo co Ai li ci Ah lh ch p) :
    Calls Tryd.prog 38 #[.agg (pyV An ln cn Ao lo co Ai li ci Ah lh ch p.obs p.timed)] w fun e w' => OrdY w p e w' := by
  have HP := Lib.hid hp
  have HC0 := Lib.hid (Cs.new w (pyV An ln cn Ao lo co Ai li ci Ah lh ch p.obs p.timed) 26)
  have HB0 := Lib.hid ((Below.refl w.heap.size w).alloc (Nat.le_refl _) (.cells (pyV An ln cn Ao lo co Ai li ci Ah lh ch p.obs p.timed) 26))
  unfold pyV at HC0 HB0 ⊢
  have HR := Lib.hid hq
  have HN := Lib.hid (polC_new hq)
  clear hp hq
  go_enter Tryd.func38, Tryd.ntmps38
  go_upto_region 1 with fail
  obtain ⟨w1, hw1⟩ : ∃ z, w.alloc (.cells #[.slice An ln cn, .slice Ao lo co, .slice Ai li ci, .slice Ah lh ch, .int .i64 p.obs, .bool p.timed] 26) = z := ⟨_, rfl⟩
  obtain ⟨bp, hbp⟩ : ∃ z, w.heap.size = z := ⟨_, rfl⟩
  have HB1 : Hid (Below w.heap.size w w1) := hw1 ▸ HB0
  have HC1 : Hid (Cs w1 bp [.slice An ln cn, .slice Ao lo co, .slice Ai li ci, .slice Ah lh ch, .int .i64 p.obs, .bool p.timed]) := hw1 ▸ hbp ▸ HC0
  rw [hw1, hbp]
  clear hw1 HB0 HC0 hbp
  obtain ⟨c0, c1, c2, c3, c4, c5⟩ := HC1.out.six
  go_wp2_with (first | (go_at_call 10; refine (check_b p An ln cn Ao lo co Ai li ci Ah lh ch 0 HR _ (HP.out.below HB1.out)).mono ?_; rintro e w2 ⟨rfl, hb2⟩; have HB2 := Lib.hid (HB1.out.trans (hb2.mono HB1.out.size)); have HC2 := Lib.hid (HC1.out.next hb2); clear hb2; clear c0 c1 c2 c3 c4 c5; obtain ⟨c0, c1, c2, c3, c4, c5⟩ := HC2.out.six) | (go_at_call 23; refine (new_b p.levels p.order An ln cn Ao lo co 0 HN _ (HP.out.below HB2.out).n (HP.out.below HB2.out).o).mono ?_; rintro e w3 ⟨pv, rfl, hb3, _, hy⟩; obtain ⟨b0, rfl, _, hlat⟩ := hy rfl; have HB3 := Lib.hid (HB2.out.trans (hb3.mono HB2.out.size)); have HLT := Lib.hid hlat; clear hb3 hlat) | fail)
  go_ret
  exact ⟨b0, rfl, HLT.out, HB3.out⟩
open Classical in
/-- What Below returns. -/
noncomputable def belowC (p : Py) (a b : Int) : Bool × Int := if polC p ≠ 0 then (false, 1) else if levB p.levels.length a && levB p.levels.length b then (mget (lvM p) a.toNat b.toNat, 0) else (false, 3)
theorem lev_is {n a : Int} (h : levB n a = true) : 0 ≤ a ∧ a < n := by
  unfold levB at h
  simpa using h
theorem lev_not {n a : Int} (h : levB n a = false) : a < 0 ∨ n ≤ a := by
  unfold levB at h
  rw [Bool.and_eq_false_iff, decide_eq_false_iff_not, decide_eq_false_iff_not] at h
  omega
set_option maxRecDepth 100000 in
set_option maxHeartbeats 4000000 in
theorem pbelow_b (p : Py) (An : Option Addr) (ln cn : Nat) (Ao : Option Addr) (lo co : Nat) (Ai : Option Addr) (li ci : Nat) (Ah : Option Addr) (lh ch : Nat) (a b : Int) (r : Bool × Int) (H : Hid (belowC p a b = r)) (w : World) (hp : PyOk w An ln cn Ao lo co Ai li ci Ah lh ch p) :
    Calls Tryd.prog 17 #[.agg (pyV An ln cn Ao lo co Ai li ci Ah lh ch p.obs p.timed), .int .i64 a, .int .i64 b] w fun e w' => e = .returned (.tuple #[.bool r.1, .int .i64 r.2]) ∧ Below w.heap.size w w' := by
  have HP := Lib.hid hp
  have HC0 := Lib.hid (Cs.new w (pyV An ln cn Ao lo co Ai li ci Ah lh ch p.obs p.timed) 26)
  have HB0 := Lib.hid ((Below.refl w.heap.size w).alloc (Nat.le_refl _) (.cells (pyV An ln cn Ao lo co Ai li ci Ah lh ch p.obs p.timed) 26))
  unfold pyV at HC0 HB0 ⊢
  by_cases hq : polC p = 0
  · have HQ := Lib.hid hq
    have HW := Lib.hid (polC_lw hq)
    have hln : p.levels.length = ln := hp.n.len
    have hl12 : ln ≤ 12 := by rw [← hln]; exact (polC_lw hq).n12
    by_cases hL : (levB p.levels.length a && levB p.levels.length b) = true
    · have hr : r = (mget (lvM p) a.toNat b.toNat, 0) := by rw [← H.out]; unfold belowC; rw [if_neg (by rw [hq]; decide), if_pos hL]
      rw [Bool.and_eq_true] at hL
      obtain ⟨a0, a1⟩ := lev_is hL.1
      obtain ⟨b0', b1⟩ := lev_is hL.2
      have HAN : Hid (a.toNat < p.levels.length ∧ b.toNat < p.levels.length) := Lib.hid (by omega)
      have HLN := Lib.hid hln
      rw [hln] at a1 b1
      obtain ⟨v, hv⟩ : ∃ v, mget (lvM p) a.toNat b.toNat = v := ⟨_, rfl⟩
      have HV := Lib.hid hv
      rw [hv] at hr
      subst hr
      obtain ⟨an, rfl⟩ : ∃ an : Nat, a = an := ⟨a.toNat, by omega⟩
      obtain ⟨bn, rfl⟩ : ∃ bn : Nat, b = bn := ⟨b.toNat, by omega⟩
      have hn0 : ¬ (an : Int) < 0 := by omega
      have hn1 : ¬ (bn : Int) < 0 := by omega
      have hn2 : ¬ (ln : Int) ≤ (an : Int) := by omega
      have hn3 : ¬ (ln : Int) ≤ (bn : Int) := by omega
      clear hp hq hL hv H hln
      by_cases hab : an < bn
      · have hab1 : ¬ bn < an := by omega
        have habi : (an : Int) < (bn : Int) := by omega
        have habj : ¬ (bn : Int) < (an : Int) := by omega
        go_enter Tryd.func17, Tryd.ntmps17
        go_upto_region 1 with fail
        obtain ⟨w1, hw1⟩ : ∃ z, w.alloc (.cells #[.slice An ln cn, .slice Ao lo co, .slice Ai li ci, .slice Ah lh ch, .int .i64 p.obs, .bool p.timed] 26) = z := ⟨_, rfl⟩
        obtain ⟨bp, hbp⟩ : ∃ z, w.heap.size = z := ⟨_, rfl⟩
        have HB1 : Hid (Below w.heap.size w w1) := hw1 ▸ HB0
        have HC1 : Hid (Cs w1 bp [.slice An ln cn, .slice Ao lo co, .slice Ai li ci, .slice Ah lh ch, .int .i64 p.obs, .bool p.timed]) := hw1 ▸ hbp ▸ HC0
        rw [hw1, hbp]
        clear hw1 HB0 HC0 hbp
        obtain ⟨c0, c1, c2, c3, c4, c5⟩ := HC1.out.six
        go_wp2_with (first | (go_at_call 38; refine (ordered_yes p An ln cn Ao lo co Ai li ci Ah lh ch HQ.out _ (HP.out.below HB1.out)).mono ?_; rintro e w2 ⟨b0, rfl, hl2, hb2⟩; have HB2 := Lib.hid (HB1.out.trans (hb2.mono HB1.out.size)); have HL2 := Lib.hid hl2; have HC2 := Lib.hid (HC1.out.next hb2); clear hb2 hl2; clear c0 c1 c2 c3 c4 c5; have c0 := HC2.out.at 0 _ rfl) | (go_at_call 39; refine (below_b b0 p.levels.length (lvM p) an bn (by have := HAN.out; omega) (by have := HAN.out; omega) HW.out.n12 v HV _ HL2.out).mono ?_; rintro e w3 ⟨rfl, rfl⟩) | fail)
        go_returns
        exact ⟨rfl, HB2.out⟩
      · have hab1 : ¬ an < bn := by omega
        have habi : ¬ (an : Int) < (bn : Int) := by omega
        go_enter Tryd.func17, Tryd.ntmps17
        go_upto_region 1 with fail
        obtain ⟨w1, hw1⟩ : ∃ z, w.alloc (.cells #[.slice An ln cn, .slice Ao lo co, .slice Ai li ci, .slice Ah lh ch, .int .i64 p.obs, .bool p.timed] 26) = z := ⟨_, rfl⟩
        obtain ⟨bp, hbp⟩ : ∃ z, w.heap.size = z := ⟨_, rfl⟩
        have HB1 : Hid (Below w.heap.size w w1) := hw1 ▸ HB0
        have HC1 : Hid (Cs w1 bp [.slice An ln cn, .slice Ao lo co, .slice Ai li ci, .slice Ah lh ch, .int .i64 p.obs, .bool p.timed]) := hw1 ▸ hbp ▸ HC0
        rw [hw1, hbp]
        clear hw1 HB0 HC0 hbp
        obtain ⟨c0, c1, c2, c3, c4, c5⟩ := HC1.out.six
        go_wp2_with (first | (go_at_call 38; refine (ordered_yes p An ln cn Ao lo co Ai li ci Ah lh ch HQ.out _ (HP.out.below HB1.out)).mono ?_; rintro e w2 ⟨b0, rfl, hl2, hb2⟩; have HB2 := Lib.hid (HB1.out.trans (hb2.mono HB1.out.size)); have HL2 := Lib.hid hl2; have HC2 := Lib.hid (HC1.out.next hb2); clear hb2 hl2; clear c0 c1 c2 c3 c4 c5; have c0 := HC2.out.at 0 _ rfl) | (go_at_call 39; refine (below_b b0 p.levels.length (lvM p) an bn (by have := HAN.out; omega) (by have := HAN.out; omega) HW.out.n12 v HV _ HL2.out).mono ?_; rintro e w3 ⟨rfl, rfl⟩) | fail)
        go_returns
        exact ⟨rfl, HB2.out⟩
    · have hr : r = (false, 3) := by rw [← H.out]; unfold belowC; rw [if_neg (by rw [hq]; decide), if_neg hL]
      have HOUT : Hid ((a < 0 ∨ (ln : Int) ≤ a) ∨ (b < 0 ∨ (ln : Int) ≤ b)) := Lib.hid (by
        rw [Bool.and_eq_true, Decidable.not_and_iff_not_or_not, Bool.not_eq_true, Bool.not_eq_true, hln] at hL
        rcases hL with h | h
        · exact .inl (lev_not h)
        · exact .inr (lev_not h))
      subst hr
      clear hp hq hL H hln
      by_cases hab : a < b
      · have hab1 : ¬ b < a := by omega
        by_cases h0 : a < 0
        · go_enter Tryd.func17, Tryd.ntmps17
          go_upto_region 1 with fail
          obtain ⟨w1, hw1⟩ : ∃ z, w.alloc (.cells #[.slice An ln cn, .slice Ao lo co, .slice Ai li ci, .slice Ah lh ch, .int .i64 p.obs, .bool p.timed] 26) = z := ⟨_, rfl⟩
          obtain ⟨bp, hbp⟩ : ∃ z, w.heap.size = z := ⟨_, rfl⟩
          have HB1 : Hid (Below w.heap.size w w1) := hw1 ▸ HB0
          have HC1 : Hid (Cs w1 bp [.slice An ln cn, .slice Ao lo co, .slice Ai li ci, .slice Ah lh ch, .int .i64 p.obs, .bool p.timed]) := hw1 ▸ hbp ▸ HC0
          rw [hw1, hbp]
          clear hw1 HB0 HC0 hbp
          obtain ⟨c0, c1, c2, c3, c4, c5⟩ := HC1.out.six
          go_wp2_with (first | (go_at_call 38; refine (ordered_yes p An ln cn Ao lo co Ai li ci Ah lh ch HQ.out _ (HP.out.below HB1.out)).mono ?_; rintro e w2 ⟨b0, rfl, hl2, hb2⟩; have HB2 := Lib.hid (HB1.out.trans (hb2.mono HB1.out.size)); have HL2 := Lib.hid hl2; have HC2 := Lib.hid (HC1.out.next hb2); clear hb2 hl2; clear c0 c1 c2 c3 c4 c5; have c0 := HC2.out.at 0 _ rfl) | fail)
          go_returns
          exact ⟨rfl, HB2.out⟩
        · have h1 : (ln : Int) ≤ b := by have := HOUT.out; omega
          go_enter Tryd.func17, Tryd.ntmps17
          go_upto_region 1 with fail
          obtain ⟨w1, hw1⟩ : ∃ z, w.alloc (.cells #[.slice An ln cn, .slice Ao lo co, .slice Ai li ci, .slice Ah lh ch, .int .i64 p.obs, .bool p.timed] 26) = z := ⟨_, rfl⟩
          obtain ⟨bp, hbp⟩ : ∃ z, w.heap.size = z := ⟨_, rfl⟩
          have HB1 : Hid (Below w.heap.size w w1) := hw1 ▸ HB0
          have HC1 : Hid (Cs w1 bp [.slice An ln cn, .slice Ao lo co, .slice Ai li ci, .slice Ah lh ch, .int .i64 p.obs, .bool p.timed]) := hw1 ▸ hbp ▸ HC0
          rw [hw1, hbp]
          clear hw1 HB0 HC0 hbp
          obtain ⟨c0, c1, c2, c3, c4, c5⟩ := HC1.out.six
          go_wp2_with (first | (go_at_call 38; refine (ordered_yes p An ln cn Ao lo co Ai li ci Ah lh ch HQ.out _ (HP.out.below HB1.out)).mono ?_; rintro e w2 ⟨b0, rfl, hl2, hb2⟩; have HB2 := Lib.hid (HB1.out.trans (hb2.mono HB1.out.size)); have HL2 := Lib.hid hl2; have HC2 := Lib.hid (HC1.out.next hb2); clear hb2 hl2; clear c0 c1 c2 c3 c4 c5; have c0 := HC2.out.at 0 _ rfl) | fail)
          go_returns
          exact ⟨rfl, HB2.out⟩
      · by_cases h0 : b < 0
        · go_enter Tryd.func17, Tryd.ntmps17
          go_upto_region 1 with fail
          obtain ⟨w1, hw1⟩ : ∃ z, w.alloc (.cells #[.slice An ln cn, .slice Ao lo co, .slice Ai li ci, .slice Ah lh ch, .int .i64 p.obs, .bool p.timed] 26) = z := ⟨_, rfl⟩
          obtain ⟨bp, hbp⟩ : ∃ z, w.heap.size = z := ⟨_, rfl⟩
          have HB1 : Hid (Below w.heap.size w w1) := hw1 ▸ HB0
          have HC1 : Hid (Cs w1 bp [.slice An ln cn, .slice Ao lo co, .slice Ai li ci, .slice Ah lh ch, .int .i64 p.obs, .bool p.timed]) := hw1 ▸ hbp ▸ HC0
          rw [hw1, hbp]
          clear hw1 HB0 HC0 hbp
          obtain ⟨c0, c1, c2, c3, c4, c5⟩ := HC1.out.six
          go_wp2_with (first | (go_at_call 38; refine (ordered_yes p An ln cn Ao lo co Ai li ci Ah lh ch HQ.out _ (HP.out.below HB1.out)).mono ?_; rintro e w2 ⟨b0, rfl, hl2, hb2⟩; have HB2 := Lib.hid (HB1.out.trans (hb2.mono HB1.out.size)); have HL2 := Lib.hid hl2; have HC2 := Lib.hid (HC1.out.next hb2); clear hb2 hl2; clear c0 c1 c2 c3 c4 c5; have c0 := HC2.out.at 0 _ rfl) | fail)
          go_returns
          exact ⟨rfl, HB2.out⟩
        · have h1 : (ln : Int) ≤ a := by have := HOUT.out; omega
          go_enter Tryd.func17, Tryd.ntmps17
          go_upto_region 1 with fail
          obtain ⟨w1, hw1⟩ : ∃ z, w.alloc (.cells #[.slice An ln cn, .slice Ao lo co, .slice Ai li ci, .slice Ah lh ch, .int .i64 p.obs, .bool p.timed] 26) = z := ⟨_, rfl⟩
          obtain ⟨bp, hbp⟩ : ∃ z, w.heap.size = z := ⟨_, rfl⟩
          have HB1 : Hid (Below w.heap.size w w1) := hw1 ▸ HB0
          have HC1 : Hid (Cs w1 bp [.slice An ln cn, .slice Ao lo co, .slice Ai li ci, .slice Ah lh ch, .int .i64 p.obs, .bool p.timed]) := hw1 ▸ hbp ▸ HC0
          rw [hw1, hbp]
          clear hw1 HB0 HC0 hbp
          obtain ⟨c0, c1, c2, c3, c4, c5⟩ := HC1.out.six
          go_wp2_with (first | (go_at_call 38; refine (ordered_yes p An ln cn Ao lo co Ai li ci Ah lh ch HQ.out _ (HP.out.below HB1.out)).mono ?_; rintro e w2 ⟨b0, rfl, hl2, hb2⟩; have HB2 := Lib.hid (HB1.out.trans (hb2.mono HB1.out.size)); have HL2 := Lib.hid hl2; have HC2 := Lib.hid (HC1.out.next hb2); clear hb2 hl2; clear c0 c1 c2 c3 c4 c5; have c0 := HC2.out.at 0 _ rfl) | fail)
          go_returns
          exact ⟨rfl, HB2.out⟩
  · have HQ := Lib.hid hq
    have hr : r = (false, 1) := by rw [← H.out]; unfold belowC; rw [if_pos hq]
    subst hr
    clear hp hq H
    go_enter Tryd.func17, Tryd.ntmps17
    go_upto_region 1 with fail
    obtain ⟨w1, hw1⟩ : ∃ z, w.alloc (.cells #[.slice An ln cn, .slice Ao lo co, .slice Ai li ci, .slice Ah lh ch, .int .i64 p.obs, .bool p.timed] 26) = z := ⟨_, rfl⟩
    obtain ⟨bp, hbp⟩ : ∃ z, w.heap.size = z := ⟨_, rfl⟩
    have HB1 : Hid (Below w.heap.size w w1) := hw1 ▸ HB0
    have HC1 : Hid (Cs w1 bp [.slice An ln cn, .slice Ao lo co, .slice Ai li ci, .slice Ah lh ch, .int .i64 p.obs, .bool p.timed]) := hw1 ▸ hbp ▸ HC0
    rw [hw1, hbp]
    clear hw1 HB0 HC0 hbp
    obtain ⟨c0, c1, c2, c3, c4, c5⟩ := HC1.out.six
    go_wp2_with (first | (go_at_call 38; refine (ordered_no p An ln cn Ao lo co Ai li ci Ah lh ch HQ.out _ (HP.out.below HB1.out)).mono ?_; rintro e w2 ⟨rfl, hb2⟩; have HB2 := Lib.hid (HB1.out.trans (hb2.mono HB1.out.size)); clear hb2) | fail)
    go_returns
    exact ⟨rfl, HB2.out⟩

/-- What Join returns. -/
noncomputable def joinC (p : Py) (zs : List Int) : Nat × Int := if polC p ≠ 0 then (0, 1) else if zs.all (levB p.levels.length) = true then (jaK p.levels.length (lvM p) (bndK p.levels.length (dnM (lvM p)) p.levels.length) zs, 0) else (0, 3)
theorem allLv_of {n : Nat} {zs : List Int} (h : zs.all (levB n) = true) : AllLv n zs := fun z hz => lev_is (List.all_eq_true.1 h z hz)
set_option maxRecDepth 100000 in
set_option maxHeartbeats 4000000 in
theorem pjoin_b (p : Py) (An : Option Addr) (ln cn : Nat) (Ao : Option Addr) (lo co : Nat) (Ai : Option Addr) (li ci : Nat) (Ah : Option Addr) (lh ch : Nat) (A : Option Addr) (l c : Nat) (zs : List Int) (r : Nat × Int) (H : Hid (joinC p zs = r)) (w : World) (hp : PyOk w An ln cn Ao lo co Ai li ci Ah lh ch p) (hz : Zs w A l c zs) :
    Calls Tryd.prog 18 #[.agg (pyV An ln cn Ao lo co Ai li ci Ah lh ch p.obs p.timed), .slice A l c] w fun e w' => e = .returned (.tuple #[.int .i64 r.1, .int .i64 r.2]) ∧ Below w.heap.size w w' := by
  have HP := Lib.hid hp
  have HZ := Lib.hid hz
  have HZL := Lib.hid hz.len
  have hlc : l ≤ 9223372036854775807 := by have := hz.cap; have := hz.big; unfold maxLen at this; omega
  have HC0 := Lib.hid (Cs.new w (pyV An ln cn Ao lo co Ai li ci Ah lh ch p.obs p.timed) 26)
  have HB0 := Lib.hid ((Below.refl w.heap.size w).alloc (Nat.le_refl _) (.cells (pyV An ln cn Ao lo co Ai li ci Ah lh ch p.obs p.timed) 26))
  unfold pyV at HC0 HB0 ⊢
  by_cases hq : polC p = 0
  · have HQ := Lib.hid hq
    have HW := Lib.hid (polC_lw hq)
    have HLN := Lib.hid hp.n.len
    have hl12 : ln ≤ 12 := by rw [← HLN.out]; exact (polC_lw hq).n12
    clear hp hq hz
    go_enter Tryd.func18, Tryd.ntmps18
    go_upto_region 1 with fail
    obtain ⟨w1, hw1⟩ : ∃ z, w.alloc (.cells #[.slice An ln cn, .slice Ao lo co, .slice Ai li ci, .slice Ah lh ch, .int .i64 p.obs, .bool p.timed] 26) = z := ⟨_, rfl⟩
    obtain ⟨bp, hbp⟩ : ∃ z, w.heap.size = z := ⟨_, rfl⟩
    have HB1 : Hid (Below w.heap.size w w1) := hw1 ▸ HB0
    have HC1 : Hid (Cs w1 bp [.slice An ln cn, .slice Ao lo co, .slice Ai li ci, .slice Ah lh ch, .int .i64 p.obs, .bool p.timed]) := hw1 ▸ hbp ▸ HC0
    rw [hw1, hbp]
    clear hw1 HB0 HC0 hbp
    obtain ⟨c0, c1, c2, c3, c4, c5⟩ := HC1.out.six
    go_wp2_with (first | (go_at_call 38; refine (ordered_yes p An ln cn Ao lo co Ai li ci Ah lh ch HQ.out _ (HP.out.below HB1.out)).mono ?_; rintro e w2 ⟨b0, rfl, hl2, hb2⟩; have HB2 := Lib.hid (HB1.out.trans (hb2.mono HB1.out.size)); have HL2 := Lib.hid hl2; have HC2 := Lib.hid (HC1.out.next hb2); clear hb2 hl2; clear c0 c1 c2 c3 c4 c5; have c0 := HC2.out.at 0 _ rfl) | fail)
    go_loop [17] (fun v => ∃ k : Nat, k ≤ l ∧ v = .int .i64 k ∧ Hid ((zs.take k).all (levB p.levels.length) = true)) (fun v => l - (intOf v).toNat)
    case atStart => exact ⟨0, Nat.zero_le _, rfl, Lib.hid rfl⟩
    case round =>
      obtain ⟨k, hk, rfl, HK⟩ := hrel
      have hk0 : (0 : Int) ≤ (k : Int) := by omega
      by_cases hkn : k < l
      · have hki : (k : Int) < (l : Int) := by omega
        obtain ⟨g, f, hA, hg, hc⟩ := (HZ.out.below HB2.out).mem (by omega)
        have k0 := hc k hkn
        subst hA
        have hkz : k < zs.length := by rw [HZL.out]; exact hkn
        have HGD : Hid (zs[k]? = some (zs.getD k 0)) := Lib.hid (by rw [List.getD_eq_getElem?_getD, List.getElem?_eq_getElem hkz]; rfl)
        obtain ⟨z, hzz⟩ : ∃ z, zs.getD k 0 = z := ⟨_, rfl⟩
        rw [hzz] at k0 HGD
        clear hzz hc
        by_cases hL : levB p.levels.length z = true
        · obtain ⟨z0, z1⟩ := lev_is hL
          rw [HLN.out] at z1
          have HN : Hid ((zs.take (k + 1)).all (levB p.levels.length) = true) := Lib.hid (by rw [List.take_add_one, HGD.out, Option.toList_some, List.all_append, HK.out]; simp [hL])
          have z0' : ¬ z < 0 := by omega
          have z1' : ¬ (ln : Int) ≤ z := by omega
          clear hL
          go_wp2_with fail
          go_round
          case rel => exact ⟨k + 1, by omega, by go_num, HN⟩
          case measure => simp [intOf]; omega
        · have hr : r = (0, 3) := by
            rw [← H.out]
            unfold joinC
            rw [if_neg (by rw [HQ.out]; decide), if_neg (fun h => hL (List.all_eq_true.1 h z (List.mem_of_getElem? HGD.out)))]
          have HRR := Lib.hid hr
          have hz2 := lev_not (by simpa using hL)
          rw [HLN.out] at hz2
          have HZ2 := Lib.hid hz2
          clear hL hr hz2 H
          by_cases h0 : z < 0
          · go_wp2_with fail
            go_returns
            rw [HRR.out]
            exact ⟨rfl, HB2.out⟩
          · have h1 : (ln : Int) ≤ z := by have := HZ2.out; omega
            go_wp2_with fail
            go_returns
            rw [HRR.out]
            exact ⟨rfl, HB2.out⟩
      · have hki : ¬ ((k : Int) < (l : Int)) := by omega
        obtain rfl : l = k := by omega
        have HAL : Hid (zs.all (levB p.levels.length) = true) := Lib.hid (by have h := HK.out; rw [List.take_of_length_le (by rw [HZL.out]; exact Nat.le_refl _)] at h; exact h)
        obtain ⟨s, hs⟩ : ∃ s, bndK p.levels.length (dnM (lvM p)) p.levels.length = s := ⟨_, rfl⟩
        have HS := Lib.hid hs
        obtain ⟨t, ht⟩ : ∃ t, jaK p.levels.length (lvM p) s zs = t := ⟨_, rfl⟩
        have HT := Lib.hid ht
        have hr : r = (t, 0) := by
          rw [← H.out]
          unfold joinC
          rw [if_neg (by rw [HQ.out]; decide), if_pos HAL.out, hs, ht]
        have HRR := Lib.hid hr
        clear hr hs ht H
        go_wp2_with (first | (go_at_call 40; refine (joinAll_b b0 p.levels.length (lvM p) HW.out.n0 HW.out.n12 HW.out.dn HW.out.bd HW.out.bu s HS A l c zs (allLv_of HAL.out) t HT _ (HZ.out.below HB2.out) HL2.out).mono ?_; rintro e w3 ⟨rfl, rfl⟩) | fail)
        go_returns
        rw [HRR.out]
        exact ⟨rfl, HB2.out⟩
  · have HQ := Lib.hid hq
    have hr : r = (0, 1) := by rw [← H.out]; unfold joinC; rw [if_pos hq]
    subst hr
    clear hp hq H hz
    go_enter Tryd.func18, Tryd.ntmps18
    go_upto_region 1 with fail
    obtain ⟨w1, hw1⟩ : ∃ z, w.alloc (.cells #[.slice An ln cn, .slice Ao lo co, .slice Ai li ci, .slice Ah lh ch, .int .i64 p.obs, .bool p.timed] 26) = z := ⟨_, rfl⟩
    obtain ⟨bp, hbp⟩ : ∃ z, w.heap.size = z := ⟨_, rfl⟩
    have HB1 : Hid (Below w.heap.size w w1) := hw1 ▸ HB0
    have HC1 : Hid (Cs w1 bp [.slice An ln cn, .slice Ao lo co, .slice Ai li ci, .slice Ah lh ch, .int .i64 p.obs, .bool p.timed]) := hw1 ▸ hbp ▸ HC0
    rw [hw1, hbp]
    clear hw1 HB0 HC0 hbp
    obtain ⟨c0, c1, c2, c3, c4, c5⟩ := HC1.out.six
    go_wp2_with (first | (go_at_call 38; refine (ordered_no p An ln cn Ao lo co Ai li ci Ah lh ch HQ.out _ (HP.out.below HB1.out)).mono ?_; rintro e w2 ⟨rfl, hb2⟩; have HB2 := Lib.hid (HB1.out.trans (hb2.mono HB1.out.size)); clear hb2) | fail)
    go_returns
    exact ⟨rfl, HB2.out⟩
theorem fld_two (x y : Value) (wx : World) : (Instr.field 58 (.agg #[x, y]) 1).run Tryd.prog wx = .ok y wx := by kernel_rfl
/-- What the reference's Lattice hands back of a policy of code 0. -/
def RLat (w : World) (p : Py) (e : Ending) (w' : World) : Prop := ∃ (A1 : Option Addr) (c1 q c2 : Nat) (rb : Nat → Nat), e = .returned (.agg #[.slice A1 p.levels.length c1, .slice (some ⟨q, 0, none⟩) p.levels.length c2]) ∧ Mem w' q p.levels.length p.levels.length rb (lvM p) ∧ Below w.heap.size w w'
set_option maxRecDepth 100000 in
set_option maxHeartbeats 4000000 in
theorem rlattice_b (p : Py) (An : Option Addr) (ln cn : Nat) (Ao : Option Addr) (lo co : Nat) (Ai : Option Addr) (li ci : Nat) (Ah : Option Addr) (lh ch : Nat) (hq : polC p = 0) (w : World) (hp : PyOk w An ln cn Ao lo co Ai li ci Ah lh ch p) :
    Calls Tryd.prog 41 #[.agg (pyV An ln cn Ao lo co Ai li ci Ah lh ch p.obs p.timed)] w fun e w' => RLat w p e w' := by
  have HP := Lib.hid hp
  have HC0 := Lib.hid (Cs.new w (pyV An ln cn Ao lo co Ai li ci Ah lh ch p.obs p.timed) 26)
  have HB0 := Lib.hid ((Below.refl w.heap.size w).alloc (Nat.le_refl _) (.cells (pyV An ln cn Ao lo co Ai li ci Ah lh ch p.obs p.timed) 26))
  unfold pyV at HC0 HB0 ⊢
  have HN := Lib.hid (polC_new hq)
  have HW := Lib.hid (polC_lw hq)
  clear hp hq
  go_enter Tryd.func41, Tryd.ntmps41
  go_upto_region 1 with fail
  have HD0 := Lib.hid (Cs.new (w.alloc (.cells #[.slice An ln cn, .slice Ao lo co, .slice Ai li ci, .slice Ah lh ch, .int .i64 p.obs, .bool p.timed] 26)) #[.slice none 0 0, .slice none 0 0] 58)
  have HB1 := Lib.hid (HB0.out.alloc HB0.out.size (.cells #[.slice none 0 0, .slice none 0 0] 58))
  have HC1 := Lib.hid (HC0.out.alloc (.cells #[.slice none 0 0, .slice none 0 0] 58))
  have HPQ : Hid (w.heap.size < (w.alloc (.cells #[.slice An ln cn, .slice Ao lo co, .slice Ai li ci, .slice Ah lh ch, .int .i64 p.obs, .bool p.timed] 26)).heap.size) := Lib.hid (by simp)
  have HSZ : Hid ((w.alloc (.cells #[.slice An ln cn, .slice Ao lo co, .slice Ai li ci, .slice Ah lh ch, .int .i64 p.obs, .bool p.timed] 26)).heap.size = w.heap.size + 1) := Lib.hid (by simp)
  rw [HSZ.out] at HD0
  obtain ⟨w2, hw2⟩ : ∃ z, (w.alloc (.cells #[.slice An ln cn, .slice Ao lo co, .slice Ai li ci, .slice Ah lh ch, .int .i64 p.obs, .bool p.timed] 26)).alloc (.cells #[.slice none 0 0, .slice none 0 0] 58) = z := ⟨_, rfl⟩
  have HB2 : Hid (Below w.heap.size w w2) := hw2 ▸ HB1
  have HC2 : Hid (Cs w2 w.heap.size [.slice An ln cn, .slice Ao lo co, .slice Ai li ci, .slice Ah lh ch, .int .i64 p.obs, .bool p.timed]) := hw2 ▸ HC1
  have HD2 : Hid (Cs w2 (w.heap.size + 1) [.slice none 0 0, .slice none 0 0]) := hw2 ▸ HD0
  rw [hw2]
  obtain ⟨bp, hbp⟩ : ∃ z, w.heap.size = z := ⟨_, rfl⟩
  obtain ⟨bq, hbq⟩ : ∃ z, bp + 1 = z := ⟨_, rfl⟩
  rw [hbp] at HC2 HD2
  rw [hbq] at HD2
  rw [hbp, hbq]
  have HBQ : Hid (w.heap.size ≤ bq) := Lib.hid (by omega)
  clear hw2 HB0 HC0 HB1 HC1 HD0 HPQ HSZ hbp hbq
  have c0 := HC2.out.at 0 _ rfl
  have c1 := HC2.out.at 1 _ rfl
  go_upto_region 2 with (first | (go_at_call 25; refine (rnew_b p.levels p.order An ln cn Ao lo co 0 HN _ (HP.out.below HB2.out).n (HP.out.below HB2.out).o).mono ?_; rintro e w3 ⟨B1, l1, k1, B2, l2, k2, rfl, hb3, hy⟩; obtain ⟨rfl, rfl, q, rb, rfl, hmem⟩ := hy rfl; clear hy; have HD3 := Lib.hid (HD2.out.next hb3); have HB3 := Lib.hid (HB2.out.trans (hb3.mono HB2.out.size)); have HM3 := Lib.hid hmem; have HC3 := Lib.hid (HC2.out.next hb3); clear hb3 hmem) | fail)
  have HD4 := Lib.hid (HD3.out.alloc (.cells #[.slice B1 p.levels.length k1, .slice (some ⟨q, 0, none⟩) p.levels.length k2] 58))
  have HM4 := Lib.hid (HM3.out.alloc (.cells #[.slice B1 p.levels.length k1, .slice (some ⟨q, 0, none⟩) p.levels.length k2] 58))
  have HB4 := Lib.hid (HB3.out.alloc HB3.out.size (.cells #[.slice B1 p.levels.length k1, .slice (some ⟨q, 0, none⟩) p.levels.length k2] 58))
  have HE4 := Lib.hid (Cs.new w3 #[.slice B1 p.levels.length k1, .slice (some ⟨q, 0, none⟩) p.levels.length k2] 58)
  obtain ⟨w4, hw4⟩ : ∃ z, w3.alloc (.cells #[.slice B1 p.levels.length k1, .slice (some ⟨q, 0, none⟩) p.levels.length k2] 58) = z := ⟨_, rfl⟩
  obtain ⟨b4, hb4⟩ : ∃ z, w3.heap.size = z := ⟨_, rfl⟩
  rw [hw4] at HD4 HM4 HB4 HE4
  rw [hb4] at HE4
  rw [hw4, hb4]
  clear hw4 hb4 HC3 HD3 HM3 HB3 HC2 HD2 HB2 c0 c1
  have HAP : Hid (bq ≠ q ∧ ∀ i, i < p.levels.length → bq ≠ rb i) := Lib.hid (by
    have h0 := HD4.out.at 0 _ rfl
    refine ⟨fun e => ?_, fun i hi e => ?_⟩
    · have h1 := HM4.out.rowAt 0 HW.out.n0
      rw [← e, h0] at h1
      cases h1
    · have h1 := HM4.out.at i 0 hi HW.out.n0
      rw [← e, h0] at h1
      cases h1)
  have c0 := HE4.out.at 0 _ rfl
  have c1 := HE4.out.at 1 _ rfl
  have d0 := HD4.out.at 0 _ rfl
  have d1 := HD4.out.at 1 _ rfl
  have f0 := HD4.out.free 0
  have f1 := HD4.out.free 1
  have hbl := HD4.out.lt
  go_wp2_with fail
  obtain ⟨k0, k1'⟩ := two_cells HD4.out (.slice B1 p.levels.length k1) (.slice (some ⟨q, 0, none⟩) p.levels.length k2)
  refine bodyPost_ret (v := .agg #[.slice B1 p.levels.length k1, .slice (some ⟨q, 0, none⟩) p.levels.length k2]) (by simp [results, Tryd.results41, go_sem, k0, k1']) rfl ?_
  exact ⟨B1, k1, q, k2, rb, rfl, (HM4.out.other (p := ⟨bq, 0, none⟩) HAP.out.1 HAP.out.2 _).other (p := ⟨bq, 1, none⟩) HAP.out.1 HAP.out.2 _, (HB4.out.setCell HBQ.out _).setCell HBQ.out _⟩
set_option maxRecDepth 100000 in
set_option maxHeartbeats 4000000 in
theorem rle_b (p : Py) (An : Option Addr) (ln cn : Nat) (Ao : Option Addr) (lo co : Nat) (Ai : Option Addr) (li ci : Nat) (Ah : Option Addr) (lh ch : Nat) (hq : polC p = 0) (a b : Nat) (ha : a < p.levels.length) (hb : b < p.levels.length) (r : Bool) (H : Hid (mget (lvM p) a b = r)) (w : World) (hp : PyOk w An ln cn Ao lo co Ai li ci Ah lh ch p) :
    Calls Tryd.prog 20 #[.agg (pyV An ln cn Ao lo co Ai li ci Ah lh ch p.obs p.timed), .int .i64 a, .int .i64 b] w fun e w' => e = .returned (.bool r) ∧ Below w.heap.size w w' := by
  have HP := Lib.hid hp
  have HC0 := Lib.hid (Cs.new w (pyV An ln cn Ao lo co Ai li ci Ah lh ch p.obs p.timed) 26)
  have HB0 := Lib.hid ((Below.refl w.heap.size w).alloc (Nat.le_refl _) (.cells (pyV An ln cn Ao lo co Ai li ci Ah lh ch p.obs p.timed) 26))
  unfold pyV at HC0 HB0 ⊢
  have HQ := Lib.hid hq
  have HN := Lib.hid (polC_lw hq).n12
  have HA := Lib.hid ha
  have HBB := Lib.hid hb
  clear hp hq
  go_enter Tryd.func20, Tryd.ntmps20
  go_upto_region 1 with fail
  obtain ⟨w1, hw1⟩ : ∃ z, w.alloc (.cells #[.slice An ln cn, .slice Ao lo co, .slice Ai li ci, .slice Ah lh ch, .int .i64 p.obs, .bool p.timed] 26) = z := ⟨_, rfl⟩
  obtain ⟨bp, hbp⟩ : ∃ z, w.heap.size = z := ⟨_, rfl⟩
  have HB1 : Hid (Below w.heap.size w w1) := hw1 ▸ HB0
  have HC1 : Hid (Cs w1 bp [.slice An ln cn, .slice Ao lo co, .slice Ai li ci, .slice Ah lh ch, .int .i64 p.obs, .bool p.timed]) := hw1 ▸ hbp ▸ HC0
  rw [hw1, hbp]
  clear hw1 HB0 HC0 hbp
  obtain ⟨c0, c1, c2, c3, c4, c5⟩ := HC1.out.six
  obtain ⟨n, hn⟩ : ∃ n, p.levels.length = n := ⟨_, rfl⟩
  have HNN := Lib.hid hn
  rw [hn] at ha hb
  have hn12 : n ≤ 12 := by rw [← hn]; exact HN.out
  have ha0 : (0 : Int) ≤ (a : Int) := by omega
  have hb0 : (0 : Int) ≤ (b : Int) := by omega
  have hai : (a : Int) < (n : Int) := by omega
  have hbi : (b : Int) < (n : Int) := by omega
  have hfl := fld_two
  clear hn
  go_wp2_with (first | (go_at_call 41; refine (rlattice_b p An ln cn Ao lo co Ai li ci Ah lh ch HQ.out _ (HP.out.below HB1.out)).mono ?_; rintro e w2 ⟨A1, k1, q, k2, rb, rfl, hm2, hb2⟩; have HB2 := Lib.hid (HB1.out.trans (hb2.mono HB1.out.size)); have HM2 := Lib.hid hm2; clear hb2 hm2; rw [HNN.out]; have k3 := HM2.out.rowAt a HA.out; have k4 := HM2.out.at a b HA.out HBB.out; rw [HNN.out] at k3; rw [H.out] at k4) | fail)
  go_ret
  exact ⟨rfl, HB2.out⟩
set_option maxRecDepth 100000 in
set_option maxHeartbeats 4000000 in
theorem rbottom_b (q n cn cq : Nat) (rb : Nat → Nat) (M : Mx) (An : Option Addr) (h0 : 0 < n) (hn : n ≤ 12) (r : Nat) (H : Hid (lastK (dnM M) n = r)) (w : World) (hm : Mem w q n n rb M) :
    Calls Tryd.prog 42 #[.agg #[.slice An n cn, .slice (some ⟨q, 0, none⟩) n cq]] w fun e w' => e = .returned (.int .i64 r) ∧ Below w.heap.size w w' := by
  have HM0 := Lib.hid (hm.alloc (.cells #[.slice An n cn, .slice (some ⟨q, 0, none⟩) n cq] 58))
  have HC := Lib.hid (Cs.new w #[.slice An n cn, .slice (some ⟨q, 0, none⟩) n cq] 58)
  have HBE := Lib.hid ((Below.refl w.heap.size w).alloc (Nat.le_refl _) (.cells #[.slice An n cn, .slice (some ⟨q, 0, none⟩) n cq] 58))
  clear hm
  go_enter Tryd.func42, Tryd.ntmps42
  go_upto_region 1 with fail
  obtain ⟨w1, hw1⟩ : ∃ z, w.alloc (.cells #[.slice An n cn, .slice (some ⟨q, 0, none⟩) n cq] 58) = z := ⟨_, rfl⟩
  obtain ⟨bp, hbp⟩ : ∃ z, w.heap.size = z := ⟨_, rfl⟩
  have HB1 : Hid (Below w.heap.size w w1) := hw1 ▸ HBE
  have HM1 : Hid (Mem w1 q n n rb M) := hw1 ▸ HM0
  have HC1 : Hid (Cs w1 bp [.slice An n cn, .slice (some ⟨q, 0, none⟩) n cq]) := hw1 ▸ hbp ▸ HC
  rw [hw1, hbp]
  clear hw1 HBE HM0 HC hbp
  have c0 := HC1.out.at 0 _ rfl
  have c1 := HC1.out.at 1 _ rfl
  go_wp2_with fail
  go_loop [3, 4] (fun u v => ∃ k b : Nat, k ≤ n ∧ b < n ∧ u = .int .i64 b ∧ v = .int .i64 k ∧ Hid (lastK (dnM M) k = b)) (fun _ v => n - (intOf v).toNat)
  case atStart => exact ⟨0, 0, Nat.zero_le _, h0, rfl, rfl, Lib.hid rfl⟩
  case round =>
    obtain ⟨k, b, hk, hb, rfl, rfl, HK⟩ := hrel
    have hk0 : (0 : Int) ≤ (k : Int) := by omega
    have hb0 : (0 : Int) ≤ (b : Int) := by omega
    have hb1 : (b : Int) < (n : Int) := by omega
    by_cases hkn : k < n
    · have hki : (k : Int) < (n : Int) := by omega
      have k3 := HM1.out.rowAt k hkn
      have k4 := HM1.out.at k b hkn hb
      have e : ∀ v, mget M k b = v → lastK (dnM M) (k + 1) = if v then k else b := fun v hv => by
        unfold lastK dnM
        rw [show lastK (fun a b => mget M b a) k = b from HK.out]
        rw [hv]
      obtain ⟨v, hv⟩ : ∃ v, mget M k b = v := ⟨_, rfl⟩
      have HE := Lib.hid (e v hv)
      rw [hv] at k4
      clear e hv
      cases v with
      | false =>
        have HN : Hid (lastK (dnM M) (k + 1) = b) := HE
        clear HE
        go_wp2_with fail
        go_round
        case rel => exact ⟨k + 1, b, by omega, hb, rfl, by go_num, HN⟩
        case measure => simp [intOf]; omega
      | true =>
        have HN : Hid (lastK (dnM M) (k + 1) = k) := HE
        clear HE
        go_wp2_with fail
        go_round
        case rel => exact ⟨k + 1, k, by omega, hkn, rfl, by go_num, HN⟩
        case measure => simp [intOf]; omega
    · have hki : ¬ ((k : Int) < (n : Int)) := by omega
      obtain rfl : n = k := by omega
      obtain rfl : b = r := by rw [← HK.out]; exact H.out
      go_wp2_with fail
      go_ret
      exact ⟨rfl, HB1.out⟩
end Go.Proofs.YtnipigninbeplaaDoor
