/-
  The walks over Check of the program and of the reference.
-/
import Derived.Test.YtnipigninbeplaaDoorPoW
import Derived.Test.YtnipigninbeplaaDoorPoG
import Derived.Test.YtnipigninbeplaaDoorPq
namespace Go.Proofs.YtnipigninbeplaaDoor
open Go.RowKit

/-- A policy in memory. -/
structure PyOk (w : World) (An : Option Addr) (ln cn : Nat) (Ao : Option Addr) (lo co : Nat) (Ai : Option Addr) (li ci : Nat) (Ah : Option Addr) (lh ch : Nat) (p : Py) : Prop where
  n : NOk w An ln cn p.levels
  o : OOk w Ao lo co p.order
  i : LbOk w Ai li ci p.inputs
  h : LbOk w Ah lh ch p.hatches
theorem PyOk.below {w W : World} {An : Option Addr} {ln cn : Nat} {Ao : Option Addr} {lo co : Nat} {Ai : Option Addr} {li ci : Nat} {Ah : Option Addr} {lh ch : Nat} {p : Py} (h : PyOk w An ln cn Ao lo co Ai li ci Ah lh ch p) (hb : Below w.heap.size w W) : PyOk W An ln cn Ao lo co Ai li ci Ah lh ch p :=
  ⟨h.n.below hb, h.o.below hb, h.i.below hb, h.h.below hb⟩
theorem polC_1 {p : Py} (h : newC p.levels p.order ≠ 0) : polC p = newC p.levels p.order := by unfold polC; rw [if_pos h]
theorem polC_2 {p : Py} (h : newC p.levels p.order = 0) (h2 : 64 < p.inputs.length ∨ 64 < p.hatches.length) : polC p = 4 := by unfold polC; rw [if_neg (by rw [h]; decide), if_pos h2]
theorem polC_3 {p : Py} (h : newC p.levels p.order = 0) (h2 : ¬ (64 < p.inputs.length ∨ 64 < p.hatches.length)) (h3 : labelsC p.levels.length [] p.inputs ≠ 0) : polC p = labelsC p.levels.length [] p.inputs := by
  unfold polC; rw [if_neg (by rw [h]; decide), if_neg h2, if_pos h3]
theorem polC_4 {p : Py} (h : newC p.levels p.order = 0) (h2 : ¬ (64 < p.inputs.length ∨ 64 < p.hatches.length)) (h3 : labelsC p.levels.length [] p.inputs = 0) (h4 : labelsC p.levels.length [] p.hatches ≠ 0) : polC p = labelsC p.levels.length [] p.hatches := by
  unfold polC; rw [if_neg (by rw [h]; decide), if_neg h2, if_neg (by rw [h3]; decide), if_pos h4]
theorem polC_5 {p : Py} (h : newC p.levels p.order = 0) (h2 : ¬ (64 < p.inputs.length ∨ 64 < p.hatches.length)) (h3 : labelsC p.levels.length [] p.inputs = 0) (h4 : labelsC p.levels.length [] p.hatches = 0) (h5 : p.obs < 0 ∨ (p.levels.length : Int) ≤ p.obs) : polC p = 3 := by
  unfold polC; rw [if_neg (by rw [h]; decide), if_neg h2, if_neg (by rw [h3]; decide), if_neg (by rw [h4]; decide), if_pos h5]
theorem polC_6 {p : Py} (h : newC p.levels p.order = 0) (h2 : ¬ (64 < p.inputs.length ∨ 64 < p.hatches.length)) (h3 : labelsC p.levels.length [] p.inputs = 0) (h4 : labelsC p.levels.length [] p.hatches = 0) (h5 : ¬ (p.obs < 0 ∨ (p.levels.length : Int) ≤ p.obs)) : polC p = 0 := by
  unfold polC; rw [if_neg (by rw [h]; decide), if_neg h2, if_neg (by rw [h3]; decide), if_neg (by rw [h4]; decide), if_neg h5]

set_option maxRecDepth 100000 in
set_option maxHeartbeats 4000000 in
theorem check_b (p : Py) (An : Option Addr) (ln cn : Nat) (Ao : Option Addr) (lo co : Nat) (Ai : Option Addr) (li ci : Nat) (Ah : Option Addr) (lh ch : Nat) (r : Int) (H : Hid (polC p = r)) (w : World) (hp : PyOk w An ln cn Ao lo co Ai li ci Ah lh ch p) :
    Calls Tryd.prog 10 #[.agg (pyV An ln cn Ao lo co Ai li ci Ah lh ch p.obs p.timed)] w fun e w' => e = .returned (.int .i64 r) ∧ Below w.heap.size w w' := by
  have HP := Lib.hid hp
  have hli : li ≤ 9223372036854775807 := by have := hp.i.cap; have := hp.i.big; unfold maxLen at this; omega
  have hlh : lh ≤ 9223372036854775807 := by have := hp.h.cap; have := hp.h.big; unfold maxLen at this; omega
  have hln : ln ≤ 9223372036854775807 := by have := hp.n.cap; have := hp.n.big; unfold maxLen at this; omega
  have HLI : Hid (p.inputs.length = li ∧ p.hatches.length = lh ∧ p.levels.length = ln) := Lib.hid ⟨hp.i.len, hp.h.len, hp.n.len⟩
  have HC0 := Lib.hid (Cs.new w (pyV An ln cn Ao lo co Ai li ci Ah lh ch p.obs p.timed) 26)
  have HB0 := Lib.hid ((Below.refl w.heap.size w).alloc (Nat.le_refl _) (.cells (pyV An ln cn Ao lo co Ai li ci Ah lh ch p.obs p.timed) 26))
  obtain ⟨r1, hr1⟩ : ∃ z, newC p.levels p.order = z := ⟨_, rfl⟩
  have H1 := Lib.hid hr1
  unfold pyV at HC0 HB0 ⊢
  clear hp hr1
  go_enter Tryd.func10, Tryd.ntmps10
  go_upto_region 1 with fail
  obtain ⟨w1, hw1⟩ : ∃ z, w.alloc (.cells #[.slice An ln cn, .slice Ao lo co, .slice Ai li ci, .slice Ah lh ch, .int .i64 p.obs, .bool p.timed] 26) = z := ⟨_, rfl⟩
  obtain ⟨bp, hbp⟩ : ∃ z, w.heap.size = z := ⟨_, rfl⟩
  have HB1 : Hid (Below w.heap.size w w1) := hw1 ▸ HB0
  have HC1 : Hid (Cs w1 bp [.slice An ln cn, .slice Ao lo co, .slice Ai li ci, .slice Ah lh ch, .int .i64 p.obs, .bool p.timed]) := hw1 ▸ hbp ▸ HC0
  rw [hw1, hbp]
  have HBP := Lib.hid hbp
  clear hw1 HB0 HC0 hbp
  have c0 := HC1.out.at 0 _ rfl
  have c1 := HC1.out.at 1 _ rfl
  go_upto_region 2 with (first | (go_at_call 23; refine (new_b p.levels p.order An ln cn Ao lo co r1 H1 _ (HP.out.below HB1.out).n (HP.out.below HB1.out).o).mono ?_; rintro e w2 ⟨pv, rfl, hb2, _, _⟩) | fail)
  have HB2 : Hid (Below w.heap.size w w2) := Lib.hid (HB1.out.trans (hb2.mono HB1.out.size))
  have HC2 := Lib.hid (HC1.out.next hb2)
  clear hb2 c0 c1
  by_cases h1 : r1 = 0
  · subst h1
    have c2 := HC2.out.at 2 _ rfl
    have c3 := HC2.out.at 3 _ rfl
    by_cases h2 : 64 < li ∨ 64 < lh
    · obtain rfl : r = 4 := by rw [← H.out]; exact polC_2 H1.out (by rw [HLI.out.1, HLI.out.2.1]; exact h2)
      clear H
      by_cases h3 : 64 < li
      · have h3i : (64 : Int) < (li : Int) := by omega
        go_wp2_with fail
        go_ret
        exact ⟨rfl, HBP.out ▸ HB2.out⟩
      · have h3i : ¬ (64 : Int) < (li : Int) := by omega
        have h4i : (64 : Int) < (lh : Int) := by omega
        go_wp2_with fail
        go_ret
        exact ⟨rfl, HBP.out ▸ HB2.out⟩
    have h3i : ¬ (64 : Int) < (li : Int) := by omega
    have h4i : ¬ (64 : Int) < (lh : Int) := by omega
    have HN2 : Hid (¬ (64 < p.inputs.length ∨ 64 < p.hatches.length)) := Lib.hid (by rw [HLI.out.1, HLI.out.2.1]; exact h2)
    have hl64 : li ≤ 64 ∧ lh ≤ 64 := by omega
    have c0 := HC2.out.at 0 _ rfl
    obtain ⟨r2, hr2⟩ : ∃ z, labelsC (ln : Int) [] p.inputs = z := ⟨_, rfl⟩
    obtain ⟨r3, hr3⟩ : ∃ z, labelsC (ln : Int) [] p.hatches = z := ⟨_, rfl⟩
    have H2 := Lib.hid hr2
    have H3 := Lib.hid hr3
    have H2' : Hid (labelsC p.levels.length [] p.inputs = r2) := Lib.hid (by rw [HLI.out.2.2]; exact hr2)
    have H3' : Hid (labelsC p.levels.length [] p.hatches = r3) := Lib.hid (by rw [HLI.out.2.2]; exact hr3)
    clear hr2 hr3 h2
    go_upto_region 7 with (first | (go_at_call 24; refine (checkLabels_b p.inputs (ln : Int) Ai li ci r2 H2 _ ((HP.out.below HB2.out).i) (by unfold maxLen; omega)).mono ?_; rintro e w5 ⟨rfl, hb5⟩) | fail)
    have HB5 : Hid (Below w.heap.size w w5) := Lib.hid (HB2.out.trans (hb5.mono HB2.out.size))
    have HC5 := Lib.hid (HC2.out.next hb5)
    clear hb5 c0 c2 c3
    by_cases h5 : r2 = 0
    · subst h5
      have c0 := HC5.out.at 0 _ rfl
      have c3 := HC5.out.at 3 _ rfl
      go_upto_region 10 with (first | (go_at_call 24; refine (checkLabels_b p.hatches (ln : Int) Ah lh ch r3 H3 _ ((HP.out.below HB5.out).h) (by unfold maxLen; omega)).mono ?_; rintro e w6 ⟨rfl, hb6⟩) | fail)
      have HB6 : Hid (Below w.heap.size w w6) := Lib.hid (HB5.out.trans (hb6.mono HB5.out.size))
      have HC6 := Lib.hid (HC5.out.next hb6)
      clear hb6 c0 c3
      by_cases h6 : r3 = 0
      · subst h6
        have c0 := HC6.out.at 0 _ rfl
        have c4 := HC6.out.at 4 _ rfl
        obtain ⟨ob, hob⟩ : ∃ z, p.obs = z := ⟨_, rfl⟩
        have HOB := Lib.hid hob
        rw [hob] at c4
        clear hob
        by_cases h7 : ob < 0
        · obtain rfl : r = 3 := by rw [← H.out]; exact polC_5 H1.out HN2.out H2'.out H3'.out (.inl (by rw [HOB.out]; exact h7))
          clear H
          go_wp2_with fail
          go_ret
          exact ⟨rfl, HBP.out ▸ HB6.out⟩
        by_cases h8 : (ln : Int) ≤ ob
        · obtain rfl : r = 3 := by rw [← H.out]; exact polC_5 H1.out HN2.out H2'.out H3'.out (.inr (by rw [HOB.out, HLI.out.2.2]; exact h8))
          clear H
          go_wp2_with fail
          go_ret
          exact ⟨rfl, HBP.out ▸ HB6.out⟩
        obtain rfl : r = 0 := by rw [← H.out]; exact polC_6 H1.out HN2.out H2'.out H3'.out (by rw [HOB.out, HLI.out.2.2]; omega)
        clear H
        go_wp2_with fail
        go_ret
        exact ⟨rfl, HBP.out ▸ HB6.out⟩
      · obtain rfl : r = r3 := by rw [← H.out, polC_4 H1.out HN2.out H2'.out (by rw [H3'.out]; exact h6)]; exact H3'.out
        clear H
        go_wp2_with fail
        go_ret
        exact ⟨rfl, HBP.out ▸ HB6.out⟩
    · obtain rfl : r = r2 := by rw [← H.out, polC_3 H1.out HN2.out (by rw [H2'.out]; exact h5)]; exact H2'.out
      clear H
      go_wp2_with fail
      go_ret
      exact ⟨rfl, HBP.out ▸ HB5.out⟩
  · obtain rfl : r = r1 := by rw [← H.out, polC_1 (by rw [H1.out]; exact h1)]; exact H1.out
    clear H
    go_wp2_with fail
    go_ret
    exact ⟨rfl, HBP.out ▸ HB2.out⟩

set_option maxRecDepth 100000 in
set_option maxHeartbeats 4000000 in
theorem rcheck_b (p : Py) (An : Option Addr) (ln cn : Nat) (Ao : Option Addr) (lo co : Nat) (Ai : Option Addr) (li ci : Nat) (Ah : Option Addr) (lh ch : Nat) (r : Int) (H : Hid (polC p = r)) (w : World) (hp : PyOk w An ln cn Ao lo co Ai li ci Ah lh ch p) :
    Calls Tryd.prog 11 #[.agg (pyV An ln cn Ao lo co Ai li ci Ah lh ch p.obs p.timed)] w fun e w' => e = .returned (.int .i64 r) ∧ Below w.heap.size w w' := by
  have HP := Lib.hid hp
  have hli : li ≤ 9223372036854775807 := by have := hp.i.cap; have := hp.i.big; unfold maxLen at this; omega
  have hlh : lh ≤ 9223372036854775807 := by have := hp.h.cap; have := hp.h.big; unfold maxLen at this; omega
  have hln : ln ≤ 9223372036854775807 := by have := hp.n.cap; have := hp.n.big; unfold maxLen at this; omega
  have HLI : Hid (p.inputs.length = li ∧ p.hatches.length = lh ∧ p.levels.length = ln) := Lib.hid ⟨hp.i.len, hp.h.len, hp.n.len⟩
  have HC0 := Lib.hid (Cs.new w (pyV An ln cn Ao lo co Ai li ci Ah lh ch p.obs p.timed) 26)
  have HB0 := Lib.hid ((Below.refl w.heap.size w).alloc (Nat.le_refl _) (.cells (pyV An ln cn Ao lo co Ai li ci Ah lh ch p.obs p.timed) 26))
  obtain ⟨r1, hr1⟩ : ∃ z, newC p.levels p.order = z := ⟨_, rfl⟩
  have H1 := Lib.hid hr1
  unfold pyV at HC0 HB0 ⊢
  clear hp hr1
  go_enter Tryd.func11, Tryd.ntmps11
  go_upto_region 1 with fail
  obtain ⟨w1, hw1⟩ : ∃ z, w.alloc (.cells #[.slice An ln cn, .slice Ao lo co, .slice Ai li ci, .slice Ah lh ch, .int .i64 p.obs, .bool p.timed] 26) = z := ⟨_, rfl⟩
  obtain ⟨bp, hbp⟩ : ∃ z, w.heap.size = z := ⟨_, rfl⟩
  have HB1 : Hid (Below w.heap.size w w1) := hw1 ▸ HB0
  have HC1 : Hid (Cs w1 bp [.slice An ln cn, .slice Ao lo co, .slice Ai li ci, .slice Ah lh ch, .int .i64 p.obs, .bool p.timed]) := hw1 ▸ hbp ▸ HC0
  rw [hw1, hbp]
  have HBP := Lib.hid hbp
  clear hw1 HB0 HC0 hbp
  have c0 := HC1.out.at 0 _ rfl
  have c1 := HC1.out.at 1 _ rfl
  go_upto_region 2 with (first | (go_at_call 25; refine (rnew_b p.levels p.order An ln cn Ao lo co r1 H1 _ (HP.out.below HB1.out).n (HP.out.below HB1.out).o).mono ?_; rintro e w2 ⟨B1, m1, d1, B2, m2, d2, rfl, hb2, _⟩) | fail)
  have HB2 : Hid (Below w.heap.size w w2) := Lib.hid (HB1.out.trans (hb2.mono HB1.out.size))
  have HC2 := Lib.hid (HC1.out.next hb2)
  clear hb2 c0 c1
  obtain ⟨w3, hw3⟩ : ∃ z, w2.alloc (.cells #[.slice B1 m1 d1, .slice B2 m2 d2] 58) = z := ⟨_, rfl⟩
  have HB3 : Hid (Below w.heap.size w w3) := Lib.hid (by rw [← hw3]; exact HB2.out.alloc HB2.out.size _)
  have HC3 : Hid (Cs w3 bp [.slice An ln cn, .slice Ao lo co, .slice Ai li ci, .slice Ah lh ch, .int .i64 p.obs, .bool p.timed]) := Lib.hid (by rw [← hw3]; exact HC2.out.alloc _)
  rw [hw3]
  clear hw3 HB2 HC2
  by_cases h1 : r1 = 0
  · subst h1
    have c2 := HC3.out.at 2 _ rfl
    have c3 := HC3.out.at 3 _ rfl
    by_cases h2 : 64 < li ∨ 64 < lh
    · obtain rfl : r = 4 := by rw [← H.out]; exact polC_2 H1.out (by rw [HLI.out.1, HLI.out.2.1]; exact h2)
      clear H
      by_cases h3 : 64 < li
      · have h3i : (64 : Int) < (li : Int) := by omega
        go_wp2_with fail
        go_ret
        exact ⟨rfl, HBP.out ▸ HB3.out⟩
      · have h3i : ¬ (64 : Int) < (li : Int) := by omega
        have h4i : (64 : Int) < (lh : Int) := by omega
        go_wp2_with fail
        go_ret
        exact ⟨rfl, HBP.out ▸ HB3.out⟩
    have h3i : ¬ (64 : Int) < (li : Int) := by omega
    have h4i : ¬ (64 : Int) < (lh : Int) := by omega
    have HN2 : Hid (¬ (64 < p.inputs.length ∨ 64 < p.hatches.length)) := Lib.hid (by rw [HLI.out.1, HLI.out.2.1]; exact h2)
    have hl64 : li ≤ 64 ∧ lh ≤ 64 := by omega
    have c0 := HC3.out.at 0 _ rfl
    obtain ⟨r2, hr2⟩ : ∃ z, labelsC (ln : Int) [] p.inputs = z := ⟨_, rfl⟩
    obtain ⟨r3, hr3⟩ : ∃ z, labelsC (ln : Int) [] p.hatches = z := ⟨_, rfl⟩
    have H2 := Lib.hid hr2
    have H3 := Lib.hid hr3
    have H2' : Hid (labelsC p.levels.length [] p.inputs = r2) := Lib.hid (by rw [HLI.out.2.2]; exact hr2)
    have H3' : Hid (labelsC p.levels.length [] p.hatches = r3) := Lib.hid (by rw [HLI.out.2.2]; exact hr3)
    clear hr2 hr3 h2
    go_upto_region 7 with (first | (go_at_call 26; refine (rlabels_b p.inputs (ln : Int) Ai li ci r2 H2 _ ((HP.out.below HB3.out).i)).mono ?_; rintro e w5 ⟨rfl, hb5⟩) | fail)
    have HB5 : Hid (Below w.heap.size w w5) := Lib.hid (HB3.out.trans (hb5.mono HB3.out.size))
    have HC5 := Lib.hid (HC3.out.next hb5)
    clear hb5 c0 c2 c3
    by_cases h5 : r2 = 0
    · subst h5
      have c0 := HC5.out.at 0 _ rfl
      have c3 := HC5.out.at 3 _ rfl
      go_upto_region 10 with (first | (go_at_call 26; refine (rlabels_b p.hatches (ln : Int) Ah lh ch r3 H3 _ ((HP.out.below HB5.out).h)).mono ?_; rintro e w6 ⟨rfl, hb6⟩) | fail)
      have HB6 : Hid (Below w.heap.size w w6) := Lib.hid (HB5.out.trans (hb6.mono HB5.out.size))
      have HC6 := Lib.hid (HC5.out.next hb6)
      clear hb6 c0 c3
      by_cases h6 : r3 = 0
      · subst h6
        have c0 := HC6.out.at 0 _ rfl
        have c4 := HC6.out.at 4 _ rfl
        obtain ⟨ob, hob⟩ : ∃ z, p.obs = z := ⟨_, rfl⟩
        have HOB := Lib.hid hob
        rw [hob] at c4
        clear hob
        by_cases h7 : ob < 0
        · obtain rfl : r = 3 := by rw [← H.out]; exact polC_5 H1.out HN2.out H2'.out H3'.out (.inl (by rw [HOB.out]; exact h7))
          clear H
          go_wp2_with fail
          go_ret
          exact ⟨rfl, HBP.out ▸ HB6.out⟩
        by_cases h8 : (ln : Int) ≤ ob
        · obtain rfl : r = 3 := by rw [← H.out]; exact polC_5 H1.out HN2.out H2'.out H3'.out (.inr (by rw [HOB.out, HLI.out.2.2]; exact h8))
          clear H
          go_wp2_with fail
          go_ret
          exact ⟨rfl, HBP.out ▸ HB6.out⟩
        obtain rfl : r = 0 := by rw [← H.out]; exact polC_6 H1.out HN2.out H2'.out H3'.out (by rw [HOB.out, HLI.out.2.2]; omega)
        clear H
        go_wp2_with fail
        go_ret
        exact ⟨rfl, HBP.out ▸ HB6.out⟩
      · obtain rfl : r = r3 := by rw [← H.out, polC_4 H1.out HN2.out H2'.out (by rw [H3'.out]; exact h6)]; exact H3'.out
        clear H
        go_wp2_with fail
        go_ret
        exact ⟨rfl, HBP.out ▸ HB6.out⟩
    · obtain rfl : r = r2 := by rw [← H.out, polC_3 H1.out HN2.out (by rw [H2'.out]; exact h5)]; exact H2'.out
      clear H
      go_wp2_with fail
      go_ret
      exact ⟨rfl, HBP.out ▸ HB5.out⟩
  · obtain rfl : r = r1 := by rw [← H.out, polC_1 (by rw [H1.out]; exact h1)]; exact H1.out
    clear H
    go_wp2_with fail
    go_ret
    exact ⟨rfl, HBP.out ▸ HB3.out⟩
end Go.Proofs.YtnipigninbeplaaDoor
