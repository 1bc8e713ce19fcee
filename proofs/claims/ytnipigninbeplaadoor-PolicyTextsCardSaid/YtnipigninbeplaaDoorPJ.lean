/-
  Pairs of numbers are equal to themselves; no walk stands here.
  The walk over the reference's Same, of two policies that are equal.
-/
import Derived.Test.YtnipigninbeplaaDoorPD
import Derived.Laws.StructEq
import Derived.DeepKeys
import Derived.Test.YtnipigninbeplaaDoorPoX
import Derived.BigQuiet
namespace Go.Proofs.YtnipigninbeplaaDoor
open Go.RowKit

theorem pairGuard : Tryd.prog.eqGuardType Tryd.prog.depth 42 = false := by kernel_rfl
theorem labGuard : Tryd.prog.eqGuardType Tryd.prog.depth 71 = false := by kernel_rfl
theorem labHeld : Tryd.prog.stoodInHeld 71 = false := by kernel_rfl
theorem pairUnder : Tryd.prog.underlying 42 = some (.array 2 3) := by kernel_rfl
theorem intUnder : Tryd.prog.underlying 3 = some (.int .i64) := by kernel_rfl
theorem int_lits (d : Nat) (x : Int) (hx : (Lit.int .i64 x).wf = true) : Tryd.prog.keyLits (d + 1) 3 [.int .i64 x] = some [.int .i64 x] := by
  unfold Program.keyLits
  rw [intUnder]
  simp only [hx, and_self, if_true]
theorem pair_lits (x y : Int) (hx : (Lit.int .i64 x).wf = true) (hy : (Lit.int .i64 y).wf = true) : Tryd.prog.keyLits 3 42 [.int .i64 x, .int .i64 y] = some [.int .i64 x, .int .i64 y] := by
  have h1 : Tryd.prog.cellsOf 42 = 2 := by kernel_rfl
  have h2 : Tryd.prog.cellsOf 3 = 1 := by kernel_rfl
  unfold Program.keyLits
  rw [pairUnder]
  simp only [h1, h2]
  have e : List.range 2 = [0, 1] := rfl
  rw [e]
  simp [int_lits 1 x hx, int_lits 1 y hy]
theorem pair_eq (x y : Int) (hx : (Lit.int .i64 x).wf = true) (hy : (Lit.int .i64 y).wf = true) (w : World) : (Op.equalIn 10000 42 (.agg #[.int .i64 x, .int .i64 y]) (.agg #[.int .i64 x, .int .i64 y])).run Tryd.prog w = .ok true w := by
  have hk : Tryd.prog.keyTypeAt 3 42 = true := by kernel_rfl
  have h := run_equalIn_deep (P := Tryd.prog) 9997 3 42 hk w 3 3 (.agg #[.int .i64 x, .int .i64 y]) (.agg #[.int .i64 x, .int .i64 y]) [.int .i64 x, .int .i64 y] [.int .i64 x, .int .i64 y] (by kernel_rfl) (by kernel_rfl) (pair_lits x y hx hy) (pair_lits x y hx hy)
  obtain ⟨r, hr, hi⟩ := h
  have : r = true := hi.2 rfl
  rw [this] at hr
  exact hr

set_option maxRecDepth 100000 in
set_option maxHeartbeats 8000000 in
theorem same_b (p : Py) (ln lo li lh : Nat) (An1 : Option Addr) (cn1 : Nat) (Ao1 : Option Addr) (co1 : Nat) (Ai1 : Option Addr) (ci1 : Nat) (Ah1 : Option Addr) (ch1 : Nat) (An2 : Option Addr) (cn2 : Nat) (Ao2 : Option Addr) (co2 : Nat) (Ai2 : Option Addr) (ci2 : Nat) (Ah2 : Option Addr) (ch2 : Nat) (w : World) (hp1 : PyOk w An1 ln cn1 Ao1 lo co1 Ai1 li ci1 Ah1 lh ch1 p) (hp2 : PyOk w An2 ln cn2 Ao2 lo co2 Ai2 li ci2 Ah2 lh ch2 p) (hwf : ∀ q ∈ p.order, (Lit.int .i64 q.1).wf = true ∧ (Lit.int .i64 q.2).wf = true) :
    Calls Tryd.prog 16 #[.agg (pyV An1 ln cn1 Ao1 lo co1 Ai1 li ci1 Ah1 lh ch1 p.obs p.timed), .agg (pyV An2 ln cn2 Ao2 lo co2 Ai2 li ci2 Ah2 lh ch2 p.obs p.timed)] w fun e w' => e = .returned (.bool true) ∧ Below w.heap.size w w' := by
  have HP1 := Lib.hid hp1
  have HWF := Lib.hid hwf
  have HP2 := Lib.hid hp2
  have hli : li ≤ 9223372036854775807 := by have := hp1.i.cap; have := hp1.i.big; unfold maxLen at this; omega
  have hlh : lh ≤ 9223372036854775807 := by have := hp1.h.cap; have := hp1.h.big; unfold maxLen at this; omega
  have hln : ln ≤ 9223372036854775807 := by have := hp1.n.cap; have := hp1.n.big; unfold maxLen at this; omega
  have hlo : lo ≤ 9223372036854775807 := by have := hp1.o.cap; have := hp1.o.big; unfold maxLen at this; omega
  have HB0 := Lib.hid (((Below.refl w.heap.size w).alloc (Nat.le_refl _) (.cells (pyV An1 ln cn1 Ao1 lo co1 Ai1 li ci1 Ah1 lh ch1 p.obs p.timed) 26)).alloc (by simp) (.cells (pyV An2 ln cn2 Ao2 lo co2 Ai2 li ci2 Ah2 lh ch2 p.obs p.timed) 26))
  have HC10 := Lib.hid ((Cs.new w (pyV An1 ln cn1 Ao1 lo co1 Ai1 li ci1 Ah1 lh ch1 p.obs p.timed) 26).alloc (.cells (pyV An2 ln cn2 Ao2 lo co2 Ai2 li ci2 Ah2 lh ch2 p.obs p.timed) 26))
  have HC20 := Lib.hid (Cs.new (w.alloc (.cells (pyV An1 ln cn1 Ao1 lo co1 Ai1 li ci1 Ah1 lh ch1 p.obs p.timed) 26)) (pyV An2 ln cn2 Ao2 lo co2 Ai2 li ci2 Ah2 lh ch2 p.obs p.timed) 26)
  unfold pyV at HB0 HC10 HC20 ⊢
  clear hp1 hp2 hwf
  go_enter Tryd.func16, Tryd.ntmps16
  go_upto_region 1 with fail
  obtain ⟨w1, hw1⟩ : ∃ z, (w.alloc (.cells #[.slice An1 ln cn1, .slice Ao1 lo co1, .slice Ai1 li ci1, .slice Ah1 lh ch1, .int .i64 p.obs, .bool p.timed] 26)).alloc (.cells #[.slice An2 ln cn2, .slice Ao2 lo co2, .slice Ai2 li ci2, .slice Ah2 lh ch2, .int .i64 p.obs, .bool p.timed] 26) = z := ⟨_, rfl⟩
  obtain ⟨q1, hq1⟩ : ∃ z, w.heap.size = z := ⟨_, rfl⟩
  obtain ⟨q2, hq2⟩ : ∃ z, w.heap.size + 1 = z := ⟨_, rfl⟩
  have HB : Hid (Below w.heap.size w w1) := hw1 ▸ HB0
  have HC1 : Hid (Cs w1 q1 [.slice An1 ln cn1, .slice Ao1 lo co1, .slice Ai1 li ci1, .slice Ah1 lh ch1, .int .i64 p.obs, .bool p.timed]) := hw1 ▸ hq1 ▸ HC10
  have HC2 : Hid (Cs w1 q2 [.slice An2 ln cn2, .slice Ao2 lo co2, .slice Ai2 li ci2, .slice Ah2 lh ch2, .int .i64 p.obs, .bool p.timed]) := Lib.hid (by have h := HC20.out; rw [World.size_alloc] at h; rw [← hw1, ← hq2]; exact h)
  rw [hw1, hq2, hq1]
  clear hw1 hq1 hq2 HB0 HC10 HC20
  have c0 := HC1.out.at 0 _ rfl
  have c1 := HC1.out.at 1 _ rfl
  have c2 := HC1.out.at 2 _ rfl
  have c3 := HC1.out.at 3 _ rfl
  have c4 := HC1.out.at 4 _ rfl
  have c5 := HC1.out.at 5 _ rfl
  have d0 := HC2.out.at 0 _ rfl
  have d1 := HC2.out.at 1 _ rfl
  have d2 := HC2.out.at 2 _ rfl
  have d3 := HC2.out.at 3 _ rfl
  have d4 := HC2.out.at 4 _ rfl
  have d5 := HC2.out.at 5 _ rfl
  go_wp2_with fail
  clear c0 c1 c2 c3 c4 c5 d0 d1 d2 d3 d4 d5
  go_loopw [5] (fun v wr => ∃ i : Nat, i ≤ ln ∧ v = .int .i64 i ∧ Hid (Below w.heap.size w wr) ∧ Hid (Cs wr q1 [.slice An1 ln cn1, .slice Ao1 lo co1, .slice Ai1 li ci1, .slice Ah1 lh ch1, .int .i64 p.obs, .bool p.timed]) ∧ Hid (Cs wr q2 [.slice An2 ln cn2, .slice Ao2 lo co2, .slice Ai2 li ci2, .slice Ah2 lh ch2, .int .i64 p.obs, .bool p.timed])) (fun v _ => ln - (intOf v).toNat)
  case atStart => exact ⟨0, Nat.zero_le _, rfl, HB, HC1, HC2⟩
  case round =>
    clear HB HC1 HC2
    obtain ⟨i, hi, rfl, HB, HC1, HC2⟩ := hrel
    try clear c0
    try clear d0
    have c0 := HC1.out.at 0 _ rfl
    have d0 := HC2.out.at 0 _ rfl
    by_cases hit : i < ln
    · have hit' : (i : Int) < (ln : Int) := by omega
      have hi0 : (0 : Int) ≤ (i : Int) := by omega
      obtain ⟨s1, g1, f1, ht1, _, hA1, _, k0⟩ := (HP1.out.below HB.out).n.at i hit
      obtain ⟨s2, g2, f2, ht2, _, hA2, _, m0⟩ := (HP2.out.below HB.out).n.at i hit
      subst hA1
      subst hA2
      rw [ht1] at ht2
      cases ht2
      skip
      skip
      clear ht1
      go_upto_region 6 with fail
      go_quiet (fail)
      have HB3 := Lib.hid (below_drewN HB.out nq)
      have HC13 := Lib.hid (HC1.out.next (below_drewN (Below.refl _ _) nq))
      have HC23 := Lib.hid (HC2.out.next (below_drewN (Below.refl _ _) nq))
      go_wp2_with fail
      go_roundw
      case rel => exact ⟨i + 1, by omega, by go_num, HB3, HC13, HC23⟩
      case measure => simp [intOf]; omega
    · have hge : ¬ ((i : Int) < (ln : Int)) := by omega
      obtain rfl : ln = i := by omega
      clear hit
      go_wp2_with fail
      rename World => wo1
      go_loopw [6] (fun v wr => ∃ i : Nat, i ≤ lo ∧ v = .int .i64 i ∧ Hid (Below w.heap.size w wr) ∧ Hid (Cs wr q1 [.slice An1 ln cn1, .slice Ao1 lo co1, .slice Ai1 li ci1, .slice Ah1 lh ch1, .int .i64 p.obs, .bool p.timed]) ∧ Hid (Cs wr q2 [.slice An2 ln cn2, .slice Ao2 lo co2, .slice Ai2 li ci2, .slice Ah2 lh ch2, .int .i64 p.obs, .bool p.timed])) (fun v _ => lo - (intOf v).toNat)
      case atStart => exact ⟨0, Nat.zero_le _, rfl, HB, HC1, HC2⟩
      case round =>
        clear HB HC1 HC2
        obtain ⟨i, hi, rfl, HB, HC1, HC2⟩ := hrel
        try clear c0
        try clear d0
        have c0 := HC1.out.at 1 _ rfl
        have d0 := HC2.out.at 1 _ rfl
        by_cases hit : i < lo
        · have hit' : (i : Int) < (lo : Int) := by omega
          have hi0 : (0 : Int) ≤ (i : Int) := by omega
          obtain ⟨x1, y1, g1, f1, ht1, hA1, _, k0, k1⟩ := (HP1.out.below HB.out).o.at i hit
          obtain ⟨x2, y2, g2, f2, ht2, hA2, _, m0, m1⟩ := (HP2.out.below HB.out).o.at i hit
          subst hA1
          subst hA2
          rw [ht1] at ht2
          cases ht2
          have heq := fun wx => pair_eq x1 y1 (HWF.out _ (List.mem_of_getElem? ht1)).1 (HWF.out _ (List.mem_of_getElem? ht1)).2 wx
          have hgp := pairGuard
          clear ht1
          go_upto_region 11 with fail
          go_quiet (fail)
          have HB3 := Lib.hid (below_drewN HB.out nq)
          have HC13 := Lib.hid (HC1.out.next (below_drewN (Below.refl _ _) nq))
          have HC23 := Lib.hid (HC2.out.next (below_drewN (Below.refl _ _) nq))
          go_wp2_with fail
          go_roundw
          case rel => exact ⟨i + 1, by omega, by go_num, HB3, HC13, HC23⟩
          case measure => simp [intOf]; omega
        · have hge : ¬ ((i : Int) < (lo : Int)) := by omega
          obtain rfl : lo = i := by omega
          clear hit
          go_wp2_with fail
          rename World => wo2
          go_loopw [7] (fun v wr => ∃ i : Nat, i ≤ li ∧ v = .int .i64 i ∧ Hid (Below w.heap.size w wr) ∧ Hid (Cs wr q1 [.slice An1 ln cn1, .slice Ao1 lo co1, .slice Ai1 li ci1, .slice Ah1 lh ch1, .int .i64 p.obs, .bool p.timed]) ∧ Hid (Cs wr q2 [.slice An2 ln cn2, .slice Ao2 lo co2, .slice Ai2 li ci2, .slice Ah2 lh ch2, .int .i64 p.obs, .bool p.timed])) (fun v _ => li - (intOf v).toNat)
          case atStart => exact ⟨0, Nat.zero_le _, rfl, HB, HC1, HC2⟩
          case round =>
            clear HB HC1 HC2
            obtain ⟨i, hi, rfl, HB, HC1, HC2⟩ := hrel
            try clear c0
            try clear d0
            have c0 := HC1.out.at 2 _ rfl
            have d0 := HC2.out.at 2 _ rfl
            by_cases hit : i < li
            · have hit' : (i : Int) < (li : Int) := by omega
              have hi0 : (0 : Int) ≤ (i : Int) := by omega
              obtain ⟨s1, v1, g1, f1, ht1, _, hA1, _, k0, k1⟩ := (HP1.out.below HB.out).i.at i hit
              obtain ⟨s2, v2, g2, f2, ht2, _, hA2, _, m0, m1⟩ := (HP2.out.below HB.out).i.at i hit
              subst hA1
              subst hA2
              rw [ht1] at ht2
              cases ht2
              have hgl := labGuard
              have hgh := labHeld
              clear ht1
              go_upto_region 16 with fail
              go_quiet (fail)
              have HB3 := Lib.hid (below_drewN HB.out nq)
              have HC13 := Lib.hid (HC1.out.next (below_drewN (Below.refl _ _) nq))
              have HC23 := Lib.hid (HC2.out.next (below_drewN (Below.refl _ _) nq))
              go_wp2_with fail
              go_roundw
              case rel => exact ⟨i + 1, by omega, by go_num, HB3, HC13, HC23⟩
              case measure => simp [intOf]; omega
            · have hge : ¬ ((i : Int) < (li : Int)) := by omega
              obtain rfl : li = i := by omega
              clear hit
              go_wp2_with fail
              rename World => wo3
              go_loopw [8] (fun v wr => ∃ i : Nat, i ≤ lh ∧ v = .int .i64 i ∧ Hid (Below w.heap.size w wr) ∧ Hid (Cs wr q1 [.slice An1 ln cn1, .slice Ao1 lo co1, .slice Ai1 li ci1, .slice Ah1 lh ch1, .int .i64 p.obs, .bool p.timed]) ∧ Hid (Cs wr q2 [.slice An2 ln cn2, .slice Ao2 lo co2, .slice Ai2 li ci2, .slice Ah2 lh ch2, .int .i64 p.obs, .bool p.timed])) (fun v _ => lh - (intOf v).toNat)
              case atStart => exact ⟨0, Nat.zero_le _, rfl, HB, HC1, HC2⟩
              case round =>
                clear HB HC1 HC2
                obtain ⟨i, hi, rfl, HB, HC1, HC2⟩ := hrel
                try clear c0
                try clear d0
                have c0 := HC1.out.at 3 _ rfl
                have d0 := HC2.out.at 3 _ rfl
                by_cases hit : i < lh
                · have hit' : (i : Int) < (lh : Int) := by omega
                  have hi0 : (0 : Int) ≤ (i : Int) := by omega
                  obtain ⟨s1, v1, g1, f1, ht1, _, hA1, _, k0, k1⟩ := (HP1.out.below HB.out).h.at i hit
                  obtain ⟨s2, v2, g2, f2, ht2, _, hA2, _, m0, m1⟩ := (HP2.out.below HB.out).h.at i hit
                  subst hA1
                  subst hA2
                  rw [ht1] at ht2
                  cases ht2
                  have hgl := labGuard
                  have hgh := labHeld
                  clear ht1
                  go_upto_region 21 with fail
                  go_quiet (fail)
                  have HB3 := Lib.hid (below_drewN HB.out nq)
                  have HC13 := Lib.hid (HC1.out.next (below_drewN (Below.refl _ _) nq))
                  have HC23 := Lib.hid (HC2.out.next (below_drewN (Below.refl _ _) nq))
                  go_wp2_with fail
                  go_roundw
                  case rel => exact ⟨i + 1, by omega, by go_num, HB3, HC13, HC23⟩
                  case measure => simp [intOf]; omega
                · have hge : ¬ ((i : Int) < (lh : Int)) := by omega
                  obtain rfl : lh = i := by omega
                  clear hit
                  go_wp2_with fail
                  go_ret
                  exact ⟨rfl, HB.out⟩
end Go.Proofs.YtnipigninbeplaaDoor
