/-
  The walk over the lattice's close.
-/
import Derived.Test.YtnipigninbeplaaDoorPB
import Derived.Test.YtnipigninbeplaaDoorPD
import Derived.BigRegion
import Derived.Lib.SmallJoins
namespace Go.Proofs.YtnipigninbeplaaDoor
open Go.RowKit

theorem made_rep (z : Value) (hz : z.cells = #[z]) (n : Nat) : madeCells z.cells (n * 1) = (List.replicate n z).toArray := by
  refine Array.ext (by simp [madeCells, hz]) fun k h1 h2 => ?_
  simp [madeCells, hz, Nat.mod_one]
theorem make_nils (n : Nat) (hn : n ≤ 12) (w : World) : (Instr.makeSlice 56 (.int .i64 n) (.int .i64 n)).run Tryd.prog w = .ok (.slice (some ⟨w.heap.size, 0, none⟩) n n) (w.alloc (.cells (List.replicate n (Value.slice none 0 0)).toArray 91)) := by
  obtain ⟨i, hi, hz0, hz1, hz2⟩ := info_parts (P := Tryd.prog) (e := 91) (z := .slice none 0 0) (size := 1) (bytes := 24) (by kernel_rfl)
  have h := run_make (P := Tryd.prog) w 56 91 i (.slice none 0 0) Tryd.underlying56 hi hz0 .i64 .i64 (n : Int) (n : Int) (by omega) (by omega) (by rw [hz2]; omega) (by omega)
  rw [h, hz1, Int.toNat_natCast, made_rep _ rfl]
theorem make_bools (n : Nat) (hn : n ≤ 12) (w : World) : (Instr.makeSlice 91 (.int .i64 n) (.int .i64 n)).run Tryd.prog w = .ok (.slice (some ⟨w.heap.size, 0, none⟩) n n) (w.alloc (.cells (List.replicate n (Value.bool false)).toArray 4)) := by
  obtain ⟨i, hi, hz0, hz1, hz2⟩ := info_parts (P := Tryd.prog) (e := 4) (z := .bool false) (size := 1) (bytes := 1) (by kernel_rfl)
  have h := run_make (P := Tryd.prog) w 91 4 i (.bool false) Tryd.underlying91 hi hz0 .i64 .i64 (n : Int) (n : Int) (by omega) (by omega) (by rw [hz2]; omega) (by omega)
  rw [h, hz1, Int.toNat_natCast, made_rep _ rfl]
theorem OOk.fr {S : Nat → Prop} {w W : World} {A : Option Addr} {l c : Nat} {xs : List (Int × Int)} (h : OOk w A l c xs) (hf : Fr S w W) (hs : 0 < l → ∀ a, A = some a → ¬ S a.block) : OOk W A l c xs :=
  ⟨h.len, h.cap, h.big, fun h0 => by
    obtain ⟨g, f, h1, h2, h3⟩ := h.mem h0
    have hg := hs h0 _ h1
    refine ⟨g, f, h1, Nat.lt_of_lt_of_le h2 hf.size, fun j hj => ?_⟩
    obtain ⟨a, b⟩ := h3 j hj
    exact ⟨(hf.cell (p := ⟨g, f + j * 2, none⟩) h2 hg).trans a, (hf.cell (p := ⟨g, f + j * 2 + 1, none⟩) h2 hg).trans b⟩⟩
theorem mset_step' {M : Mx} {m a b : Nat} {x y z : Bool} (hx : mget M a b = x) (hy : mget M a m = y) (hz : mget M m b = z) : mset M a b (x || (y && z)) = stpM M m a b := by
  subst hx; subst hy; subst hz
  exact mset_step M m a b

theorem clo_zero {w : World} {b0 : Nat} {vs : List Value} {n : Nat} {rb : Nat → Nat} (T : TypeId) (hc : Cs w b0 vs) (hl : 2 < vs.length) :
    Clo w b0 vs ((w.setCell ⟨b0, 2, none⟩ (.slice (some ⟨w.heap.size, 0, none⟩) n n)).alloc (.cells (Array.replicate n (Value.slice none 0 0)) T)) w.heap.size n 0 rb (begM n 0) := by
  have h := Clo.zero (n := n) (rb := rb) T hc.lt hc hl
  rw [World.setCell_alloc_past _ _ _ _ hc.lt] at h
  simpa using h
theorem clo_row {w : World} {b0 : Nat} {vs : List Value} {W : World} {q n k : Nat} {rb : Nat → Nat} (T : TypeId) (h : Clo w b0 vs W q n k rb (begM n k)) (hk : k < n) :
    Clo w b0 vs (((W.setCell ⟨q, k, none⟩ (.slice (some ⟨W.heap.size, 0, none⟩) n n)).alloc (.cells ((Array.replicate n (Value.bool false)).setIfInBounds k (.bool true)) T)).drew) q n (k + 1) (fun i => if i = k then W.heap.size else rb i) (begM n (k + 1)) := by
  have h1 := h.row T hk
  rw [World.setCell_alloc_past _ _ _ _ h.mem.out.lt] at h1
  have e : W.heap.size = (W.setCell ⟨q, k, none⟩ (.slice (some ⟨W.heap.size, 0, none⟩) n n)).heap.size := by simp
  rw [World.setCell_alloc_at _ _ _ _ _ e] at h1
  have h2 := h1.next (Below.refl _ _).drew
  simpa using h2

set_option maxRecDepth 100000 in
set_option maxHeartbeats 4000000 in
theorem close_b (n l c : Nat) (hn : n ≤ 12) (An : Option Addr) (cn b0 : Nat) (v1 v2 v3 v4 : Value) (A : Option Addr) (xs : List (Int × Int)) (w : World) (hc : Cs w b0 [.slice An n cn, v1, v2, v3, v4]) (hx : OOk w A l c xs) (hA : 0 < l → ∀ a, A = some a → a.block ≠ b0) (hin : ∀ p ∈ xs, inPb n p = true) :
    Calls Tryd.prog 46 #[.pointer (some ⟨b0, 0, none⟩), .slice A l c] w fun e w' => e = .returned (.tuple #[]) ∧ ∃ (q : Nat) (rb : Nat → Nat), Clo w b0 [.slice An n cn, v1, v2, v3, v4] w' q n n rb (leM n (xs.map natP)) := by
  have hlm : l ≤ 9223372036854775807 := by have := hx.cap; have := hx.big; unfold maxLen at this; omega
  have HC := Lib.hid hc
  have HX := Lib.hid hx
  have HA := Lib.hid hA
  have HIN := Lib.hid hin
  have HL := Lib.hid hx.len
  have hmn := make_nils n hn
  have hmb := make_bools n hn
  have hb := hc.lt
  have c0 := hc.at 0 _ rfl
  have c2 := hc.at 2 _ rfl
  have f2 := hc.free 2
  clear hc hx hA hin
  go_enter Tryd.func46, Tryd.ntmps46
  go_wp2_with fail
  go_loopw [22] (fun v wr => ∃ (a q : Nat) (rb : Nat → Nat), a ≤ n ∧ v = .int .i64 a ∧ Hid (Clo w b0 [.slice An n cn, v1, v2, v3, v4] wr q n a rb (begM n a))) (fun v _ => n - (intOf v).toNat)
  case atStart => exact ⟨0, w.heap.size, fun _ => 0, Nat.zero_le _, rfl, Lib.hid (clo_zero _ HC.out (by simp))⟩
  case round =>
    obtain ⟨a, q, rb, ha, rfl, HQ⟩ := hrel
    clear c0 c2 f2
    have c2 := HQ.out.cs.at 2 (.slice (some ⟨q, 0, none⟩) n n) rfl
    by_cases hlt : a < n
    · have hlt' : (a : Int) < (n : Int) := by omega
      have ha0 : (0 : Int) ≤ (a : Int) := by omega
      have hq := HQ.out.mem.out.lt
      have hbr := HQ.out.cs.lt
      have n0 := HQ.out.mem.nilAt a (by omega) hlt
      have f0 := HQ.out.mem.out.free a
      have hbq : b0 ≠ q := by have := HQ.out.hq; have := HQ.out.lt; omega
      go_wp2_with fail
      go_region
      go_wp2_with fail
      go_roundw
      case rel => exact ⟨a + 1, q, (fun i => if i = a then wr.heap.size else rb i), by omega, by go_num, Lib.hid (clo_row _ HQ.out hlt)⟩
      case measure => simp [intOf]; omega
    · have hge : ¬ ((a : Int) < (n : Int)) := by omega
      obtain rfl : a = n := by omega
      clear hlt
      go_wp2_with fail
      have HQ0 : Hid (Clo w b0 [.slice An a cn, v1, v2, v3, v4] wr q a a rb (pairM (unitM a) ((xs.take 0).map natP))) := by
        have h := HQ.out
        rw [begM_end] at h
        exact h
      clear HQ c2
      rename World => wo
      go_loopw [45] (fun v wr => ∃ j : Nat, j ≤ l ∧ v = .int .i64 j ∧ Hid (Clo w b0 [.slice An a cn, v1, v2, v3, v4] wr q a a rb (pairM (unitM a) ((xs.take j).map natP)))) (fun v _ => l - (intOf v).toNat)
      case atStart => exact ⟨0, Nat.zero_le _, rfl, HQ0⟩
      case round =>
        obtain ⟨j, hj, rfl, HQ⟩ := hrel
        clear HQ0
        by_cases hlt : j < l
        · have hlt' : (j : Int) < (l : Int) := by omega
          have hj0 : (0 : Int) ≤ (j : Int) := by omega
          obtain ⟨x, y, g, f, ht, hAA, hg, k0, k1⟩ := (HX.out.fr HQ.out.fr HA.out).at j hlt
          subst hAA
          have hp := HIN.out (x, y) (List.mem_of_getElem? ht)
          unfold inPb at hp
          simp only [Bool.and_eq_true, decide_eq_true_eq] at hp
          obtain ⟨⟨hx0, hx1⟩, hy0, hy1⟩ := hp
          obtain ⟨X, rfl⟩ : ∃ X : Nat, x = X := ⟨x.toNat, by omega⟩
          obtain ⟨Y, rfl⟩ : ∃ Y : Nat, y = Y := ⟨y.toNat, by omega⟩
          have HT := Lib.hid ht
          clear ht
          have HN := Lib.hid (Cs.new wr #[.int .i64 X, .int .i64 Y] 42)
          have HQ1 := Lib.hid (HQ.out.alloc (.cells #[.int .i64 X, .int .i64 Y] 42))
          go_upto_region 11 with fail
          obtain ⟨w5, hwn⟩ : ∃ w5, wr.alloc (.cells #[.int .i64 X, .int .i64 Y] 42) = w5 := ⟨_, rfl⟩
          obtain ⟨h5, hhn⟩ : ∃ h5, wr.heap.size = h5 := ⟨_, rfl⟩
          rw [hwn] at HN HQ1
          rw [hhn] at HN
          rw [hwn, hhn]
          clear hwn hhn k0 k1 HQ
          have n0 := HN.out.at 0 _ rfl
          have n1 := HN.out.at 1 _ rfl
          have c2 := HQ1.out.cs.at 2 (.slice (some ⟨q, 0, none⟩) a a) rfl
          have hX : X < a := by omega
          have hY : Y < a := by omega
          have r0 := HQ1.out.mem.rowAt X hX
          have r1 := HQ1.out.mem.at X Y hX hY
          have f1 := (HQ1.out.mem.row X hX).free Y
          go_wp2_with fail
          go_region
          go_wp2_with fail
          go_roundw
          case rel =>
            refine ⟨j + 1, by omega, by go_num, Lib.hid ?_⟩
            have h := (HQ1.out.set X Y true hX hY).next (Below.refl _ _).drew
            rw [mset_true] at h
            rw [List.take_add_one, HT.out, Option.toList_some, List.map_append, List.map_cons, List.map_nil, pairM_snoc]
            exact h
          case measure => simp [intOf]; omega
        · have hge : ¬ ((j : Int) < (l : Int)) := by omega
          obtain rfl : j = l := by omega
          clear hlt
          go_wp2_with fail
          obtain ⟨M0, hM0⟩ : ∃ M0, pairM (unitM a) (xs.map natP) = M0 := ⟨_, rfl⟩
          have HQ0 : Hid (Clo w b0 [.slice An a cn, v1, v2, v3, v4] wr q a a rb (closU a M0 0)) := by
            have h := HQ.out
            rw [List.take_of_length_le (by rw [HL.out]; exact Nat.le_refl _), hM0] at h
            exact h
          have HM0 := Lib.hid hM0
          clear HQ hM0
          rename World => wo2
          go_loopw [62] (fun v wr => ∃ m : Nat, m ≤ a ∧ v = .int .i64 m ∧ Hid (Clo w b0 [.slice An a cn, v1, v2, v3, v4] wr q a a rb (closU a M0 m))) (fun v _ => a - (intOf v).toNat)
          case atStart => exact ⟨0, Nat.zero_le _, rfl, HQ0⟩
          case round =>
            obtain ⟨m, hm, rfl, HQ⟩ := hrel
            clear HQ0
            by_cases hmt : m < a
            · have hmt' : (m : Int) < (a : Int) := by omega
              have hm0 : (0 : Int) ≤ (m : Int) := by omega
              have HQ0 : Hid (Clo w b0 [.slice An a cn, v1, v2, v3, v4] wr q a a rb (planeU a m (closU a M0 m) 0)) := HQ
              clear HQ
              go_wp2_with fail
              rename World => wo3
              go_loopw [66] (fun v wr => ∃ i : Nat, i ≤ a ∧ v = .int .i64 i ∧ Hid (Clo w b0 [.slice An a cn, v1, v2, v3, v4] wr q a a rb (planeU a m (closU a M0 m) i))) (fun v _ => a - (intOf v).toNat)
              case atStart => exact ⟨0, Nat.zero_le _, rfl, HQ0⟩
              case round =>
                obtain ⟨i, hi, rfl, HQ⟩ := hrel
                clear HQ0
                by_cases hit : i < a
                · have hit' : (i : Int) < (a : Int) := by omega
                  have hi0 : (0 : Int) ≤ (i : Int) := by omega
                  have HQ0 : Hid (Clo w b0 [.slice An a cn, v1, v2, v3, v4] wr q a a rb (rowU m i (planeU a m (closU a M0 m) i) 0)) := HQ
                  clear HQ
                  go_wp2_with fail
                  rename World => wo4
                  go_loopw [70] (fun v wr => ∃ b : Nat, b ≤ a ∧ v = .int .i64 b ∧ Hid (Clo w b0 [.slice An a cn, v1, v2, v3, v4] wr q a a rb (rowU m i (planeU a m (closU a M0 m) i) b))) (fun v _ => a - (intOf v).toNat)
                  case atStart => exact ⟨0, Nat.zero_le _, rfl, HQ0⟩
                  case round =>
                    obtain ⟨b, hb2, rfl, HQ⟩ := hrel
                    clear HQ0
                    by_cases hbt : b < a
                    · have hbt' : (b : Int) < (a : Int) := by omega
                      have hb0' : (0 : Int) ≤ (b : Int) := by omega
                      obtain ⟨M, hM⟩ : ∃ M, rowU m i (planeU a m (closU a M0 m) i) b = M := ⟨_, rfl⟩
                      rw [hM] at HQ
                      have HM := Lib.hid hM
                      clear hM
                      have c2 := HQ.out.cs.at 2 (.slice (some ⟨q, 0, none⟩) a a) rfl
                      have r0 := HQ.out.mem.rowAt i hit
                      have r1 := HQ.out.mem.rowAt m hmt
                      have k0 := HQ.out.mem.at i b hit hbt
                      have k1 := HQ.out.mem.at i m hit hmt
                      have k2 := HQ.out.mem.at m b hmt hbt
                      have f1 := (HQ.out.mem.row i hit).free b
                      obtain ⟨x, hx⟩ : ∃ x, mget M i b = x := ⟨_, rfl⟩
                      obtain ⟨y, hy⟩ : ∃ y, mget M i m = y := ⟨_, rfl⟩
                      obtain ⟨z, hz⟩ : ∃ z, mget M m b = z := ⟨_, rfl⟩
                      have HS := Lib.hid (mset_step' hx hy hz)
                      rw [hx] at k0; rw [hy] at k1; rw [hz] at k2
                      clear hx hy hz
                      have HEND : ∀ v : Bool, Hid (mset M i b v = stpM M m i b) → Hid (Clo w b0 [.slice An a cn, v1, v2, v3, v4] (wr.setCell ⟨rb i, b, none⟩ (.bool v)) q a a rb (rowU m i (planeU a m (closU a M0 m) i) (b + 1))) := by
                        intro v hv
                        have h := HQ.out.set i b v hit hbt
                        rw [hv.out, ← HM.out] at h
                        exact Lib.hid h
                      cases x with
                      | true =>
                        go_wp2_with fail
                        go_region
                        go_wp2_with fail
                        go_roundw
                        case rel => exact ⟨b + 1, by omega, by go_num, Lib.hid ((HEND true HS).out.next (Below.refl _ _).drew)⟩
                        case measure => simp [intOf]; omega
                      | false =>
                        cases y with
                        | false =>
                          go_wp2_with fail
                          go_region
                          go_wp2_with fail
                          go_roundw
                          case rel => exact ⟨b + 1, by omega, by go_num, Lib.hid ((HEND false HS).out.next (Below.refl _ _).drew)⟩
                          case measure => simp [intOf]; omega
                        | true =>
                          cases z with
                          | false =>
                            go_wp2_with fail
                            go_region
                            go_wp2_with fail
                            go_roundw
                            case rel => exact ⟨b + 1, by omega, by go_num, Lib.hid ((HEND false HS).out.next (Below.refl _ _).drew)⟩
                            case measure => simp [intOf]; omega
                          | true =>
                            go_wp2_with fail
                            go_region
                            go_wp2_with fail
                            go_roundw
                            case rel => exact ⟨b + 1, by omega, by go_num, Lib.hid ((HEND true HS).out.next (Below.refl _ _).drew)⟩
                            case measure => simp [intOf]; omega
                    · have hge : ¬ ((b : Int) < (a : Int)) := by omega
                      obtain rfl : b = a := by omega
                      clear hbt
                      go_wp2_with fail
                      go_roundw
                      case rel => exact ⟨i + 1, by omega, by go_num, HQ⟩
                      case measure => simp [intOf]; omega
                · have hge : ¬ ((i : Int) < (a : Int)) := by omega
                  obtain rfl : i = a := by omega
                  clear hit
                  go_wp2_with fail
                  go_roundw
                  case rel => exact ⟨m + 1, by omega, by go_num, HQ⟩
                  case measure => simp [intOf]; omega
            · have hge : ¬ ((m : Int) < (a : Int)) := by omega
              obtain rfl : m = a := by omega
              clear hmt
              go_wp2_with fail
              go_returns
              refine ⟨rfl, q, rb, ?_⟩
              rw [leM_eq, HM0.out]
              exact HQ.out
end Go.Proofs.YtnipigninbeplaaDoor
