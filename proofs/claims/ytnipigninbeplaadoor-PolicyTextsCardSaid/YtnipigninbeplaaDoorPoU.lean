/-
  The walk over the reference's closed.
-/
import Derived.Test.YtnipigninbeplaaDoorPoS
import Derived.Deep.AppendLies
namespace Go.Proofs.YtnipigninbeplaaDoor
open Go.RowKit

theorem Cs.of_own {W : World} {B : Nat} {E : TypeId} {g n c : Nat} {xs : List Value} (h : W.ownsRow B E 1 (.slice (some ⟨g, 0, none⟩) n c) n xs) : Cs W g xs := by
  have hl := (h.lt g rfl).2
  refine ⟨hl, fun j u hu => ?_, fun j => ?_⟩
  · have hj : j < n * 1 := by
      have h1 := (List.getElem?_eq_some_iff.1 hu).1
      rw [h.1] at h1
      omega
    rw [h.cellAt j hj]
    exact hu
  · rcases h.2 with ⟨hv, _⟩ | ⟨g', cap, cur, hv, _, hg, _⟩
    · cases hv
    · simp only [Value.slice.injEq, Option.some.injEq, Addr.mk.injEq, and_true, true_and] at hv
      obtain ⟨rfl, rfl⟩ := hv
      simp [World.frozen?, hg]
/-- Some rows have been made. -/
structure Rw (w : World) (E : TypeId) (W : World) (a n : Nat) (V : Value) (rb : Nat → Nat) : Prop where
  bel : Below w.heap.size w W
  own : W.ownsRow w.heap.size E 1 V a (rowsV rb a n)
  row : ∀ i, i < a → Cs W (rb i) (((unitM n).getD i []).map Value.bool)
  lo : ∀ i, i < a → w.heap.size ≤ rb i
  ap : ∀ i, i < a → V.ownBlock ≠ some (rb i)
  inj : ∀ i j, i < a → j < a → rb i = rb j → i = j
theorem unit_row (n a : Nat) (h : a < n) : (unitM n).getD a [] = (List.replicate n false).set a true := by
  unfold unitM
  rw [List.getD_eq_getElem?_getD, List.getElem?_map, List.getElem?_range h, Option.map_some, Option.getD_some]
/-- One row more. -/
theorem Rw.step {w W W1 W2 : World} {E T : TypeId} {a n c g1 : Nat} {V : Value} {rb : Nat → Nat} (h : Rw w E W a n V rb) (ha : a < n)
    (h1 : W1 = (W.alloc (.cells ((Array.replicate n (Value.bool false)).setIfInBounds a (.bool true)) T)).alloc (.cells #[.slice (some ⟨W.heap.size, 0, none⟩) n n] E)) (hg : W1.grownBy W2 V.ownBlock)
    (ho : W2.ownsRow w.heap.size E 1 (.slice (some ⟨g1, 0, none⟩) (a + 1) c) (a + 1) (rowsV rb a n ++ [.slice (some ⟨W.heap.size, 0, none⟩) n n])) (hat : V.ownBlock = some g1 ∨ g1 = W1.heap.size) :
    Rw w E W2 (a + 1) n (.slice (some ⟨g1, 0, none⟩) (a + 1) c) (fun i => if i = a then W.heap.size else rb i) := by
  have hs0 := h.bel.size
  have hown : ∀ k, V.ownBlock = some k → w.heap.size ≤ k ∧ k < W.heap.size := fun k hk => h.own.lt k hk
  have hb1 : Below W.heap.size W W1 := by rw [h1]; exact ((Below.refl _ _).alloc (Nat.le_refl _) _).alloc (by simp) _
  have hsz : W1.heap.size = W.heap.size + 2 := by rw [h1]; simp
  have hc1 : Cs W1 W.heap.size (((unitM n).getD a []).map Value.bool) := by
    rw [h1]
    have := (Cs.new W ((Array.replicate n (Value.bool false)).setIfInBounds a (.bool true)) T).alloc (.cells #[.slice (some ⟨W.heap.size, 0, none⟩) n n] E)
    rw [unit_row n a ha, List.map_set, List.map_replicate]
    simpa using this
  have hnot : ∀ x, ¬ (V.ownBlock = some x) → ¬ (V.ownBlock = some x) := fun _ h => h
  have hg1 : ∀ x, x < W.heap.size → V.ownBlock ≠ some x → g1 ≠ x := fun x hx hn e => by
    rcases hat with h2 | h2
    · exact hn (by rw [h2, e])
    · omega
  refine ⟨(h.bel.trans (hb1.mono hs0)).grown hg (by omega) (fun q hq => (hown q hq).1), ?_, fun i hi => ?_, fun i hi => ?_, fun i hi e => ?_, fun i j hi hj e => ?_⟩
  · rw [rowsV_succ]; exact ho
  · by_cases e : i = a
    · subst e
      rw [if_pos rfl]
      exact hc1.fr (Fr.grew hg) (fun hs => by have := (hown _ hs).2; omega)
    · rw [if_neg e]
      exact ((h.row i (by omega)).next hb1).fr (Fr.grew hg) (h.ap i (by omega))
  · by_cases e : i = a
    · simp only [if_pos e]; exact hs0
    · simp only [if_neg e]; exact h.lo i (by omega)
  · by_cases e2 : i = a
    · simp only [if_pos e2, Value.ownBlock, Option.some.injEq] at e
      rcases hat with h2 | h2
      · have := (hown _ h2).2; omega
      · omega
    · simp only [if_neg e2, Value.ownBlock, Option.some.injEq] at e
      exact hg1 (rb i) (h.row i (by omega)).lt (h.ap i (by omega)) e
  · by_cases hia : i = a
    · by_cases hja : j = a
      · omega
      · simp only [if_pos hia, if_neg hja] at e
        have := (h.row j (by omega)).lt
        omega
    · by_cases hja : j = a
      · simp only [if_neg hia, if_pos hja] at e
        have := (h.row i (by omega)).lt
        omega
      · simp only [if_neg hia, if_neg hja] at e
        exact h.inj i j (by omega) (by omega) e
/-- The table, in blocks of the call's own. -/
structure Cl (w W : World) (q n : Nat) (rb : Nat → Nat) (M : Mx) : Prop where
  bel : Below w.heap.size w W
  m : Mem W q n n rb M
  ql : w.heap.size ≤ q
  rl : ∀ i, i < n → w.heap.size ≤ rb i
theorem Cl.next {w W W' : World} {q n : Nat} {rb : Nat → Nat} {M : Mx} (h : Cl w W q n rb M) (hb : Below W.heap.size W W') : Cl w W' q n rb M :=
  ⟨h.bel.trans (hb.mono h.bel.size), h.m.next hb, h.ql, h.rl⟩
theorem Cl.set {w W : World} {q n : Nat} {rb : Nat → Nat} {M : Mx} (h : Cl w W q n rb M) (i j : Nat) (b : Bool) (hi : i < n) (hj : j < n) : Cl w (W.setCell ⟨rb i, j, none⟩ (.bool b)) q n rb (mset M i j b) :=
  ⟨h.bel.setCell (h.rl i hi) _, h.m.set i j b hi hj, h.ql, h.rl⟩
theorem Rw.cl {w W : World} {E : TypeId} {n g c : Nat} {rb : Nat → Nat} (h : Rw w E W n n (.slice (some ⟨g, 0, none⟩) n c) rb) : Cl w W g n rb (unitM n) := by
  refine ⟨h.bel, ⟨unitM_sq n, ?_, h.row, h.inj, fun i hi e => h.ap i hi (by simp [Value.ownBlock, e]), Nat.le_refl _⟩, (h.own.lt g rfl).1, h.lo⟩
  have e : ((List.range n).map fun i => if i < n then Value.slice (some ⟨rb i, 0, none⟩) n n else Value.slice none 0 0) = rowsV rb n n := by
    unfold rowsV
    refine List.map_congr_left fun i hi => ?_
    rw [if_pos (by simpa using hi)]
  rw [e]
  exact Cs.of_own h.own
def ClosRes (w : World) (n : Nat) (M : Mx) (e : Ending) (w' : World) : Prop := ∃ (q cq : Nat) (rb : Nat → Nat), e = .returned (.slice (some ⟨q, 0, none⟩) n cq) ∧ Cl w w' q n rb M
theorem Rw.zero (w : World) (E : TypeId) (n : Nat) : Rw w E (w.alloc (.cells #[] E)) 0 n (.slice (some ⟨w.heap.size, 0, none⟩) 0 0) (fun _ => 0) :=
  ⟨(Below.refl _ _).alloc (Nat.le_refl _) _, World.ownsRow_lit w #[] 0 (Nat.le_refl _) (Nat.zero_le _) rfl, fun i hi => absurd hi (by omega), fun i hi => absurd hi (by omega), fun i hi => absurd hi (by omega), fun i j hi => absurd hi (by omega)⟩

set_option maxRecDepth 100000 in
set_option maxHeartbeats 4000000 in
theorem closed_b (n l c : Nat) (hn : n ≤ 12) (hn1 : 1 ≤ n) (A : Option Addr) (xs : List (Int × Int)) (w : World) (hx : OOk w A l c xs) (hin : ∀ p ∈ xs, inPb n p = true) :
    Calls Tryd.prog 50 #[.int .i64 n, .slice A l c] w fun e w' => ClosRes w n (leM n (xs.map natP)) e w' := by
  have hlm : l ≤ 9223372036854775807 := by have := hx.cap; have := hx.big; unfold maxLen at this; omega
  have HX := Lib.hid hx
  have HIN := Lib.hid hin
  have HL := Lib.hid hx.len
  have hmb := make_bools n hn
  have HR0 := Lib.hid (Rw.zero w 91 n)
  obtain ⟨i0, hi0, hz0, hz1, hz2⟩ := info_parts (P := Tryd.prog) (e := 91) (z := .slice none 0 0) (size := 1) (bytes := 24) (by kernel_rfl)
  have HIX := Lib.hid (And.intro hi0 (And.intro hz0 (And.intro hz1 hz2)))
  clear hx hin hi0 hz0 hz1 hz2
  go_enter Tryd.func50, Tryd.ntmps50
  go_wp2_with fail
  go_loopw [5, 6] (fun u v wr => ∃ (a : Nat) (rb : Nat → Nat), a ≤ n ∧ v = .int .i64 a ∧ Hid (Rw w 91 wr a n u rb)) (fun _ v _ => n - (intOf v).toNat)
  case atStart => exact ⟨0, _, Nat.zero_le _, rfl, HR0⟩
  case round =>
    obtain ⟨a, rb, ha, rfl, HR⟩ := hrel
    clear HR0
    by_cases hlt : a < n
    · have hlt' : (a : Int) < (n : Int) := by omega
      have ha0 : (0 : Int) ≤ (a : Int) := by omega
      have hws := HR.out.bel.size
      go_wp2_with (at_builtin; (refine wpList_append_lies _ rfl _ _ 56 rfl w.heap.size 91 i0 (.slice none 0 0) 1 24 Tryd.underlying56 HIX.out.1 HIX.out.2.1 HIX.out.2.2.1 HIX.out.2.2.2 rfl (by decide) _ a (rowsV rb a n) rfl (own_fr HR.out.own (Fr.of (S := fun _ => False) (((Below.refl _ _).alloc (Nat.le_refl _) _).alloc (by simp) _)) (fun _ _ h => h)) ⟨wr.heap.size + 1, 0, none⟩ 1 1 [.slice (some ⟨wr.heap.size, 0, none⟩) n n] rfl rfl ?q1 ?q2 (by decide) ?q3 ?q4 ?q5 (wr.heap.size + 2) ?q6 ?_))
      case q1 =>
        intro j u hj
        match j, hj with
        | 0, hj => simp at hj; subst hj; simp [Addr.add]
      case q2 => intro u hu; simp at hu; subst hu; rfl
      case q3 => unfold maxLen; omega
      case q4 => omega
      case q5 => simp; omega
      case q6 => simp
      intro g1 c1 w2 hown hgrow hat _
      have HR2 := Lib.hid (HR.out.step (T := 4) hlt rfl hgrow hown (by rcases hat with h | h; exact .inl h; exact .inr (by rw [h]; simp)))
      clear hown hgrow hat
      go_wp2_with fail
      go_roundw
      case rel => exact ⟨a + 1, _, by omega, by go_num, HR2⟩
      case measure => simp [intOf]; omega
    · have hge : ¬ ((a : Int) < (n : Int)) := by omega
      obtain rfl : a = n := by omega
      rcases HR.out.own.2 with ⟨_, hz⟩ | ⟨q, cq, _, hv, _⟩
      · omega
      subst hv
      have HQ0 : Hid (Cl w wr q a rb (pairM (unitM a) ((xs.take 0).map natP))) := Lib.hid HR.out.cl
      clear HR hlt hmb
      go_wp2_with fail
      rename World => wo
      go_loopw [8] (fun v wr => ∃ j : Nat, j ≤ l ∧ v = .int .i64 j ∧ Hid (Cl w wr q a rb (pairM (unitM a) ((xs.take j).map natP)))) (fun v _ => l - (intOf v).toNat)
      case atStart => exact ⟨0, Nat.zero_le _, rfl, HQ0⟩
      case round =>
        obtain ⟨j, hj, rfl, HQ⟩ := hrel
        clear HQ0
        by_cases hlt : j < l
        · have hlt' : (j : Int) < (l : Int) := by omega
          have hj0 : (0 : Int) ≤ (j : Int) := by omega
          obtain ⟨x, y, g, f, ht, hAA, hg, k0, k1⟩ := (HX.out.below HQ.out.bel).at j hlt
          subst hAA
          have hp := HIN.out (x, y) (List.mem_of_getElem? ht)
          unfold inPb at hp
          simp only [Bool.and_eq_true, decide_eq_true_eq] at hp
          obtain ⟨⟨hx0, hx1⟩, hy0, hy1⟩ := hp
          obtain ⟨X, rfl⟩ : ∃ X : Nat, x = X := ⟨x.toNat, by omega⟩
          obtain ⟨Y, rfl⟩ : ∃ Y : Nat, y = Y := ⟨y.toNat, by omega⟩
          have HT := Lib.hid ht
          clear ht
          have hX : X < a := by omega
          have hY : Y < a := by omega
          have r0 := HQ.out.m.rowAt X hX
          have r1 := HQ.out.m.at X Y hX hY
          have f1 := (HQ.out.m.row X hX).free Y
          go_wp2_with fail
          go_region
          go_wp2_with fail
          go_roundw
          case rel =>
            refine ⟨j + 1, by omega, by go_num, Lib.hid ?_⟩
            have h := (HQ.out.set X Y true hX hY).next (Below.refl _ _).drew
            rw [mset_true] at h
            rw [List.take_add_one, HT.out, Option.toList_some, List.map_append, List.map_cons, List.map_nil, pairM_snoc]
            exact h
          case measure => simp [intOf]; omega
        · have hge : ¬ ((j : Int) < (l : Int)) := by omega
          obtain rfl : j = l := by omega
          clear hlt
          go_wp2_with fail
          obtain ⟨M0, hM0⟩ : ∃ M0, pairM (unitM a) (xs.map natP) = M0 := ⟨_, rfl⟩
          have HQ0 : Hid (Cl w wr q a rb (closU a M0 0)) := by
            have h := HQ.out
            rw [List.take_of_length_le (by rw [HL.out]; exact Nat.le_refl _), hM0] at h
            exact Lib.hid h
          have HM0 := Lib.hid hM0
          clear HQ hM0
          rename World => wo2
          go_loopw [9] (fun v wr => ∃ m : Nat, m ≤ a ∧ v = .int .i64 m ∧ Hid (Cl w wr q a rb (closU a M0 m))) (fun v _ => a - (intOf v).toNat)
          case atStart => exact ⟨0, Nat.zero_le _, rfl, HQ0⟩
          case round =>
            obtain ⟨m, hm, rfl, HQ⟩ := hrel
            clear HQ0
            by_cases hmt : m < a
            · have hmt' : (m : Int) < (a : Int) := by omega
              have hm0 : (0 : Int) ≤ (m : Int) := by omega
              have HQ0 : Hid (Cl w wr q a rb (planeU a m (closU a M0 m) 0)) := HQ
              clear HQ
              go_wp2_with fail
              rename World => wo3
              go_loopw [10] (fun v wr => ∃ i : Nat, i ≤ a ∧ v = .int .i64 i ∧ Hid (Cl w wr q a rb (planeU a m (closU a M0 m) i))) (fun v _ => a - (intOf v).toNat)
              case atStart => exact ⟨0, Nat.zero_le _, rfl, HQ0⟩
              case round =>
                obtain ⟨i, hi, rfl, HQ⟩ := hrel
                clear HQ0
                by_cases hit : i < a
                · have hit' : (i : Int) < (a : Int) := by omega
                  have hi0 : (0 : Int) ≤ (i : Int) := by omega
                  have HQ0 : Hid (Cl w wr q a rb (rowU m i (planeU a m (closU a M0 m) i) 0)) := HQ
                  clear HQ
                  go_wp2_with fail
                  rename World => wo4
                  go_loopw [11] (fun v wr => ∃ b : Nat, b ≤ a ∧ v = .int .i64 b ∧ Hid (Cl w wr q a rb (rowU m i (planeU a m (closU a M0 m) i) b))) (fun v _ => a - (intOf v).toNat)
                  case atStart => exact ⟨0, Nat.zero_le _, rfl, HQ0⟩
                  case round =>
                    obtain ⟨b, hb2, rfl, HQ⟩ := hrel
                    clear HQ0
                    by_cases hbt : b < a
                    · have hbt' : (b : Int) < (a : Int) := by omega
                      have hb0' : (0 : Int) ≤ (b : Int) := by omega
                      obtain ⟨M, hM⟩ : ∃ M, rowU m i (planeU a m (closU a M0 m) i) b = M := ⟨_, rfl⟩
                      rw [hM] at HQ
                      have HS : Hid (rowU m i (planeU a m (closU a M0 m) i) (b + 1) = stpM M m i b) := Lib.hid (by rw [← hM]; rfl)
                      clear hM
                      have r0 := HQ.out.m.rowAt i hit
                      have r1 := HQ.out.m.rowAt m hmt
                      have k0 := HQ.out.m.at i b hit hbt
                      have k1 := HQ.out.m.at i m hit hmt
                      have k2 := HQ.out.m.at m b hmt hbt
                      have f1 := (HQ.out.m.row i hit).free b
                      obtain ⟨y, hy⟩ : ∃ y, mget M i m = y := ⟨_, rfl⟩
                      obtain ⟨z, hz⟩ : ∃ z, mget M m b = z := ⟨_, rfl⟩
                      have HS2 : Hid (stpM M m i b = if y && z then mput M i b else M) := Lib.hid (by unfold stpM; rw [hy, hz])
                      rw [hy] at k1
                      rw [hz] at k2
                      clear hy hz
                      cases y with
                      | false =>
                        have HQ2 : Hid (Cl w wr q a rb (rowU m i (planeU a m (closU a M0 m) i) (b + 1))) := Lib.hid (by rw [HS.out, HS2.out]; exact HQ.out)
                        clear HQ
                        go_wp2_with fail
                        go_roundw
                        case rel => exact ⟨b + 1, by omega, by go_num, HQ2⟩
                        case measure => simp [intOf]; omega
                      | true =>
                        cases z with
                        | false =>
                          have HQ2 : Hid (Cl w wr q a rb (rowU m i (planeU a m (closU a M0 m) i) (b + 1))) := Lib.hid (by rw [HS.out, HS2.out]; exact HQ.out)
                          clear HQ
                          go_wp2_with fail
                          go_roundw
                          case rel => exact ⟨b + 1, by omega, by go_num, HQ2⟩
                          case measure => simp [intOf]; omega
                        | true =>
                          have HQ2 : Hid (Cl w (wr.setCell ⟨rb i, b, none⟩ (.bool true)) q a rb (rowU m i (planeU a m (closU a M0 m) i) (b + 1))) := Lib.hid (by rw [HS.out, HS2.out]; exact HQ.out.set i b true hit hbt)
                          clear HQ
                          go_wp2_with fail
                          go_roundw
                          case rel => exact ⟨b + 1, by omega, by go_num, HQ2⟩
                          case measure => simp [intOf]; omega
                    · have hge : ¬ ((b : Int) < (a : Int)) := by omega
                      obtain rfl : b = a := by omega
                      clear hbt
                      go_wp2_with fail
                      go_roundw
                      case rel => exact ⟨i + 1, by omega, by go_num, HQ⟩
                      case measure => simp [intOf]; omega
                · have hge : ¬ ((i : Int) < (a : Int)) := by omega
                  obtain rfl : i = a := by omega
                  clear hit
                  go_wp2_with fail
                  go_roundw
                  case rel => exact ⟨m + 1, by omega, by go_num, HQ⟩
                  case measure => simp [intOf]; omega
            · have hge : ¬ ((m : Int) < (a : Int)) := by omega
              obtain rfl : m = a := by omega
              clear hmt
              go_wp2_with fail
              go_ret
              refine ⟨q, cq, rb, rfl, ?_⟩
              rw [leM_eq, HM0.out]
              exact HQ.out
end Go.Proofs.YtnipigninbeplaaDoor
