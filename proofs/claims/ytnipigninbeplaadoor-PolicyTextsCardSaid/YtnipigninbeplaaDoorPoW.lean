/-
  The walk over the reference's New.
-/
import Derived.Test.YtnipigninbeplaaDoorPoV
import Derived.Test.YtnipigninbeplaaDoorPoT
import Derived.BigQuiet
namespace Go.Proofs.YtnipigninbeplaaDoor
open Go.RowKit

theorem namong_hit {xs : List ByteArray} {i j : Nat} {s t : ByteArray} (h : xs[j]? = some t) (hj : j < i) (ht : (t.toList == s.toList) = true) : amongB (xs.take i) s = true := by
  unfold amongB
  rw [List.any_eq_true]
  exact ⟨t, List.mem_of_getElem? (i := j) (by rw [List.getElem?_take, if_pos hj]; exact h), ht⟩
theorem namong_none {xs : List ByteArray} {i : Nat} {s : ByteArray} (h : ∀ (j : Nat) (u : ByteArray), xs[j]? = some u → j < i → (u.toList == s.toList) = false) : amongB (xs.take i) s = false := by
  unfold amongB
  rw [List.any_eq_false]
  intro t ht
  obtain ⟨j, hj⟩ := List.mem_iff_getElem?.1 ht
  rw [List.getElem?_take] at hj
  by_cases e : j < i
  · rw [if_pos e] at hj; rw [h j t hj e]; simp
  · rw [if_neg e] at hj; cases hj
/-- What the reference's New hands back. -/
def RNewRes (w : World) (n : Nat) (M : Mx) (r : Int) (e : Ending) (w' : World) : Prop :=
  ∃ (A1 : Option Addr) (l1 c1 : Nat) (A2 : Option Addr) (l2 c2 : Nat), e = .returned (.tuple #[.agg #[.slice A1 l1 c1, .slice A2 l2 c2], .int .i64 r]) ∧ Below w.heap.size w w' ∧
    (r = 0 → l1 = n ∧ l2 = n ∧ ∃ (q : Nat) (rb : Nat → Nat), A2 = some ⟨q, 0, none⟩ ∧ Mem w' q n n rb M)
theorem rres_no {w w' : World} {n : Nat} {M : Mx} {r : Int} (hb : Below w.heap.size w w') (hr : r ≠ 0) : RNewRes w n M r (.returned (.tuple #[.agg #[.slice none 0 0, .slice none 0 0], .int .i64 r])) w' :=
  ⟨none, 0, 0, none, 0, 0, rfl, hb, fun h => absurd h hr⟩
theorem two_cells {W : World} {b : Nat} {a0 a1 : Value} (h : Cs W b [a0, a1]) (v0 v1 : Value) :
    (W.setCell ⟨b, 0, none⟩ v0).cell? ⟨b, 0, none⟩ = some v0 ∧ ((W.setCell ⟨b, 0, none⟩ v0).setCell ⟨b, 1, none⟩ v1).cell? ⟨b, 1, none⟩ = some v1 :=
  ⟨World.cell?_setCell_same W _ v0 (h.at 0 _ rfl), World.cell?_setCell_same _ _ v1 ((h.set 0 v0 (by simp)).at 1 _ rfl)⟩
/-- The call's own world: the result's block is still empty. -/
structure Rs (w W : World) (p : Nat) : Prop where
  bel : Below w.heap.size w W
  cs : Cs W p [.slice none 0 0, .slice none 0 0]
  lo : w.heap.size ≤ p
theorem Rs.next {w W W' : World} {p : Nat} (h : Rs w W p) (hb : Below W.heap.size W W') : Rs w W' p := ⟨h.bel.trans (hb.mono h.bel.size), h.cs.next hb, h.lo⟩
theorem Rs.bad {w W : World} {p : Nat} (h : Rs w W p) (v0 v1 : Value) : Below w.heap.size w ((W.setCell ⟨p, 0, none⟩ v0).setCell ⟨p, 1, none⟩ v1) := (h.bel.setCell h.lo _).setCell h.lo _
/-- No knot among the first a levels and any. -/
def NoK2 (n : Nat) (M : Mx) (a : Nat) : Prop := ∀ x y, x < a → y < n → x ≠ y → ¬ (mget M x y = true ∧ mget M y x = true)

set_option maxRecDepth 100000 in
set_option maxHeartbeats 8000000 in
theorem rnew_b (xs : List ByteArray) (o : List (Int × Int)) (An : Option Addr) (l cn : Nat) (Ao : Option Addr) (lo co : Nat) (r : Int) (H : Hid (newC xs o = r)) (w : World) (hx : NOk w An l cn xs) (ho : OOk w Ao lo co o) :
    Calls Tryd.prog 25 #[.slice An l cn, .slice Ao lo co] w fun e w' => RNewRes w xs.length (lePo xs o) r e w' := by
  have hlm : l ≤ 9223372036854775807 := by have := hx.cap; have := hx.big; unfold maxLen at this; omega
  have hlo : lo ≤ 9223372036854775807 := by have := ho.cap; have := ho.big; unfold maxLen at this; omega
  have HX := Lib.hid hx
  have HO := Lib.hid ho
  have HL := Lib.hid hx.len
  have HLO := Lib.hid ho.len
  have HRS0 : Hid (Rs w (w.alloc (.cells #[.slice none 0 0, .slice none 0 0] 58)) w.heap.size) := Lib.hid ⟨(Below.refl _ _).alloc (Nat.le_refl _) _, Cs.new w _ _, Nat.le_refl _⟩
  clear hx ho
  go_enter Tryd.func25, Tryd.ntmps25
  go_upto_region 1 with fail
  obtain ⟨w1, hw1⟩ : ∃ z, w.alloc (.cells #[.slice none 0 0, .slice none 0 0] 58) = z := ⟨_, rfl⟩
  obtain ⟨p, hp⟩ : ∃ z, w.heap.size = z := ⟨_, rfl⟩
  rw [hw1, hp] at HRS0
  rw [hw1, hp]
  have HRS := HRS0
  clear hw1 HRS0 hp
  have c0 := HRS.out.cs.at 0 _ rfl
  have c1 := HRS.out.cs.at 1 _ rfl
  have f0 := HRS.out.cs.free 0
  have f1 := HRS.out.cs.free 1
  by_cases h0 : l = 0 ∨ 12 < l
  · have hr : r = 4 := by rw [← H.out]; exact newC_4 (by rw [HL.out]; exact h0)
    subst hr
    clear H
    rcases h0 with h0 | h0
    · have h1 : (l : Int) < 1 := by omega
      clear h0
      go_wp2_with fail
      obtain ⟨k0, k1⟩ := two_cells HRS.out.cs (.slice none 0 0) (.slice none 0 0)
      refine bodyPost_ret (v := .tuple #[.agg #[.slice none 0 0, .slice none 0 0], .int .i64 4]) (by simp [results, Tryd.results25, go_sem, k0, k1]) rfl ?_
      exact rres_no (HRS.out.bad _ _) (by decide)
    · have h1 : ¬ (l : Int) < 1 := by omega
      have h2 : (12 : Int) < (l : Int) := by omega
      clear h0
      go_wp2_with fail
      obtain ⟨k0, k1⟩ := two_cells HRS.out.cs (.slice none 0 0) (.slice none 0 0)
      refine bodyPost_ret (v := .tuple #[.agg #[.slice none 0 0, .slice none 0 0], .int .i64 4]) (by simp [results, Tryd.results25, go_sem, k0, k1]) rfl ?_
      exact rres_no (HRS.out.bad _ _) (by decide)
  have hl12 : l ≤ 12 := by omega
  have hl1 : 1 ≤ l := by omega
  have HN : Hid (¬ (xs.length = 0 ∨ 12 < xs.length)) := Lib.hid (by rw [HL.out]; omega)
  have hl2 : ¬ (l : Int) < 1 := by omega
  have hl3 : ¬ (12 : Int) < (l : Int) := by omega
  obtain ⟨nc, hnc⟩ : ∃ nc, namesC [] xs = nc := ⟨_, rfl⟩
  have HNC := Lib.hid hnc
  have HNC0 : Hid (namesC (xs.take 0) (xs.drop 0) = nc) := HNC
  obtain ⟨i0, hi0, hz0, hz1, hz2⟩ := info_parts (P := Tryd.prog) (e := 9) (z := .string ⟨#[]⟩) (size := 1) (bytes := 16) (by kernel_rfl)
  have HIN := Lib.hid (And.intro hi0 (And.intro hz0 (And.intro hz1 hz2)))
  clear hnc h0 hi0 hz0 hz1 hz2 c0 c1 f0 f1
  go_wp2_with fail
  go_loopw [7] (fun v wr => ∃ i : Nat, i ≤ l ∧ v = .int .i64 i ∧ Hid (namesC (xs.take i) (xs.drop i) = nc) ∧ Hid (Rs w wr p)) (fun v _ => l - (intOf v).toNat)
  case atStart => exact ⟨0, Nat.zero_le _, rfl, HNC0, HRS⟩
  case round =>
    obtain ⟨i, hi, rfl, HC, HR⟩ := hrel
    clear HRS HNC0
    by_cases hlt : i < l
    · have hlt' : (i : Int) < (l : Int) := by omega
      have hi0' : (0 : Int) ≤ (i : Int) := by omega
      obtain ⟨s, g, f, ht, hs, hA, hg, k0⟩ := (HX.out.below HR.out.bel).at i hlt
      subst hA
      have HAT := Lib.hid (namesC_at ht)
      have HT := Lib.hid ht
      obtain ⟨b1, hb1⟩ : ∃ z, lnameB s = z := ⟨_, rfl⟩
      have HN1 := Lib.hid hb1
      clear hb1 ht
      go_wp2_with fail
      go_at_call 49
      refine (lrIsName_b s b1 HN1 hs _).mono ?_
      rintro e wy ⟨rfl, rfl⟩
      cases b1 with
      | false =>
        have hn7 : nc = 7 := by rw [← HC.out, HAT.out, if_pos HN1.out]
        subst hn7
        have hr : r = 7 := by rw [← H.out, newC_n HN.out (by rw [HNC.out]; decide), HNC.out]
        subst hr
        have c0 := HR.out.cs.at 0 _ rfl
        have c1 := HR.out.cs.at 1 _ rfl
        have f0 := HR.out.cs.free 0
        have f1 := HR.out.cs.free 1
        clear H HC HAT HNC HN k0
        go_wp2_with fail
        obtain ⟨k0, k1⟩ := two_cells HR.out.cs (.slice none 0 0) (.slice none 0 0)
        refine bodyPost_ret (v := .tuple #[.agg #[.slice none 0 0, .slice none 0 0], .int .i64 7]) (by simp [results, Tryd.results25, go_sem, k0, k1]) rfl ?_
        exact rres_no (HR.out.bad _ _) (by decide)
      | true =>
        go_upto_region 10 with fail
        rename World => wo
        have HR5 := HR
        clear HR k0
        go_loopw [8] (fun v wq => ∃ j : Nat, j ≤ i ∧ v = .int .i64 j ∧ Hid (∀ (k : Nat) (u : ByteArray), xs[k]? = some u → k < j → (u.toList == s.toList) = false) ∧ Hid (Rs w wq p)) (fun v _ => i - (intOf v).toNat)
        case atStart => exact ⟨0, by omega, rfl, fun k _ _ h => absurd h (by omega), HR5⟩
        case round =>
          clear HR5
          obtain ⟨j, hj, rfl, HD, HR⟩ := hrel
          by_cases hjt : j < i
          · have hjt' : (j : Int) < (i : Int) := by omega
            have hjl : (j : Int) < (l : Int) := by omega
            have hj0 : (0 : Int) ≤ (j : Int) := by omega
            obtain ⟨s1, g1, f1, ht1, hs1, hA1, hg1, k0⟩ := (HX.out.below HR.out.bel).at j (by omega)
            injection hA1 with hA1
            injection hA1 with e1 e2
            subst e1 e2
            obtain ⟨s2, g2, f2, ht2, hs2, hA2, hg2, m0⟩ := (HX.out.below HR.out.bel).at i hlt
            injection hA2 with hA2
            injection hA2 with e1 e2
            subst e1 e2
            rw [HT.out] at ht2
            cases ht2
            have HT1 := Lib.hid ht1
            clear ht1 hs1 hs2
            cases hst : (s1.toList == s.toList)
            · have HST : Hid ((s1.toList == s.toList) = false) := hst
              go_upto_region 12 with fail
              go_quiet (fail)
              clear k0 m0 hst
              go_wp2_with fail
              go_roundw
              case rel =>
                refine ⟨j + 1, by omega, by go_num, fun k u hu hk' => ?_, Lib.hid (HR.out.next (below_drewN (Below.refl _ _) _))⟩
                by_cases e : k = j
                · subst e
                  rw [HT1.out] at hu
                  cases hu
                  exact HST.out
                · exact HD.out k u hu (by omega)
              case measure => simp [intOf]; omega
            · have HAM := Lib.hid (namong_hit HT1.out hjt hst)
              go_upto_region 12 with fail
              go_quiet (fail)
              clear k0 m0 hst
              have hn8 : nc = 8 := by rw [← HC.out, HAT.out, if_neg (by rw [HN1.out]; decide), if_pos HAM.out]
              subst hn8
              have hr : r = 8 := by rw [← H.out, newC_n HN.out (by rw [HNC.out]; decide), HNC.out]
              subst hr
              have c0 := HR.out.cs.at 0 _ rfl
              have c1 := HR.out.cs.at 1 _ rfl
              have f0 := HR.out.cs.free 0
              have f1 := HR.out.cs.free 1
              clear H HC HAT HNC HN HD
              go_wp2_with fail
              obtain ⟨k0, k1⟩ := two_cells (HR.out.next (below_drewN (Below.refl _ _) nq)).cs (.slice none 0 0) (.slice none 0 0)
              refine bodyPost_ret (v := .tuple #[.agg #[.slice none 0 0, .slice none 0 0], .int .i64 8]) (by simp [results, Tryd.results25, go_sem, k0, k1]) rfl ?_
              exact rres_no ((HR.out.next (below_drewN (Below.refl _ _) nq)).bad _ _) (by decide)
          · have HAM := Lib.hid (namong_none (xs := xs) (i := i) (s := s) fun k u hu hk => HD.out k u hu (by omega))
            have HC2 : Hid (namesC (xs.take (i + 1)) (xs.drop (i + 1)) = nc) := by
              have h := HC.out
              rw [HAT.out, if_neg (show ¬ lnameB s = false by rw [HN1.out]; decide), if_neg (show ¬ amongB (xs.take i) s = true by rw [HAM.out]; decide)] at h
              exact Lib.hid h
            have hge : ¬ ((j : Int) < (i : Int)) := by omega
            clear HC HAT HD
            go_wp2_with fail
            go_roundw
            case rel => exact ⟨i + 1, by omega, by go_num, HC2, HR⟩
            case measure => simp [intOf]; omega
    · have hge : ¬ ((i : Int) < (l : Int)) := by omega
      obtain rfl : i = l := by omega
      have hn0 : nc = 0 := by rw [← HC.out]; exact namesC_end xs (by rw [HL.out]; exact Nat.le_refl _) _
      subst hn0
      clear HC hlt
      rename World => wo
      go_wp2_with fail
      go_loopw [9] (fun v wr => ∃ j : Nat, j ≤ lo ∧ v = .int .i64 j ∧ Hid (∀ q ∈ o.take j, inPb i q = true) ∧ Hid (Rs w wr p)) (fun v _ => lo - (intOf v).toNat)
      case atStart => exact ⟨0, Nat.zero_le _, rfl, Lib.hid (fun q hq => by simp at hq), HR⟩
      case round =>
        obtain ⟨j, hj, rfl, HA, HS⟩ := hrel
        clear HR
        by_cases hjt : j < lo
        · have hjt' : (j : Int) < (lo : Int) := by omega
          have hj0 : (0 : Int) ≤ (j : Int) := by omega
          obtain ⟨x, y, g, f, ht, hAA, hg, k0, k1⟩ := (HO.out.below HS.out.bel).at j hjt
          subst hAA
          have HT := Lib.hid ht
          have hbad : (levB i x && levB i y) = false → r = 3 := fun h => by
            rw [← H.out]
            refine newC_3 HN.out HNC.out ?_
            rw [List.all_eq_false]
            refine ⟨(x, y), List.mem_of_getElem? ht, ?_⟩
            rw [inPb_lev, HL.out, h]
            decide
          have HBAD := Lib.hid hbad
          clear ht hbad
          have c0 := HS.out.cs.at 0 _ rfl
          have c1 := HS.out.cs.at 1 _ rfl
          have f0 := HS.out.cs.free 0
          have f1 := HS.out.cs.free 1
          rename World => wo2
          go_wp2_with fail
          go_loopw [10] (fun v wr => ∃ t : Nat, t ≤ 2 ∧ v = .int .i64 t ∧ wr = wo2 ∧ Hid ((0 < t → 0 ≤ x ∧ x < (i : Int)) ∧ (1 < t → 0 ≤ y ∧ y < (i : Int)))) (fun v _ => 2 - (intOf v).toNat)
          case atStart => exact ⟨0, by omega, rfl, rfl, Lib.hid ⟨fun h => absurd h (by omega), fun h => absurd h (by omega)⟩⟩
          case round =>
            obtain ⟨t, ht, rfl, hwr, HTT⟩ := hrel
            subst hwr
            rename World => wo2
            by_cases ht0 : t = 0
            · subst ht0
              by_cases hv0 : x < 0
              · obtain rfl := HBAD.out (by unfold levB; rw [decide_eq_false (by omega)]; rfl)
                clear H HBAD HTT
                go_wp2_with fail
                obtain ⟨k0, k1⟩ := two_cells HS.out.cs (.slice none 0 0) (.slice none 0 0)
                refine bodyPost_ret (v := .tuple #[.agg #[.slice none 0 0, .slice none 0 0], .int .i64 3]) (by simp [results, Tryd.results25, go_sem, k0, k1]) rfl ?_
                exact rres_no (HS.out.bad _ _) (by decide)
              by_cases hv1 : (i : Int) ≤ x
              · obtain rfl := HBAD.out (by unfold levB; rw [decide_eq_false (p := x < _) (by omega), Bool.and_false]; rfl)
                clear H HBAD HTT
                go_wp2_with fail
                obtain ⟨k0, k1⟩ := two_cells HS.out.cs (.slice none 0 0) (.slice none 0 0)
                refine bodyPost_ret (v := .tuple #[.agg #[.slice none 0 0, .slice none 0 0], .int .i64 3]) (by simp [results, Tryd.results25, go_sem, k0, k1]) rfl ?_
                exact rres_no (HS.out.bad _ _) (by decide)
              have HT2 : Hid ((0 < 1 → 0 ≤ x ∧ x < (i : Int)) ∧ (1 < 1 → 0 ≤ y ∧ y < (i : Int))) := Lib.hid ⟨fun _ => ⟨by omega, by omega⟩, fun h => absurd h (by omega)⟩
              clear HTT
              go_wp2_with fail
              go_roundw
              case rel => exact ⟨1, by omega, by go_num, trivial, HT2⟩
              case measure => simp [intOf]
            · by_cases ht1 : t = 1
              · subst ht1
                by_cases hv0 : y < 0
                · obtain rfl := HBAD.out (by unfold levB; rw [decide_eq_false (p := 0 ≤ y) (by omega)]; simp)
                  clear H HBAD HTT
                  go_wp2_with fail
                  obtain ⟨k0, k1⟩ := two_cells HS.out.cs (.slice none 0 0) (.slice none 0 0)
                  refine bodyPost_ret (v := .tuple #[.agg #[.slice none 0 0, .slice none 0 0], .int .i64 3]) (by simp [results, Tryd.results25, go_sem, k0, k1]) rfl ?_
                  exact rres_no (HS.out.bad _ _) (by decide)
                by_cases hv1 : (i : Int) ≤ y
                · obtain rfl := HBAD.out (by unfold levB; rw [decide_eq_false (p := y < _) (by omega)]; simp)
                  clear H HBAD HTT
                  go_wp2_with fail
                  obtain ⟨k0, k1⟩ := two_cells HS.out.cs (.slice none 0 0) (.slice none 0 0)
                  refine bodyPost_ret (v := .tuple #[.agg #[.slice none 0 0, .slice none 0 0], .int .i64 3]) (by simp [results, Tryd.results25, go_sem, k0, k1]) rfl ?_
                  exact rres_no (HS.out.bad _ _) (by decide)
                have HT2 : Hid ((0 < 2 → 0 ≤ x ∧ x < (i : Int)) ∧ (1 < 2 → 0 ≤ y ∧ y < (i : Int))) := Lib.hid ⟨fun _ => HTT.out.1 (by omega), fun _ => ⟨by omega, by omega⟩⟩
                clear HTT
                go_wp2_with fail
                go_roundw
                case rel => exact ⟨2, by omega, by go_num, trivial, HT2⟩
                case measure => simp [intOf]
              · obtain rfl : t = 2 := by omega
                have HA2 : Hid (∀ q ∈ o.take (j + 1), inPb i q = true) := by
                  refine Lib.hid fun q hq => ?_
                  rw [List.take_add_one, HT.out, Option.toList_some, List.mem_append, List.mem_singleton] at hq
                  rcases hq with hq | rfl
                  · exact HA.out q hq
                  · have h1 := HTT.out.1 (by omega)
                    have h2 := HTT.out.2 (by omega)
                    unfold inPb
                    simp only [decide_eq_true h1.1, decide_eq_true h1.2, decide_eq_true h2.1, decide_eq_true h2.2]
                    rfl
                clear HA HTT HBAD
                go_wp2_with fail
                go_roundw
                case rel => exact ⟨j + 1, by omega, by go_num, HA2, HS⟩
                case measure => simp [intOf]; omega
        · have hge2 : ¬ ((j : Int) < (lo : Int)) := by omega
          obtain rfl : j = lo := by omega
          have hall : ∀ q ∈ o, inPb i q = true := by
            have h := HA.out
            rw [List.take_of_length_le (by rw [HLO.out]; exact Nat.le_refl _)] at h
            exact h
          have HALL := Lib.hid hall
          have HAL2 : Hid ((o.all (inPb xs.length)) = true) := Lib.hid (by rw [HL.out, List.all_eq_true]; exact hall)
          clear HA hjt hall
          obtain ⟨M, hM⟩ : ∃ M, lePo xs o = M := ⟨_, rfl⟩
          have HM := Lib.hid hM
          have HMC : Hid (leM i (o.map natP) = M) := Lib.hid (by rw [← hM]; unfold lePo; rw [HL.out])
          clear hM
          rename World => wo2
          obtain ⟨gn, fn, hAn, hgn, hcn⟩ := HX.out.mem (by omega)
          subst hAn
          have HCN : Hid (∀ (k : Nat) (u : Value), (svals xs)[k]? = some u → (wo2.alloc (.cells #[] 9)).cell? ((⟨gn, fn, none⟩ : Addr).add k) = some u) := by
            refine Lib.hid fun k u hu => ?_
            unfold svals at hu
            rw [List.getElem?_map, Option.map_eq_some_iff] at hu
            obtain ⟨x, hx, rfl⟩ := hu
            obtain ⟨hk, rfl⟩ := List.getElem?_eq_some_iff.1 hx
            have hb := (HS.out.bel.alloc HS.out.bel.size (.cells #[] 9)).cell (p := ⟨gn, fn + k, none⟩) hgn
            have ea : ((⟨gn, fn, none⟩ : Addr).add k) = ⟨gn, fn + k, none⟩ := by
              simp only [Addr.add]
              split
              · rename_i h; rw [h]; rfl
              · rfl
            rw [ea]
            exact hb.trans (hcn k hk)
          have HSV : Hid ((svals xs).length = i * 1) := Lib.hid (by unfold svals; rw [List.length_map, HL.out, Nat.mul_one])
          clear hgn hcn
          go_upto_region 23 with (first | (at_builtin; (refine wpList_append_own _ rfl _ _ 22 rfl wo2.heap.size 9 i0 (.string ⟨#[]⟩) 1 16 Tryd.underlying22 HIN.out.1 HIN.out.2.1 HIN.out.2.2.1 HIN.out.2.2.2 rfl (by decide) _ 0 [] rfl (World.ownsRow_lit wo2 #[] 0 (Nat.le_refl _) (Nat.zero_le _) rfl) ⟨gn, fn, none⟩ i cn (svals xs) rfl HSV.out HCN.out ?q2 ?q3 ?q4 ?q5 ?_)) | fail)
          case q2 =>
            intro u hu
            unfold svals at hu
            rw [List.mem_map] at hu
            obtain ⟨x, _, rfl⟩ := hu
            rfl
          case q3 => unfold maxLen; omega
          case q4 => omega
          intro V3 w3 hown3 hgrow3 _
          rcases hown3.2 with ⟨_, hz⟩ | ⟨g3, c3, _, e3, _⟩
          · omega
          subst e3
          have HS3 : Hid (Rs w w3 p) := Lib.hid (HS.out.next (((Below.refl _ _).alloc (Nat.le_refl _) _).grown hgrow3 (by simp) (fun q hq => by simp [Value.ownBlock] at hq; omega)))
          clear hown3 hgrow3 HCN HSV
          go_upto_region 23 with (first | (go_at_call 50; refine (closed_b i j co hl12 hl1 Ao o _ (HO.out.below HS3.out.bel) HALL.out).mono ?_; rintro e w4 ⟨q, cq, rb, rfl, hcl⟩) | fail)
          rw [HMC.out] at hcl
          have HS4 : Hid (Rs w w4 p) := Lib.hid (HS3.out.next hcl.bel)
          have HM4 := Lib.hid hcl.m
          have HPQ : Hid (p ≠ q ∧ ∀ x, x < i → p ≠ rb x) := Lib.hid (by
            have hlt := HS3.out.cs.lt
            have := hcl.ql
            exact ⟨by omega, fun x hx => by have := hcl.rl x hx; omega⟩)
          clear hcl
          obtain ⟨w5, hw5⟩ : ∃ z, w4.alloc (.cells #[.slice (some ⟨g3, 0, none⟩) i c3, .slice (some ⟨q, 0, none⟩) i cq] 58) = z := ⟨_, rfl⟩
          obtain ⟨pl, hpl⟩ : ∃ z, w4.heap.size = z := ⟨_, rfl⟩
          have HKL : Hid (Cs w5 pl [.slice (some ⟨g3, 0, none⟩) i c3, .slice (some ⟨q, 0, none⟩) i cq]) := Lib.hid (by rw [← hw5, ← hpl]; exact Cs.new w4 _ _)
          have HKM : Hid (Mem w5 q i i rb M) := Lib.hid (by rw [← hw5]; exact HM4.out.alloc _)
          have HKS : Hid (Rs w w5 p) := Lib.hid (by rw [← hw5]; exact HS4.out.next ((Below.refl _ _).alloc (Nat.le_refl _) _))
          rw [hw5, hpl]
          clear hw5 hpl HS4 HM4 HS3
          have d0 := HKL.out.at 0 _ rfl
          have d1 := HKL.out.at 1 _ rfl
          have c0 := HKS.out.cs.at 0 _ rfl
          have c1 := HKS.out.cs.at 1 _ rfl
          have f0 := HKS.out.cs.free 0
          have f1 := HKS.out.cs.free 1
          go_wp2_with fail
          go_loopw [12] (fun v wr => ∃ a : Nat, a ≤ i ∧ v = .int .i64 a ∧ wr = w5 ∧ Hid (NoK2 i M a)) (fun v _ => i - (intOf v).toNat)
          case atStart => exact ⟨0, Nat.zero_le _, rfl, rfl, Lib.hid (fun x y hx => absurd hx (by omega))⟩
          case round =>
            obtain ⟨a, ha, rfl, hwr, HK⟩ := hrel
            subst hwr
            rename World => w5
            by_cases hat : a < i
            · have hat' : (a : Int) < (i : Int) := by omega
              have ha0 : (0 : Int) ≤ (a : Int) := by omega
              go_wp2_with fail
              go_loopw [13] (fun v wr => ∃ b : Nat, b ≤ i ∧ v = .int .i64 b ∧ wr = w5 ∧ Hid (∀ y, y < b → a ≠ y → ¬ (mget M a y = true ∧ mget M y a = true))) (fun v _ => i - (intOf v).toNat)
              case atStart => exact ⟨0, Nat.zero_le _, rfl, rfl, Lib.hid (fun y hy => absurd hy (by omega))⟩
              case round =>
                obtain ⟨b, hb, rfl, hwr, HI⟩ := hrel
                subst hwr
                rename World => w5
                by_cases hbt : b < i
                · have hbt' : (b : Int) < (i : Int) := by omega
                  have hb0 : (0 : Int) ≤ (b : Int) := by omega
                  by_cases hab : a = b
                  · subst hab
                    have HI2 : Hid (∀ y, y < a + 1 → a ≠ y → ¬ (mget M a y = true ∧ mget M y a = true)) := Lib.hid (fun y hy hne => HI.out y (by omega) hne)
                    clear HI
                    go_wp2_with fail
                    go_roundw
                    case rel => exact ⟨a + 1, by omega, by go_num, trivial, HI2⟩
                    case measure => simp [intOf]; omega
                  have habi : ¬ (a : Int) = (b : Int) := by omega
                  have r0 := HKM.out.rowAt a hat
                  have r1 := HKM.out.rowAt b hbt
                  have k0 := HKM.out.at a b hat hbt
                  have k1 := HKM.out.at b a hbt hat
                  obtain ⟨x, hx⟩ : ∃ x, mget M a b = x := ⟨_, rfl⟩
                  obtain ⟨y, hy⟩ : ∃ y, mget M b a = y := ⟨_, rfl⟩
                  rw [hx] at k0
                  rw [hy] at k1
                  have HXX := Lib.hid hx
                  have HYY := Lib.hid hy
                  clear hx hy
                  have HI2 : (x && y) = false → Hid (∀ z, z < b + 1 → a ≠ z → ¬ (mget M a z = true ∧ mget M z a = true)) := fun h => by
                    refine Lib.hid fun z hz hne => ?_
                    by_cases e : z = b
                    · subst e
                      rw [HXX.out, HYY.out]
                      intro h2
                      rw [h2.1, h2.2] at h
                      cases h
                    · exact HI.out z (by omega) hne
                  cases x with
                  | false =>
                    have HI3 := HI2 rfl
                    clear HI HI2
                    go_wp2_with fail
                    go_roundw
                    case rel => exact ⟨b + 1, by omega, by go_num, trivial, HI3⟩
                    case measure => simp [intOf]; omega
                  | true =>
                    cases y with
                    | false =>
                      have HI3 := HI2 rfl
                      clear HI HI2
                      go_wp2_with fail
                      go_roundw
                      case rel => exact ⟨b + 1, by omega, by go_num, trivial, HI3⟩
                      case measure => simp [intOf]; omega
                    | true =>
                      have hr : r = 10 := by
                        rw [← H.out]
                        refine newC_10 HN.out HNC.out HAL2.out ?_
                        rw [HM.out, HL.out, knotM_iff]
                        exact ⟨a, b, hat, hbt, hab, HXX.out, HYY.out⟩
                      subst hr
                      clear H HI HI2
                      go_wp2_with fail
                      obtain ⟨k0, k1⟩ := two_cells HKS.out.cs (.slice none 0 0) (.slice none 0 0)
                      refine bodyPost_ret (v := .tuple #[.agg #[.slice none 0 0, .slice none 0 0], .int .i64 10]) (by simp [results, Tryd.results25, go_sem, k0, k1]) rfl ?_
                      exact rres_no (HKS.out.bad _ _) (by decide)
                · have hge3 : ¬ ((b : Int) < (i : Int)) := by omega
                  obtain rfl : b = i := by omega
                  have HK2 : Hid (NoK2 b M (a + 1)) := by
                    refine Lib.hid fun x y hx hy hne => ?_
                    by_cases e : x = a
                    · subst e; exact HI.out y hy hne
                    · exact HK.out x y (by omega) hy hne
                  clear HK HI hbt
                  go_wp2_with fail
                  go_roundw
                  case rel => exact ⟨a + 1, by omega, by go_num, trivial, HK2⟩
                  case measure => simp [intOf]; omega
            · have hge4 : ¬ ((a : Int) < (i : Int)) := by omega
              obtain rfl : a = i := by omega
              have HNK : Hid (¬ knotM xs.length (lePo xs o)) := Lib.hid (by
                rw [HM.out, HL.out, knotM_iff]
                rintro ⟨x, y, h1, h2, h3, h4, h5⟩
                exact HK.out x y h1 h2 h3 ⟨h4, h5⟩)
              clear HK hat
              go_wp2_with fail
              go_loopw [14] (fun v wr => ∃ x : Nat, x ≤ a ∧ v = .int .i64 x ∧ Hid (Below w5.heap.size w5 wr) ∧ Hid (BdsTo a M x)) (fun v _ => a - (intOf v).toNat)
              case atStart => exact ⟨0, Nat.zero_le _, rfl, Lib.hid (Below.refl _ _), Lib.hid (fun x y hx => absurd hx (by omega))⟩
              case round =>
                obtain ⟨x, hx, rfl, HBX, HTX⟩ := hrel
                clear d0 d1 c0 c1 f0 f1
                have c0 := (HKS.out.next HBX.out).cs.at 0 _ rfl
                have c1 := (HKS.out.next HBX.out).cs.at 1 _ rfl
                have f0 := (HKS.out.next HBX.out).cs.free 0
                have f1 := (HKS.out.next HBX.out).cs.free 1
                by_cases hxt : x < a
                · have hxt' : (x : Int) < (a : Int) := by omega
                  have hx0 : (0 : Int) ≤ (x : Int) := by omega
                  rename World => wo6
                  go_wp2_with fail
                  go_loopw [15] (fun v wr => ∃ y : Nat, y ≤ a ∧ v = .int .i64 y ∧ Hid (Below w5.heap.size w5 wr) ∧ Hid (∀ z, z < y → (bdM a (upM M) x z).isSome = true ∧ (bdM a (dnM M) x z).isSome = true)) (fun v _ => a - (intOf v).toNat)
                  case atStart => exact ⟨0, Nat.zero_le _, rfl, HBX, Lib.hid (fun z hz => absurd hz (by omega))⟩
                  case round =>
                    obtain ⟨y, hy, rfl, HBW, HZ⟩ := hrel
                    clear c0 c1 f0 f1 HBX
                    by_cases hyt : y < a
                    · have hyt' : (y : Int) < (a : Int) := by omega
                      have hy0 : (0 : Int) ≤ (y : Int) := by omega
                      have d0 := (HKL.out.next HBW.out).at 0 _ rfl
                      have d1 := (HKL.out.next HBW.out).at 1 _ rfl
                      obtain ⟨o1, ho1⟩ : ∃ o1, bdM a (upM M) x y = o1 := ⟨_, rfl⟩
                      obtain ⟨o2, ho2⟩ : ∃ o2, bdM a (dnM M) x y = o2 := ⟨_, rfl⟩
                      have HO1 := Lib.hid ho1
                      have HO2 := Lib.hid ho2
                      clear ho1 ho2
                      have HBD : (o1 = none ∨ o2 = none) → r = 11 := fun h => by
                        rw [← H.out]
                        refine newC_11 HN.out HNC.out HAL2.out HNK.out ?_
                        rw [HM.out, HL.out]
                        intro hbd
                        have := hbd x y hxt hyt
                        rw [HO1.out, HO2.out] at this
                        rcases h with rfl | rfl
                        · cases this.1
                        · cases this.2
                      cases o1 with
                      | none =>
                        obtain rfl := HBD (.inl rfl)
                        clear H HBD
                        have hob : obI none < 0 := by decide
                        go_upto_region 38 with (first | (go_at_call 43; refine (rjoin_b q a c3 cq rb M (some ⟨g3, 0, none⟩) x y hxt hyt none _ HO1 (Lib.hid rfl) _ (HKM.out.next HBW.out) hl12).mono ?_; rintro e w7 ⟨rfl, hb7⟩; have HB7 : Hid (Below w5.heap.size w5 w7) := Lib.hid (HBW.out.trans (hb7.mono HBW.out.size)); have e0 := (HKL.out.next HB7.out).at 0 _ rfl; have e1 := (HKL.out.next HB7.out).at 1 _ rfl; have r0 := (HKS.out.next HB7.out).cs.at 0 _ rfl; have r1 := (HKS.out.next HB7.out).cs.at 1 _ rfl; have q0 := (HKS.out.next HB7.out).cs.free 0; have q1 := (HKS.out.next HB7.out).cs.free 1; clear hb7) | fail)
                        have HKS7 := Lib.hid (HKS.out.next HB7.out)
                        clear d0 d1 e0 e1
                        go_wp2_with fail
                        obtain ⟨k0, k1⟩ := two_cells HKS7.out.cs (.slice none 0 0) (.slice none 0 0)
                        refine bodyPost_ret (v := .tuple #[.agg #[.slice none 0 0, .slice none 0 0], .int .i64 11]) (by simp [results, Tryd.results25, go_sem, k0, k1]) rfl ?_
                        exact rres_no (HKS7.out.bad _ _) (by decide)
                      | some j =>
                        have hobj : ¬ (obI (some j) < 0) := by show ¬ ((j : Int) < 0); omega
                        cases o2 with
                        | none =>
                          obtain rfl := HBD (.inr rfl)
                          clear H HBD
                          have hob : obI none < 0 := by decide
                          go_upto_region 38 with (first | (go_at_call 43; refine (rjoin_b q a c3 cq rb M (some ⟨g3, 0, none⟩) x y hxt hyt (some j) _ HO1 (Lib.hid rfl) _ (HKM.out.next HBW.out) hl12).mono ?_; rintro e w7 ⟨rfl, hb7⟩; have HB7 : Hid (Below w5.heap.size w5 w7) := Lib.hid (HBW.out.trans (hb7.mono HBW.out.size)); have e0 := (HKL.out.next HB7.out).at 0 _ rfl; have e1 := (HKL.out.next HB7.out).at 1 _ rfl; have r0 := (HKS.out.next HB7.out).cs.at 0 _ rfl; have r1 := (HKS.out.next HB7.out).cs.at 1 _ rfl; have q0 := (HKS.out.next HB7.out).cs.free 0; have q1 := (HKS.out.next HB7.out).cs.free 1; clear hb7) | (go_at_call 51; refine (rmeet_b q a c3 cq rb M (some ⟨g3, 0, none⟩) x y hxt hyt none _ HO2 (Lib.hid rfl) _ (HKM.out.next HB7.out) hl12).mono ?_; rintro e w8 ⟨rfl, hb8⟩; have HB8 : Hid (Below w5.heap.size w5 w8) := Lib.hid (HB7.out.trans (hb8.mono HB7.out.size)); have s0 := (HKS.out.next HB8.out).cs.at 0 _ rfl; have s1 := (HKS.out.next HB8.out).cs.at 1 _ rfl; have t0 := (HKS.out.next HB8.out).cs.free 0; have t1 := (HKS.out.next HB8.out).cs.free 1; clear hb8) | fail)
                          have HKS7 := Lib.hid (HKS.out.next HB8.out)
                          clear d0 d1 e0 e1
                          go_wp2_with fail
                          obtain ⟨k0, k1⟩ := two_cells HKS7.out.cs (.slice none 0 0) (.slice none 0 0)
                          refine bodyPost_ret (v := .tuple #[.agg #[.slice none 0 0, .slice none 0 0], .int .i64 11]) (by simp [results, Tryd.results25, go_sem, k0, k1]) rfl ?_
                          exact rres_no (HKS7.out.bad _ _) (by decide)
                        | some m =>
                          have hobm : ¬ (obI (some m) < 0) := by show ¬ ((m : Int) < 0); omega
                          have HZ2 : Hid (∀ z, z < y + 1 → (bdM a (upM M) x z).isSome = true ∧ (bdM a (dnM M) x z).isSome = true) := by
                            refine Lib.hid fun z hz => ?_
                            by_cases e : z = y
                            · subst e; rw [HO1.out, HO2.out]; exact ⟨rfl, rfl⟩
                            · exact HZ.out z (by omega)
                          clear HZ HBD
                          go_wp2_with (first | (go_at_call 43; refine (rjoin_b q a c3 cq rb M (some ⟨g3, 0, none⟩) x y hxt hyt (some j) _ HO1 (Lib.hid rfl) _ (HKM.out.next HBW.out) hl12).mono ?_; rintro e w7 ⟨rfl, hb7⟩; have HB7 : Hid (Below w5.heap.size w5 w7) := Lib.hid (HBW.out.trans (hb7.mono HBW.out.size)); have e0 := (HKL.out.next HB7.out).at 0 _ rfl; have e1 := (HKL.out.next HB7.out).at 1 _ rfl; have r0 := (HKS.out.next HB7.out).cs.at 0 _ rfl; have r1 := (HKS.out.next HB7.out).cs.at 1 _ rfl; have q0 := (HKS.out.next HB7.out).cs.free 0; have q1 := (HKS.out.next HB7.out).cs.free 1; clear hb7) | (go_at_call 51; refine (rmeet_b q a c3 cq rb M (some ⟨g3, 0, none⟩) x y hxt hyt (some m) _ HO2 (Lib.hid rfl) _ (HKM.out.next HB7.out) hl12).mono ?_; rintro e w8 ⟨rfl, hb8⟩; have HB8 : Hid (Below w5.heap.size w5 w8) := Lib.hid (HB7.out.trans (hb8.mono HB7.out.size)); have s0 := (HKS.out.next HB8.out).cs.at 0 _ rfl; have s1 := (HKS.out.next HB8.out).cs.at 1 _ rfl; have t0 := (HKS.out.next HB8.out).cs.free 0; have t1 := (HKS.out.next HB8.out).cs.free 1; clear hb8) | fail)
                          go_roundw
                          case rel => exact ⟨y + 1, by omega, by go_num, HB8, HZ2⟩
                          case measure => simp [intOf]; omega
                    · have hge5 : ¬ ((y : Int) < (a : Int)) := by omega
                      obtain rfl : y = a := by omega
                      have HTX2 : Hid (BdsTo y M (x + 1)) := by
                        refine Lib.hid fun z k hz hk => ?_
                        by_cases e : z = x
                        · subst e; exact HZ.out k hk
                        · exact HTX.out z k (by omega) hk
                      clear HTX HZ hyt
                      go_wp2_with fail
                      go_roundw
                      case rel => exact ⟨x + 1, by omega, by go_num, HBW, HTX2⟩
                      case measure => simp [intOf]; omega
                · have hge6 : ¬ ((x : Int) < (a : Int)) := by omega
                  obtain rfl : x = a := by omega
                  have hr : r = 0 := by
                    rw [← H.out]
                    refine newC_0 HN.out HNC.out HAL2.out HNK.out ?_
                    rw [HM.out, HL.out]
                    exact fun z k hz hk => HTX.out z k hz hk
                  subst hr
                  have d0 := (HKL.out.next HBX.out).at 0 _ rfl
                  have d1 := (HKL.out.next HBX.out).at 1 _ rfl
                  have HKS7 := Lib.hid (HKS.out.next HBX.out)
                  clear H HTX hxt
                  go_wp2_with fail
                  obtain ⟨k0, k1⟩ := two_cells HKS7.out.cs (.slice (some ⟨g3, 0, none⟩) x c3) (.slice (some ⟨q, 0, none⟩) x cq)
                  refine bodyPost_ret (v := .tuple #[.agg #[.slice (some ⟨g3, 0, none⟩) x c3, .slice (some ⟨q, 0, none⟩) x cq], .int .i64 0]) (by simp [results, Tryd.results25, go_sem, k0, k1]) rfl ?_
                  refine ⟨some ⟨g3, 0, none⟩, x, c3, some ⟨q, 0, none⟩, x, cq, rfl, HKS7.out.bad _ _, fun _ => ⟨HL.out.symm, HL.out.symm, q, rb, rfl, ?_⟩⟩
                  rw [HM.out, HL.out]
                  exact ((HKM.out.next HBX.out).other (p := ⟨p, 0, none⟩) HPQ.out.1 HPQ.out.2 _).other (p := ⟨p, 1, none⟩) HPQ.out.1 HPQ.out.2 _
end Go.Proofs.YtnipigninbeplaaDoor
