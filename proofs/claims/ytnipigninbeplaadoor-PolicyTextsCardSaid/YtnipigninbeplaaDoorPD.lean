/-
  The walk over the reference's find.
  The code of labels, and the walk over the reference's labels.
  The walk over the lattice's has.
-/
import Derived.Test.YtnipigninbeplaaDoorPoB
import Derived.Test.YtnipigninbeplaaDoorPA
import Derived.Deep.CutRange
namespace Go.Proofs.YtnipigninbeplaaDoor
open Go.RowKit

theorem findS_hit {xs : List ByteArray} {s t : ByteArray} {k : Nat} (hk : xs[k]? = some t) (h : (t.toList == s.toList) = true) (hn : ∀ (j : Nat) (u : ByteArray), xs[j]? = some u → j < k → (u.toList == s.toList) = false) : findS xs s = k := by
  unfold findS
  have hl := (List.getElem?_eq_some_iff.1 hk).1
  have : xs.findIdx? (fun t => t.toList == s.toList) = some k := by
    rw [List.findIdx?_eq_some_iff_getElem]
    refine ⟨hl, ?_, fun j hj => ?_⟩
    · rw [(List.getElem?_eq_some_iff.1 hk).2]; exact h
    · rw [hn j _ (List.getElem?_eq_getElem (by omega)) hj]; exact Bool.false_ne_true
  rw [this]
theorem findS_none {xs : List ByteArray} {s : ByteArray} (hn : ∀ (j : Nat) (u : ByteArray), xs[j]? = some u → (u.toList == s.toList) = false) : findS xs s = -1 := by
  unfold findS
  have : xs.findIdx? (fun t => t.toList == s.toList) = none := by
    rw [List.findIdx?_eq_none_iff]
    intro u hu
    obtain ⟨j, hj⟩ := List.mem_iff_getElem?.1 hu
    exact hn j u hj
  rw [this]

set_option maxHeartbeats 2000000 in
theorem rfindN_b (xs : List ByteArray) (s : ByteArray) (A : Option Addr) (l c : Nat) (r : Int) (H : Hid (findS xs s = r)) (w : World) (hx : NOk w A l c xs) :
    Calls Tryd.prog 65 #[.slice A l c, .string s] w fun e w' => e = .returned (.int .i64 r) ∧ w = w' := by
  have hlv : l ≤ 9223372036854775807 := by have h1 := hx.cap; have h2 := hx.big; unfold maxLen at h2; omega
  have HX := Lib.hid hx
  have HL := Lib.hid hx.len
  clear hx
  go_enter Tryd.func65, Tryd.ntmps65
  go_wp2_with fail
  go_loop [5] (fun v => ∃ k : Nat, k ≤ l ∧ v = .int .i64 k ∧ Hid (∀ (j : Nat) (u : ByteArray), xs[j]? = some u → j < k → (u.toList == s.toList) = false)) (fun v => l - (intOf v).toNat)
  case atStart => exact ⟨0, by omega, rfl, fun j _ _ h => absurd h (by omega)⟩
  case round =>
    obtain ⟨k, hk, rfl, HK⟩ := hrel
    by_cases hlt : k < l
    · have hlt' : (k : Int) < (l : Int) := by omega
      obtain ⟨t, g, f, ht, hts, hA, hg, k0⟩ := HX.out.at k hlt
      subst hA
      cases hb : (t.toList == s.toList)
      · have HK' : Hid (∀ (j : Nat) (u : ByteArray), xs[j]? = some u → j < k + 1 → (u.toList == s.toList) = false) := fun j u hu hj => by
          by_cases hjk : j = k
          · subst hjk
            rw [ht] at hu
            cases hu
            exact hb
          · exact HK.out j u hu (by omega)
        clear HK ht
        go_wp2_with fail
        go_round
        case rel => exact ⟨k + 1, by omega, by go_num, HK'⟩
        case measure => simp [intOf]; omega
      · have hr : r = k := by rw [← H.out]; exact findS_hit ht hb HK.out
        subst hr
        clear H HK ht
        go_wp2_with fail
        go_ret
        exact ⟨rfl, rfl⟩
    · have hr : r = -1 := by
        rw [← H.out]
        exact findS_none fun j u hu => HK.out j u hu (by
          have := (List.getElem?_eq_some_iff.1 hu).1
          have := HL.out
          omega)
      subst hr
      clear H HK
      have hge : ¬ ((k : Int) < (l : Int)) := by omega
      go_wp2_with fail
      go_ret
      exact ⟨rfl, rfl⟩

/-- The code of labels, of which some names have been seen. -/
def labelsC (n : Int) (seen : List ByteArray) : List Lb → Int
  | [] => 0
  | x :: l => if nameB x.name = false then 7 else if amongB seen x.name = true then 8 else if x.lev < 0 ∨ n ≤ x.lev then 3 else labelsC n (seen ++ [x.name]) l
theorem labelsC_at {n : Int} {xs : List Lb} {k : Nat} {s : ByteArray} {v : Int} (h : xs[k]? = some ⟨s, v⟩) :
    labelsC n ((xs.take k).map Lb.name) (xs.drop k) = if nameB s = false then 7 else if amongB ((xs.take k).map Lb.name) s = true then 8 else if v < 0 ∨ n ≤ v then 3 else labelsC n ((xs.take (k + 1)).map Lb.name) (xs.drop (k + 1)) := by
  have hl := (List.getElem?_eq_some_iff.1 h).1
  have he := (List.getElem?_eq_some_iff.1 h).2
  rw [List.drop_eq_getElem_cons hl, he, List.take_add_one, h]
  simp [labelsC]
theorem labelsC_end {n : Int} {xs : List Lb} {k : Nat} (h : xs.length ≤ k) (seen : List ByteArray) : labelsC n seen (xs.drop k) = 0 := by
  rw [List.drop_eq_nil_iff.2 h]; rfl
theorem among_hit {xs : List Lb} {i j : Nat} {s t : ByteArray} {v : Int} (h : xs[j]? = some ⟨t, v⟩) (hj : j < i) (ht : (t.toList == s.toList) = true) : amongB ((xs.take i).map Lb.name) s = true := by
  unfold amongB
  rw [List.any_eq_true]
  refine ⟨t, ?_, ht⟩
  rw [List.mem_map]
  exact ⟨⟨t, v⟩, List.mem_of_getElem? (i := j) (by rw [List.getElem?_take, if_pos hj]; exact h), rfl⟩
theorem among_none {xs : List Lb} {i : Nat} {s : ByteArray} (h : ∀ (j : Nat) (u : Lb), xs[j]? = some u → j < i → (u.name.toList == s.toList) = false) : amongB ((xs.take i).map Lb.name) s = false := by
  unfold amongB
  rw [List.any_eq_false]
  intro t ht
  rw [List.mem_map] at ht
  obtain ⟨u, hu, rfl⟩ := ht
  obtain ⟨j, hj⟩ := List.mem_iff_getElem?.1 hu
  rw [List.getElem?_take] at hj
  by_cases e : j < i
  · rw [if_pos e] at hj; rw [h j u hj e]; simp
  · rw [if_neg e] at hj; cases hj

set_option maxHeartbeats 4000000 in
theorem rlabels_b (xs : List Lb) (n : Int) (A : Option Addr) (l c : Nat) (r : Int) (H : Hid (labelsC n [] xs = r)) (w : World) (hx : LbOk w A l c xs) :
    Calls Tryd.prog 26 #[.slice A l c, .int .i64 n] w fun e w' => e = .returned (.int .i64 r) ∧ Below w.heap.size w w' := by
  have hlv : l ≤ 9223372036854775807 := by have h1 := hx.cap; have h2 := hx.big; unfold maxLen at h2; omega
  have HX := Lib.hid hx
  have HL := Lib.hid hx.len
  clear hx
  go_enter Tryd.func26, Tryd.ntmps26
  go_wp2_with fail
  go_loopw [5] (fun v wr => ∃ i : Nat, i ≤ l ∧ v = .int .i64 i ∧ Hid (labelsC n ((xs.take i).map Lb.name) (xs.drop i) = r) ∧ Hid (Below w.heap.size w wr)) (fun v _ => l - (intOf v).toNat)
  case atStart => exact ⟨0, by omega, rfl, H, Lib.hid (Below.refl _ _)⟩
  case round =>
    clear H
    obtain ⟨i, hi, rfl, HR, HB⟩ := hrel
    by_cases hlt : i < l
    · have hlt' : (i : Int) < (l : Int) := by omega
      have hi0 : (0 : Int) ≤ (i : Int) := by omega
      obtain ⟨s, v, g, f, ht, hs, hA, hg, k0, k1⟩ := (HX.out.below HB.out).at i hlt
      subst hA
      have HAT := Lib.hid (labelsC_at (n := n) ht)
      have HT := Lib.hid ht
      clear ht
      obtain ⟨b1, hb1⟩ : ∃ z, nameB s = z := ⟨_, rfl⟩
      have HN1 := Lib.hid hb1
      clear hb1
      go_wp2_with fail
      go_at_call 52
      refine (prisName_b s b1 HN1 hs _).mono ?_
      rintro e wy ⟨rfl, rfl⟩
      cases b1 with
      | false =>
        have hr : r = 7 := by rw [← HR.out, HAT.out, if_pos HN1.out]
        subst hr
        clear HR HAT
        go_wp2_with fail
        go_ret
        exact ⟨rfl, HB.out⟩
      | true =>
        go_upto_region 7 with fail
        rename World => wo
        have HB5 := HB
        clear HB k0 k1
        go_loopw [6] (fun v wq => ∃ j : Nat, j ≤ i ∧ v = .int .i64 j ∧ Hid (∀ (k : Nat) (u : Lb), xs[k]? = some u → k < j → (u.name.toList == s.toList) = false) ∧ Hid (Below w.heap.size w wq)) (fun v _ => i - (intOf v).toNat)
        case atStart => exact ⟨0, by omega, rfl, fun k _ _ h => absurd h (by omega), HB5⟩
        case round =>
          clear HB5
          obtain ⟨j, hj, rfl, HD, HB⟩ := hrel
          by_cases hjt : j < i
          · have hjt' : (j : Int) < (i : Int) := by omega
            have hjl : (j : Int) < (l : Int) := by omega
            have hj0 : (0 : Int) ≤ (j : Int) := by omega
            obtain ⟨s1, v1, g1, f1, ht1, hs1, hA1, hg1, k0, k1⟩ := (HX.out.below HB.out).at j (by omega)
            injection hA1 with hA1
            injection hA1 with e1 e2
            subst e1 e2
            obtain ⟨s2, v2, g2, f2, ht2, hs2, hA2, hg2, m0, m1⟩ := (HX.out.below HB.out).at i hlt
            injection hA2 with hA2
            injection hA2 with e1 e2
            subst e1 e2
            rw [HT.out] at ht2
            cases ht2
            have HT1 := Lib.hid ht1
            clear ht1 k1 m1 hs1 hs2
            cases hst : (s1.toList == s.toList)
            · have HST : Hid ((s1.toList == s.toList) = false) := hst
              go_upto_region 9 with fail
              go_quiet (fail)
              clear k0 m0 hst
              go_wp2_with fail
              go_roundw
              case rel =>
                refine ⟨j + 1, by omega, by go_num, fun k u hu hk' => ?_, Lib.hid (below_drewN HB.out _)⟩
                by_cases e : k = j
                · subst e
                  rw [HT1.out] at hu
                  cases hu
                  exact HST.out
                · exact HD.out k u hu (by omega)
              case measure => simp [intOf]; omega
            · have HAM := Lib.hid (among_hit HT1.out hjt hst)
              go_upto_region 9 with fail
              go_quiet (fail)
              clear k0 m0 hst
              have hr : r = 8 := by rw [← HR.out, HAT.out, if_neg (by rw [HN1.out]; decide), if_pos HAM.out]
              subst hr
              clear HR HAT
              go_wp2_with fail
              go_ret
              exact ⟨rfl, below_drewN HB.out _⟩
          · have HAM := Lib.hid (among_none (xs := xs) (i := i) (s := s) fun k u hu hk => HD.out k u hu (by omega))
            obtain ⟨s2, v2, g2, f2, ht2, hs2, hA2, hg2, m0, m1⟩ := (HX.out.below HB.out).at i hlt
            injection hA2 with hA2
            injection hA2 with e1 e2
            subst e1 e2
            rw [HT.out] at ht2
            cases ht2
            have hjge : ¬ ((j : Int) < (i : Int)) := by omega
            have HRR : Hid ((if v < 0 ∨ n ≤ v then 3 else labelsC n ((xs.take (i + 1)).map Lb.name) (xs.drop (i + 1))) = r) := by
              have h := HAT.out
              rw [if_neg (show ¬ nameB s = false by rw [HN1.out]; decide), if_neg (show ¬ amongB ((xs.take i).map Lb.name) s = true by rw [HAM.out]; decide)] at h
              show _ = _
              rw [← h]
              exact HR.out
            clear HR HAT HAM HD
            by_cases hv0 : v < 0
            · have hr : r = 3 := by rw [← HRR.out, if_pos (Or.inl hv0)]
              subst hr
              clear HRR
              go_wp2_with fail
              go_ret
              exact ⟨rfl, HB.out⟩
            by_cases hvn : n ≤ v
            · have hr : r = 3 := by rw [← HRR.out, if_pos (Or.inr hvn)]
              subst hr
              clear HRR
              go_wp2_with fail
              go_ret
              exact ⟨rfl, HB.out⟩
            · have HR2 : Hid (labelsC n ((xs.take (i + 1)).map Lb.name) (xs.drop (i + 1)) = r) := by
                have h := HRR.out
                rw [if_neg (by omega)] at h
                exact h
              clear HRR
              go_wp2_with fail
              go_roundw
              case rel => exact ⟨i + 1, by omega, by go_num, HR2, HB⟩
              case measure => simp [intOf]; omega
    · have hr : r = 0 := by rw [← HR.out]; exact labelsC_end (by rw [HL.out]; omega) _
      subst hr
      clear HR
      have hge : ¬ ((i : Int) < (l : Int)) := by omega
      go_wp2_with fail
      go_ret
      exact ⟨rfl, HB.out⟩

/-- Is a number a level? -/
def levB (n a : Int) : Bool := decide (0 ≤ a) && decide (a < n)
theorem inPb_lev (n : Int) (p : Int × Int) : inPb n p = (levB n p.1 && levB n p.2) := rfl

set_option maxHeartbeats 2000000 in
theorem has_b (q : Nat) (An : Option Addr) (ln cn : Nat) (a : Int) (b : Bool) (H : Hid (levB ln a = b)) (w : World) (h0 : w.cell? ⟨q, 0, none⟩ = some (.slice An ln cn)) :
    Calls Tryd.prog 45 #[.pointer (some ⟨q, 0, none⟩), .int .i64 a] w fun e w' => e = .returned (.bool b) ∧ w = w' := by
  by_cases ha : 0 ≤ a
  · by_cases hl : a < ln
    · have hb : b = true := by rw [← H.out]; unfold levB; rw [decide_eq_true ha, decide_eq_true hl]; rfl
      subst hb
      clear H
      go_enter Tryd.func45, Tryd.ntmps45
      go_wp2_with fail
      go_ret
      exact ⟨rfl, rfl⟩
    · have hb : b = false := by rw [← H.out]; unfold levB; rw [decide_eq_false hl, Bool.and_false]
      subst hb
      clear H
      go_enter Tryd.func45, Tryd.ntmps45
      go_wp2_with fail
      go_ret
      exact ⟨rfl, rfl⟩
  · have hb : b = false := by rw [← H.out]; unfold levB; rw [decide_eq_false ha, Bool.false_and]
    subst hb
    clear H
    go_enter Tryd.func45, Tryd.ntmps45
    go_wp2_with fail
    go_ret
    exact ⟨rfl, rfl⟩
end Go.Proofs.YtnipigninbeplaaDoor
