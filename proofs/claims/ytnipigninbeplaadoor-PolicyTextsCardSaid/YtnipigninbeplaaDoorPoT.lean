/-
  The walk over the lattice's New.
-/
import Derived.Test.YtnipigninbeplaaDoorPoS
import Derived.StringKeys
namespace Go.Proofs.YtnipigninbeplaaDoor
open Go.RowKit Go.Maps Go.ChangeMaps

theorem own_slice {w : World} {B : Nat} {E : TypeId} {V : Value} {n : Nat} {xs : List Value} (h : w.ownsRow B E 1 V n xs) : ∃ (A : Option Addr) (c : Nat), V = .slice A n c := by
  rcases h.2 with ⟨hv, hn⟩ | ⟨g, cap, cur, hv, _⟩
  · exact ⟨none, 0, by rw [hv, hn]⟩
  · exact ⟨some ⟨g, 0, none⟩, cap, hv⟩
theorem wf_small {i : Nat} (h : i ≤ 9223372036854775807) : (Lit.int .i64 (i : Int)).wf = true := Go.WalkArith.wf_i64 ⟨by omega, by omega⟩
/-- What New hands back. -/
def NewRes (w : World) (xs : List ByteArray) (o : List (Int × Int)) (r : Int) (e : Ending) (w' : World) : Prop :=
  ∃ pv : Option Addr, e = .returned (.tuple #[.pointer pv, .int .i64 r]) ∧ Below w.heap.size w w' ∧ (r ≠ 0 → pv = none) ∧ (r = 0 → ∃ b0, pv = some ⟨b0, 0, none⟩ ∧ w.heap.size ≤ b0 ∧ Lat w' b0 xs.length (lePo xs o))
theorem res_no {w w' : World} {xs : List ByteArray} {o : List (Int × Int)} {r : Int} (hb : Below w.heap.size w w') (hr : r ≠ 0) : NewRes w xs o r (.returned (.tuple #[.pointer none, .int .i64 r])) w' :=
  ⟨none, rfl, hb, fun _ => rfl, fun h => absurd h hr⟩

set_option maxRecDepth 100000 in
set_option maxHeartbeats 4000000 in
theorem new_b (xs : List ByteArray) (o : List (Int × Int)) (An : Option Addr) (l cn : Nat) (Ao : Option Addr) (lo co : Nat) (r : Int) (H : Hid (newC xs o = r)) (w : World) (hx : NOk w An l cn xs) (ho : OOk w Ao lo co o) :
    Calls Tryd.prog 23 #[.slice An l cn, .slice Ao lo co] w fun e w' => NewRes w xs o r e w' := by
  have hlm : l ≤ 9223372036854775807 := by have := hx.cap; have := hx.big; unfold maxLen at this; omega
  have hlo : lo ≤ 9223372036854775807 := by have := ho.cap; have := ho.big; unfold maxLen at this; omega
  have HX := Lib.hid hx
  have HO := Lib.hid ho
  have HL := Lib.hid hx.len
  have HLO := Lib.hid ho.len
  have hmm := @run_makeMap Tryd.prog
  clear hx ho
  by_cases h0 : l = 0
  · have hr : r = 4 := by rw [← H.out]; exact newC_4 (.inl (by rw [HL.out]; exact h0))
    subst hr
    have hl0 : (l : Int) = 0 := by omega
    clear H hmm
    go_enter Tryd.func23, Tryd.ntmps23
    go_wp2_with fail
    go_returns
    exact res_no (Below.refl _ _) (by decide)
  by_cases h12 : 12 < l
  · have hr : r = 4 := by rw [← H.out]; exact newC_4 (.inr (by rw [HL.out]; exact h12))
    subst hr
    have hl0 : ¬ (l : Int) = 0 := by omega
    have hl1 : (12 : Int) < (l : Int) := by omega
    clear H hmm
    go_enter Tryd.func23, Tryd.ntmps23
    go_wp2_with fail
    go_returns
    exact res_no (Below.refl _ _) (by decide)
  have hl12 : l ≤ 12 := by omega
  have HN : Hid (¬ (xs.length = 0 ∨ 12 < xs.length)) := Lib.hid (by rw [HL.out]; omega)
  have hl0 : ¬ (l : Int) = 0 := by omega
  have hl1 : ¬ (12 : Int) < (l : Int) := by omega
  obtain ⟨nc, hnc⟩ : ∃ nc, namesC [] xs = nc := ⟨_, rfl⟩
  have HNC := Lib.hid hnc
  have HNW := Lib.hid (Nw.zero w 97)
  have HNC0 : Hid (namesC (xs.take 0) (xs.drop 0) = nc) := HNC
  obtain ⟨i0, hi0, hz0, hz1, hz2⟩ := info_parts (P := Tryd.prog) (e := 9) (z := .string ⟨#[]⟩) (size := 1) (bytes := 16) (by kernel_rfl)
  have HIN := Lib.hid (And.intro hi0 (And.intro hz0 (And.intro hz1 hz2)))
  clear hnc h0 h12 hi0 hz0 hz1 hz2
  go_enter Tryd.func23, Tryd.ntmps23
  go_wp2_with fail
  go_loopw [28] (fun v wr => ∃ (i : Nat) (NV : Value) (D : DataW Unit), i ≤ l ∧ v = .int .i64 i ∧ Hid (namesC (xs.take i) (xs.drop i) = nc) ∧ Hid (Nw w wr i NV (xs.take i) D)) (fun v _ => l - (intOf v).toNat)
  case atStart => exact ⟨0, _, _, Nat.zero_le _, rfl, HNC0, HNW⟩
  case round =>
    obtain ⟨i, NV, D, hi, rfl, HC, HW⟩ := hrel
    clear HNW HNC0 hmm
    have c0 := HW.out.cs.at 0 _ rfl
    have c1 := HW.out.cs.at 1 _ rfl
    by_cases hlt : i < l
    · have hlt' : (i : Int) < (l : Int) := by omega
      have hi0' : (0 : Int) ≤ (i : Int) := by omega
      obtain ⟨s, g, f, ht, hs, hA, hg, k0⟩ := (HX.out.below HW.out.bel).at i hlt
      subst hA
      have HAT := Lib.hid (namesC_at ht)
      have HT := Lib.hid ht
      have hkey : keyOf Tryd.prog 9 (.string s) = some (.string s.data.toList) := Go.WideMaps.keyOf_string_mk tString hs
      have HKEY := Lib.hid hkey
      obtain ⟨b1, hb1⟩ : ∃ z, lnameB s = z := ⟨_, rfl⟩
      have HN1 := Lib.hid hb1
      clear hb1 hkey ht
      cases b1 with
      | false =>
        have hn7 : nc = 7 := by rw [← HC.out, HAT.out, if_pos HN1.out]
        subst hn7
        have hr : r = 7 := by rw [← H.out, newC_n HN.out (by rw [HNC.out]; decide), HNC.out]
        subst hr
        clear H HC HAT HNC HN
        go_wp2_with (first | (go_at_call 44; refine (lisName_b s false HN1 hs _).mono ?_; rintro e wy ⟨rfl, rfl⟩) | fail)
        go_returns
        exact res_no HW.out.bel (by decide)
      | true =>
        obtain ⟨b2, hb2⟩ : ∃ z, amongB (xs.take i) s = z := ⟨_, rfl⟩
        have HB2 := Lib.hid hb2
        have HHAS := Lib.hid (HW.out.ix.has s)
        clear hb2
        cases b2 with
        | true =>
          have hn8 : nc = 8 := by rw [← HC.out, HAT.out, if_neg (by rw [HN1.out]; decide), if_pos HB2.out]
          subst hn8
          have hr : r = 8 := by rw [← H.out, newC_n HN.out (by rw [HNC.out]; decide), HNC.out]
          subst hr
          clear H HC HAT HNC HN
          go_wp2_with (first | (go_at_call 44; refine (lisName_b s true HN1 hs _).mono ?_; rintro e wy ⟨rfl, rfl⟩) | (at_lookup; refine wpList_lookup_own_ok_int _ rfl _ _ 75 rfl 9 3 .i64 lawS tMapI tInt (zInt _) w.heap.size i D rfl HW.out.ix.1 _ _ rfl HKEY.out ?_; intro c _ _; rw [HHAS.out, HB2.out]) | fail)
          go_returns
          exact res_no HW.out.bel (by decide)
        | false =>
          have HC2 : Hid (namesC (xs.take (i + 1)) (xs.drop (i + 1)) = nc) := by
            have h := HC.out
            rw [HAT.out, if_neg (show ¬ lnameB s = false by rw [HN1.out]; decide), if_neg (show ¬ amongB (xs.take i) s = true by rw [HB2.out]; decide)] at h
            exact Lib.hid h
          have hlt2 := HW.out.lt
          have f0 := HW.out.cs.free 0
          have hown : ∀ k, NV.ownBlock = some k → w.heap.size + 2 ≤ k := fun k hk => (HW.out.own.lt k hk).1
          have HOWN := Lib.hid hown
          have HWF : Hid ((Lit.int .i64 (i : Int)).wf = true) := Lib.hid (wf_small (by omega))
          have HIX : Hid (∀ W : World, W.ownsMap Tryd.prog 9 (plainElem Tryd.prog 3) w.heap.size (i + 1) (D.put (.string s.data.toList) (.lit (.int .i64 i))) → IxIn W w.heap.size (i + 1) (xs.take i ++ [s]) (D.put (.string s.data.toList) (.lit (.int .i64 i)))) := by
            refine Lib.hid fun W hW => ?_
            have e : ((xs.take i).length : Int) = (i : Int) := by rw [List.length_take, HL.out, Nat.min_eq_left (by omega)]
            have h := HW.out.ix.put (w' := W) s HB2.out
            rw [e] at h
            exact h hW
          clear HC HAT hown
          go_wp2_with (first | (go_at_call 44; refine (lisName_b s true HN1 hs _).mono ?_; rintro e wy ⟨rfl, rfl⟩) | (at_lookup; refine wpList_lookup_own_ok_int _ rfl _ _ 75 rfl 9 3 .i64 lawS tMapI tInt (zInt _) w.heap.size i D rfl HW.out.ix.1 _ _ rfl HKEY.out ?_; intro c _ _; rw [HHAS.out, HB2.out]) | (at_mapUpdate; refine wpList_mapUpdate_own _ rfl _ _ _ 75 rfl 9 3 lawS tMapI _ w.heap.size i D rfl HW.out.ix.1 (by unfold maxLen; omega) _ _ _ rfl rfl HKEY.out _ [] (plainElem_int tInt HWF.out) ?_; intro w6 hown6 hgrow6; have HG6 := Lib.hid hgrow6; have HX6 : Hid (IxIn w6 w.heap.size (i + 1) (xs.take i ++ [s]) (D.put (.string s.data.toList) (.lit (.int .i64 i)))) := HIX.out w6 hown6; have CS6 := Lib.hid (cs_grown HW.out.cs hgrow6 (by intro e; injection e with e; omega)); have OW6 := Lib.hid (own_fr HW.out.own (Fr.grew hgrow6) (fun k hk hs => by cases hs; have := HOWN.out _ hk; omega)); have d0 := CS6.out.at 0 _ rfl; have hl6 := CS6.out.lt; clear hown6 hgrow6) | (at_builtin; (refine wpList_append_own _ rfl _ _ 22 rfl (w.heap.size + 2) 9 i0 (.string ⟨#[]⟩) 1 16 Tryd.underlying22 HIN.out.1 HIN.out.2.1 HIN.out.2.2.1 HIN.out.2.2.2 rfl (by decide) NV i (svals (xs.take i)) rfl (own_fr OW6.out (Fr.of (S := fun _ => False) ((Below.refl _ _).alloc (Nat.le_refl _) _)) (fun _ _ h => h)) ⟨w6.heap.size, 0, none⟩ 1 1 [.string s] rfl rfl ?q1 ?q2 ?q3 ?q4 ?q5 ?_)) | fail)
          case q1 =>
            intro j u hj
            match j, hj with
            | 0, hj => simp at hj; subst hj; simp [Addr.add]
          case q2 => intro u hu; simp at hu; subst hu; rfl
          case q3 => unfold maxLen; omega
          case q4 => omega
          case q5 => simp; have := HG6.out.size; omega
          intro NV7 w7 hown7 hgrow7 _
          obtain ⟨A7, c7, e7⟩ := own_slice hown7
          subst e7
          have HST := Lib.hid (HW.out.step _ HG6.out HX6.out hgrow7 hown7)
          have cs7 := cs_grown (CS6.out.alloc (.cells #[.string s] 9)) hgrow7 (fun e => by have := HOWN.out _ e; omega)
          have d1 := cs7.at 0 _ rfl
          have f1 := cs7.free 0
          clear hown7 hgrow7 cs7 d0 c0 c1 f0
          go_wp2_with fail
          go_roundw
          case rel =>
            refine ⟨i + 1, .slice A7 (i + 1) c7, D.put (.string s.data.toList) (.lit (.int .i64 i)), by omega, by go_num, HC2, ?_⟩
            rw [List.take_add_one, HT.out]
            exact HST
          case measure => simp [intOf]; omega
    · have hge : ¬ ((i : Int) < (l : Int)) := by omega
      obtain rfl : i = l := by omega
      have hn0 : nc = 0 := by rw [← HC.out]; exact namesC_end xs (by rw [HL.out]; exact Nat.le_refl _) _
      subst hn0
      obtain ⟨A1, n1, e1⟩ := own_slice HW.out.own
      subst e1
      obtain ⟨mp, hmp⟩ : ∃ z, w.heap.size = z := ⟨_, rfl⟩
      have HS0 : Hid (Below w.heap.size w wr ∧ w.heap.size ≤ mp + 1 ∧ Cs wr (mp + 1) [.slice A1 i n1, .map (some mp), .slice none 0 0, .slice none 0 0, .slice none 0 0]) := Lib.hid (by rw [← hmp]; exact ⟨HW.out.bel, by omega, HW.out.cs⟩)
      have HIA : Hid (∀ p ∈ o.take 0, inPb i p = true) := Lib.hid (fun p hp => by simp at hp)
      rw [hmp]
      have HMP := Lib.hid hmp
      clear HC HW hmp c0 c1 hlt
      rename World => wo
      go_wp2_with fail
      go_loopw [65] (fun v wr => ∃ j : Nat, j ≤ lo ∧ v = .int .i64 j ∧ Hid (Below w.heap.size w wr ∧ w.heap.size ≤ mp + 1 ∧ Cs wr (mp + 1) [.slice A1 i n1, .map (some mp), .slice none 0 0, .slice none 0 0, .slice none 0 0]) ∧ Hid (∀ p ∈ o.take j, inPb i p = true)) (fun v _ => lo - (intOf v).toNat)
      case atStart => exact ⟨0, Nat.zero_le _, rfl, HS0, HIA⟩
      case round =>
        obtain ⟨j, hj, rfl, HS, HA⟩ := hrel
        clear HS0 HIA
        by_cases hjt : j < lo
        · have hjt' : (j : Int) < (lo : Int) := by omega
          have hj0 : (0 : Int) ≤ (j : Int) := by omega
          obtain ⟨x, y, g, f, ht, hAA, hg, k0, k1⟩ := (HO.out.below HS.out.1).at j hjt
          subst hAA
          have HT := Lib.hid ht
          clear ht
          have HNB := Lib.hid (Cs.new wr #[.int .i64 x, .int .i64 y] 42)
          have HS1 : Hid (Below w.heap.size w (wr.alloc (.cells #[.int .i64 x, .int .i64 y] 42)) ∧ w.heap.size ≤ mp + 1 ∧ Cs (wr.alloc (.cells #[.int .i64 x, .int .i64 y] 42)) (mp + 1) [.slice A1 i n1, .map (some mp), .slice none 0 0, .slice none 0 0, .slice none 0 0]) := Lib.hid ⟨HS.out.1.alloc HS.out.1.size _, HS.out.2.1, HS.out.2.2.alloc _⟩
          go_upto_region 18 with fail
          obtain ⟨w5, hwn⟩ : ∃ w5, wr.alloc (.cells #[.int .i64 x, .int .i64 y] 42) = w5 := ⟨_, rfl⟩
          obtain ⟨h5, hhn⟩ : ∃ h5, wr.heap.size = h5 := ⟨_, rfl⟩
          rw [hwn] at HNB HS1
          rw [hhn] at HNB
          rw [hwn, hhn]
          clear hwn hhn k0 k1 HS
          have n0 := HNB.out.at 0 _ rfl
          have n1' := HNB.out.at 1 _ rfl
          have c0 := HS1.out.2.2.at 0 _ rfl
          obtain ⟨b1, hb1⟩ : ∃ z, levB i x = z := ⟨_, rfl⟩
          obtain ⟨b2, hb2⟩ : ∃ z, levB i y = z := ⟨_, rfl⟩
          have HB1 := Lib.hid hb1
          have HB2 := Lib.hid hb2
          have hbad : (b1 && b2) = false → r = 3 := fun h => by
            rw [← H.out]
            refine newC_3 HN.out HNC.out ?_
            rw [List.all_eq_false]
            refine ⟨(x, y), List.mem_of_getElem? HT.out, ?_⟩
            rw [inPb_lev, HL.out, hb1, hb2, h]
            decide
          have HBAD := Lib.hid hbad
          clear hb1 hb2 hbad
          have G1 : True := trivial
          cases b1 with
          | false =>
            obtain rfl := HBAD.out rfl
            clear H HBAD
            go_wp2_with (first | (go_at_call 45; refine (has_b (mp + 1) A1 i n1 x false HB1 _ c0).mono ?_; rintro e wy ⟨rfl, rfl⟩) | fail)
            go_returns
            exact res_no HS1.out.1 (by decide)
          | true =>
            cases b2 with
            | false =>
              obtain rfl := HBAD.out rfl
              clear H HBAD
              go_wp2_with (first | (go_at_call 45; first | (clear G1; refine (has_b (mp + 1) A1 i n1 x true HB1 _ c0).mono ?_; rintro e wy ⟨rfl, rfl⟩) | (refine (has_b (mp + 1) A1 i n1 y false HB2 _ c0).mono ?_; rintro e wy ⟨rfl, rfl⟩)) | fail)
              go_returns
              exact res_no HS1.out.1 (by decide)
            | true =>
              have HA2 : Hid (∀ p ∈ o.take (j + 1), inPb i p = true) := by
                refine Lib.hid fun p hp => ?_
                rw [List.take_add_one, HT.out, Option.toList_some, List.mem_append, List.mem_singleton] at hp
                rcases hp with hp | rfl
                · exact HA.out p hp
                · rw [inPb_lev, HB1.out, HB2.out]; rfl
              clear HA HBAD
              go_wp2_with (first | (go_at_call 45; first | (clear G1; refine (has_b (mp + 1) A1 i n1 x true HB1 _ c0).mono ?_; rintro e wy ⟨rfl, rfl⟩) | (refine (has_b (mp + 1) A1 i n1 y true HB2 _ c0).mono ?_; rintro e wy ⟨rfl, rfl⟩)) | fail)
              go_roundw
              case rel => exact ⟨j + 1, by omega, by go_num, HS1, HA2⟩
              case measure => simp [intOf]; omega
        · have hge : ¬ ((j : Int) < (lo : Int)) := by omega
          obtain rfl : j = lo := by omega
          have hall : ∀ p ∈ o, inPb i p = true := by
            have h := HA.out
            rw [List.take_of_length_le (by rw [HLO.out]; exact Nat.le_refl _)] at h
            exact h
          have HALL := Lib.hid hall
          have HAL2 : Hid ((o.all (inPb xs.length)) = true) := Lib.hid (by rw [HL.out, List.all_eq_true]; exact hall)
          clear HA hjt hall
          obtain ⟨M, hM⟩ : ∃ M, lePo xs o = M := ⟨_, rfl⟩
          have HM := Lib.hid hM
          have HMC : Hid (leM i (o.map natP) = M) := Lib.hid (by rw [← hM]; unfold lePo; rw [HL.out])
          have HAO : Hid (0 < j → ∀ a, Ao = some a → a.block ≠ mp + 1) := Lib.hid (fun h0 a ha => by
            obtain ⟨g, f, h1, h2, _⟩ := HO.out.mem h0
            rw [h1] at ha
            injection ha with ha
            rw [← ha]
            have := HS.out.2.1
            simp only
            omega)
          clear hM
          rename World => wo2
          go_upto_region 22 with (first | (go_at_call 46; refine (close_b i j co hl12 A1 n1 (mp + 1) (.map (some mp)) (.slice none 0 0) (.slice none 0 0) (.slice none 0 0) Ao o _ HS.out.2.2 (HO.out.below HS.out.1) HAO.out HALL.out).mono ?_; rintro e w3 ⟨rfl, q, rb, hclo⟩) | fail)
          rw [HMC.out] at hclo
          have HCL := Lib.hid hclo
          have HB3 : Hid (Below w.heap.size w w3) := Lib.hid (hclo.fr.below HS.out.1 (fun k hk => by rw [hk]; exact HS.out.2.1) HS.out.1.size)
          clear hclo
          have HKN : Hid (NoKn M 0) := Lib.hid (fun x y hx => absurd hx (by omega))
          go_wp2_with fail
          go_loopw [87] (fun v wr => ∃ a : Nat, a ≤ i ∧ v = .int .i64 a ∧ wr = w3 ∧ Hid (NoKn M a)) (fun v _ => i - (intOf v).toNat)
          case atStart => exact ⟨0, Nat.zero_le _, rfl, rfl, HKN⟩
          case round =>
            obtain ⟨a, ha, rfl, hw3, HK⟩ := hrel
            subst hw3
            clear HKN
            have c2 := HCL.out.cs.at 2 (.slice (some ⟨q, 0, none⟩) i i) rfl
            by_cases hat : a < i
            · have hat' : (a : Int) < (i : Int) := by omega
              have ha0 : (0 : Int) ≤ (a : Int) := by omega
              have HI0 : Hid (∀ y, y < 0 → ¬ (mget M a y = true ∧ mget M y a = true)) := Lib.hid (fun y hy => absurd hy (by omega))
              go_wp2_with fail
              rename World => wo3
              go_loopw [91] (fun v wr => ∃ b : Nat, b ≤ a ∧ v = .int .i64 b ∧ wr = wo3 ∧ Hid (∀ y, y < b → ¬ (mget M a y = true ∧ mget M y a = true))) (fun v _ => a - (intOf v).toNat)
              case atStart => exact ⟨0, Nat.zero_le _, rfl, rfl, HI0⟩
              case round =>
                obtain ⟨b, hb, rfl, hw4, HI⟩ := hrel
                subst hw4
                clear HI0
                by_cases hbt : b < a
                · have hbt' : (b : Int) < (a : Int) := by omega
                  have hb0 : (0 : Int) ≤ (b : Int) := by omega
                  have hbi : (b : Int) < (i : Int) := by omega
                  have r0 := HCL.out.mem.rowAt a hat
                  have r1 := HCL.out.mem.rowAt b (by omega)
                  have k0 := HCL.out.mem.at a b hat (by omega)
                  have k1 := HCL.out.mem.at b a (by omega) hat
                  obtain ⟨x, hx⟩ : ∃ x, mget M a b = x := ⟨_, rfl⟩
                  obtain ⟨y, hy⟩ : ∃ y, mget M b a = y := ⟨_, rfl⟩
                  rw [hx] at k0
                  rw [hy] at k1
                  have HXX := Lib.hid hx
                  have HYY := Lib.hid hy
                  clear hx hy
                  have HI2 : (x && y) = false → Hid (∀ z, z < b + 1 → ¬ (mget M a z = true ∧ mget M z a = true)) := fun h => by
                    refine Lib.hid fun z hz => ?_
                    by_cases e : z = b
                    · subst e
                      rw [HXX.out, HYY.out]
                      intro h2
                      rw [h2.1, h2.2] at h
                      cases h
                    · exact HI.out z (by omega)
                  cases x with
                  | false =>
                    have HI3 := HI2 rfl
                    clear HI HI2
                    go_wp2_with fail
                    go_roundw
                    case rel => exact ⟨b + 1, by omega, by go_num, trivial, HI3⟩
                    case measure => simp [intOf]; omega
                  | true =>
                    cases y with
                    | false =>
                      have HI3 := HI2 rfl
                      clear HI HI2
                      go_wp2_with fail
                      go_roundw
                      case rel => exact ⟨b + 1, by omega, by go_num, trivial, HI3⟩
                      case measure => simp [intOf]; omega
                    | true =>
                      have hr : r = 10 := by
                        rw [← H.out]
                        refine newC_10 HN.out HNC.out HAL2.out ?_
                        rw [HM.out, HL.out]
                        exact ⟨a, b, hbt, hat, HXX.out, HYY.out⟩
                      subst hr
                      clear H HI HI2
                      go_wp2_with fail
                      go_returns
                      exact res_no HB3.out (by decide)
                · have hge : ¬ ((b : Int) < (a : Int)) := by omega
                  obtain rfl : b = a := by omega
                  have HK2 : Hid (NoKn M (b + 1)) := by
                    refine Lib.hid fun x y hx hy => ?_
                    by_cases e : x = b
                    · subst e; exact HI.out y hy
                    · exact HK.out x y (by omega) hy
                  clear HK HI hbt
                  go_wp2_with fail
                  go_roundw
                  case rel => exact ⟨b + 1, by omega, by go_num, trivial, HK2⟩
                  case measure => simp [intOf]; omega
            · have hge2 : ¬ ((a : Int) < (i : Int)) := by omega
              obtain rfl : a = i := by omega
              have HNK : Hid (¬ knotM xs.length (lePo xs o)) := Lib.hid (by
                rw [HM.out, HL.out]
                rintro ⟨x, y, h1, h2, h3, h4⟩
                exact HK.out x y h2 h1 ⟨h3, h4⟩)
              obtain ⟨rb2, hrb2⟩ : ∃ z : Bool, boundsM a M ↔ z = true := by
                by_cases h : boundsM a M
                · exact ⟨true, by simp [h]⟩
                · exact ⟨false, by simp [h]⟩
              have HRB := Lib.hid hrb2
              have HQ1 : Hid (mp + 1 ≠ q) := Lib.hid (by have := HCL.out.hq; have := HCL.out.lt; omega)
              have HQ2 : Hid (∀ x, x < a → mp + 1 ≠ rb x) := Lib.hid (fun x hx => by have := HCL.out.hr x hx; have := HCL.out.lt; omega)
              clear HK hat hrb2
              cases rb2 with
              | false =>
                have hr : r = 11 := by
                  rw [← H.out]
                  refine newC_11 HN.out HNC.out HAL2.out HNK.out ?_
                  rw [HM.out, HL.out]
                  intro h
                  have := HRB.out.1 h
                  cases this
                subst hr
                clear H
                go_wp2_with (first | (go_at_call 47; refine (bounds_b a (mp + 1) q n1 A1 (.map (some mp)) rb M hl12 false HRB _ HCL.out.cs HCL.out.mem HQ1.out HQ2.out).mono ?_; rintro e w6 ⟨rfl, hfr, _⟩; have HB6 : Hid (Below w.heap.size w w6) := Lib.hid (hfr.below HB3.out (fun k hk => by rw [hk]; exact HS.out.2.1) HB3.out.size); clear hfr) | fail)
                go_returns
                exact res_no HB6.out (by decide)
              | true =>
                have hr : r = 0 := by
                  rw [← H.out]
                  refine newC_0 HN.out HNC.out HAL2.out HNK.out ?_
                  rw [HM.out, HL.out]
                  exact HRB.out.2 rfl
                subst hr
                clear H
                go_wp2_with (first | (go_at_call 47; refine (bounds_b a (mp + 1) q n1 A1 (.map (some mp)) rb M hl12 true HRB _ HCL.out.cs HCL.out.mem HQ1.out HQ2.out).mono ?_; rintro e w6 ⟨rfl, hfr, hbo⟩; have HB6 : Hid (Below w.heap.size w w6) := Lib.hid (hfr.below HB3.out (fun k hk => by rw [hk]; exact HS.out.2.1) HB3.out.size); have HBO := Lib.hid (hbo rfl); clear hfr hbo) | fail)
                go_returns
                obtain ⟨JV, KV, jb, kb, hbo⟩ := HBO.out
                refine ⟨some ⟨mp + 1, 0, none⟩, rfl, HB6.out, fun h => absurd rfl h, fun _ => ⟨mp + 1, rfl, HS.out.2.1, ?_⟩⟩
                rw [HM.out, HL.out]
                exact ⟨A1, n1, _, JV, KV, q, _, rb, jb, kb, hbo.cs, hbo.m, hbo.j, hbo.k⟩
end Go.Proofs.YtnipigninbeplaaDoor
