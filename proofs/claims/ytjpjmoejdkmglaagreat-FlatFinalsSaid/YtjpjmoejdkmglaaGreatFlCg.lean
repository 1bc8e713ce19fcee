/-
  The walks over the reference's Space, CheckVars and sizes.
-/
import Derived.Test.YtjpjmoejdkmglaaGreatJA
namespace Go.Proofs.YtjpjmoejdkmglaaGreat
open Go.RowKit

theorem spF_le : ∀ (l : List Int) (n m : Int), n ≤ 4096 → spF l n = some m → m ≤ 4096
  | [], n, m, h, e => by rw [spF] at e; injection e with e; omega
  | s :: l, n, m, h, e => by
    rw [spF] at e
    by_cases g : 4096 < n * s
    · rw [if_pos g] at e; cases e
    · rw [if_neg g] at e; exact spF_le l _ _ (by omega) e
theorem spaceO_le {vs : List Vr} {kd n : Int} (h : spaceO vs kd = some n) : n ≤ 4096 := spF_le _ 1 n (by decide) h

def sumX : Option Int → Option Int → Option Int → Int
  | none, _, _ => 4
  | some _, none, _ => 4
  | some _, some _, none => 4
  | some _, some _, some n => if 256 < n then 4 else 0

set_option maxRecDepth 100000 in
set_option maxHeartbeats 4000000 in
theorem rspace_b (vs : List Vr) (hvb : vB vs) (Av : Option Addr) (lv cv : Nat) (kd : Int) (w : World) (hv : VOk w Av lv cv vs) (x : Option Int) (H : Hid (spaceO vs kd = x)) :
    Calls Tryz.prog 78 #[.slice Av lv cv, .int .i64 kd] w fun e w' => e = .returned (.int .i64 (x.getD 4097)) ∧ Below w.heap.size w w' := by
  have HV := Lib.hid hv
  have HVL := Lib.hid hv.len
  have HVB := Lib.hid hvb
  have hlv : lv ≤ 9223372036854775807 := by have h1 := hv.cap; have h2 := hv.big; unfold maxLen at h2; omega
  have HS0 : Hid (spF (((vs.drop 0).filter fun v => v.kind == kd).map sizeV) 1 = x) := H
  clear hv hvb H
  go_enter Tryz.func78, Tryz.ntmps78
  go_wp2_with fail
  go_loopw [5, 6] (fun u v wr => ∃ (i : Nat) (n : Int), i ≤ lv ∧ 0 ≤ n ∧ n ≤ 4096 ∧ u = .int .i64 n ∧ v = .int .i64 i ∧ Hid (spF (((vs.drop i).filter fun v => v.kind == kd).map sizeV) n = x) ∧ Hid (Below w.heap.size w wr)) (fun _ v _ => lv - (intOf v).toNat)
  case atStart => exact ⟨0, 1, by omega, by omega, by omega, rfl, rfl, HS0, Lib.hid (Below.refl _ _)⟩
  case round =>
    clear HS0
    obtain ⟨i, n, hi, hn0, hn1, rfl, rfl, HS, HB⟩ := hrel
    by_cases hlt : i < lv
    · have hlt' : (i : Int) < (lv : Int) := by omega
      have hi0 : (0 : Int) ≤ (i : Int) := by omega
      obtain ⟨s, kk, lo, hh, ii, g, f, hvs, hs, hA, hg, k0, k1, k2, k3, k4⟩ := (HV.out.below HB.out).at i hlt
      subst hA
      have hvl : i < vs.length := by rw [HVL.out]; exact hlt
      have hbd := HVB.out ⟨s, kk, lo, hh, ii⟩ (List.mem_of_getElem? hvs)
      simp only at hbd
      obtain ⟨hb1, hb2, hb3⟩ := hbd
      have hdr : vs.drop i = ⟨s, kk, lo, hh, ii⟩ :: vs.drop (i + 1) := by
        rw [List.drop_eq_getElem_cons hvl]
        rw [List.getElem?_eq_getElem hvl] at hvs
        injection hvs with hvs
        rw [hvs]
      have HX := HS.out
      rw [hdr] at HX
      clear hdr hvs k0 k4
      by_cases hk : kk = kd
      · subst hk
        have hf : ((⟨s, kk, lo, hh, ii⟩ : Vr).kind == kk) = true := by simp
        rw [List.filter_cons, if_pos hf, List.map_cons, spF] at HX
        have hsz : sizeV ⟨s, kk, lo, hh, ii⟩ = hh - lo + 1 := rfl
        rw [hsz] at HX
        obtain ⟨z, hz⟩ : ∃ z, hh - lo + 1 = z := ⟨_, rfl⟩
        rw [hz] at HX
        have hz1 : 1 ≤ z ∧ z ≤ 2097153 := by omega
        obtain ⟨hz1, hz2⟩ := hz1
        obtain ⟨P, hP⟩ : ∃ P, n * z = P := ⟨_, rfl⟩
        rw [hP] at HX
        have hP0 : 0 ≤ P := by rw [← hP]; exact Int.mul_nonneg hn0 (by omega)
        have hP1 : P ≤ 4096 * 2097153 := by rw [← hP]; exact Int.mul_le_mul hn1 hz2 (by omega) (by omega)
        have HXX := Lib.hid HX
        have hw1 : IntKind.i64.wrap (hh - lo) = hh - lo := IntWalk.i64_in _ (by omega)
        have hw2 : IntKind.i64.wrap (hh - lo + 1) = z := by rw [hz]; exact IntWalk.i64_in _ (by omega)
        have hw3 : IntKind.i64.wrap (n * z) = P := by rw [hP]; exact IntWalk.i64_in _ (by omega)
        have hne : (kk != kk) = false := bne_self kk
        clear HX hf hsz hz hP HS
        have HBZ := Lib.hid HB.out
        go_upto_region 6 with fail
        go_quiet (fail)
        clear hw1 hw2 hw3
        by_cases hg4 : 4096 < P
        · have hd : decide (4096 < P) = true := decide_eq_true hg4
          have hx : x = none := by rw [← HXX.out, if_pos hg4]
          subst hx
          clear HXX
          go_wp2_with fail
          go_ret
          exact ⟨rfl, below_drewN HBZ.out _⟩
        · have hd : decide (4096 < P) = false := decide_eq_false hg4
          have HS2 : Hid (spF (((vs.drop (i + 1)).filter fun v => v.kind == kk).map sizeV) P = x) := by show _ = _; rw [← HXX.out, if_neg hg4]
          clear HXX
          go_wp2_with fail
          go_roundw
          case rel => exact ⟨i + 1, P, by omega, by omega, by omega, rfl, by go_num, HS2, Lib.hid (below_drewN HBZ.out _)⟩
          case measure => simp [intOf]; omega
      · have hf : ¬ ((⟨s, kk, lo, hh, ii⟩ : Vr).kind == kd) = true := by simpa using hk
        rw [List.filter_cons, if_neg hf] at HX
        have HXX := Lib.hid HX
        have hne : (kk != kd) = true := bne_of hk
        clear HX hf HS
        go_wp2_with fail
        go_roundw
        case rel => exact ⟨i + 1, n, by omega, hn0, hn1, rfl, by go_num, HXX, HB⟩
        case measure => simp [intOf]; omega
    · obtain rfl : i = lv := by omega
      have hx : x = some n := by rw [← HS.out, List.drop_of_length_le (by rw [HVL.out]; exact Nat.le_refl _)]; rfl
      subst hx
      clear HS
      go_wp2_with fail
      go_ret
      exact ⟨rfl, HB.out⟩

set_option maxRecDepth 100000 in
set_option maxHeartbeats 16000000 in
theorem rcheckVars_b (vs : List Vr) (Av : Option Addr) (lv cv : Nat) (w : World) (hv : VOk w Av lv cv vs) (r : Int) (H : Hid (varsC vs = r)) :
    Calls Tryz.prog 46 #[.slice Av lv cv] w fun e w' => e = .returned (.int .i64 r) ∧ Below w.heap.size w w' := by
  have HV := Lib.hid hv
  have HVL := Lib.hid hv.len
  have hlv : lv ≤ 9223372036854775807 := by have h1 := hv.cap; have h2 := hv.big; unfold maxLen at h2; omega
  clear hv
  go_enter Tryz.func46, Tryz.ntmps46
  go_wp2_with fail
  go_loopw [3] (fun v wr => ∃ i : Nat, i ≤ lv ∧ v = .int .i64 i ∧ Hid (∀ j, j < i → varAt vs j = 0) ∧ Hid (Below w.heap.size w wr)) (fun v _ => lv - (intOf v).toNat)
  case atStart => exact ⟨0, by omega, rfl, fun j h => absurd h (by omega), Lib.hid (Below.refl _ _)⟩
  case round =>
    obtain ⟨i, hi, rfl, HK, HB⟩ := hrel
    by_cases hlt : i < lv
    · have hlt' : (i : Int) < (lv : Int) := by omega
      have hi0 : (0 : Int) ≤ (i : Int) := by omega
      obtain ⟨nm, kd, lo, hh, ii, g, f, hvs, hs, hA, hg, k0, k1, k2, k3, k4⟩ := (HV.out.below HB.out).at i hlt
      subst hA
      have hat : varAt vs i = varC (vs.take i) ⟨nm, kd, lo, hh, ii⟩ := by unfold varAt; rw [hvs]; rfl
      have HAT := Lib.hid hat
      have HIT : Hid (∀ z, z ≠ 0 → varAt vs i = z → varsC vs = z) := fun z hz e => by
        have h1 := fstC_hit vs.length i (varAt vs) (by rw [HVL.out]; exact hlt) HK.out (by rw [e]; exact hz)
        unfold varsC
        rw [h1, e, if_pos hz]
      have HVS := Lib.hid hvs
      clear hvs hat
      have hba := (Below.refl wr.heap.size wr).alloc (Nat.le_refl _) (.cells #[.string nm, .int .i64 kd, .int .i64 lo, .int .i64 hh, .int .i64 ii] 48)
      have HBx := Lib.hid (HB.out.trans (hba.mono HB.out.size))
      have HN := Lib.hid (Cs.new wr #[.string nm, .int .i64 kd, .int .i64 lo, .int .i64 hh, .int .i64 ii] 48)
      clear hba HB
      have HB := HBx
      clear HBx
      go_upto_region 5 with fail
      obtain ⟨w5, hwn⟩ : ∃ w5, wr.alloc (.cells #[.string nm, .int .i64 kd, .int .i64 lo, .int .i64 hh, .int .i64 ii] 48) = w5 := ⟨_, rfl⟩
      obtain ⟨q, hqn⟩ : ∃ q, wr.heap.size = q := ⟨_, rfl⟩
      rw [hwn] at HN HB 
      rw [hqn] at HN
      rw [hwn, hqn]
      clear hwn hqn k0 k1 k2 k3 k4
      have n0 := HN.out.at 0 _ rfl
      obtain ⟨b1, hb1⟩ : ∃ z, nameB nm = z := ⟨_, rfl⟩
      have HN1 := Lib.hid hb1
      clear hb1
      go_wp2_with fail
      go_at_call 47
      refine (risName_b nm b1 HN1 hs _).mono ?_
      rintro e wy ⟨rfl, rfl⟩
      cases b1 with
      | false =>
        have hr : r = 7 := by rw [← H.out]; exact HIT.out 7 (by decide) (by rw [HAT.out]; unfold varC; rw [if_pos HN1.out])
        subst hr
        clear H HIT
        go_wp2_with fail
        go_ret
        exact ⟨rfl, HB.out⟩
      | true =>
        clear n0
        go_upto_region 8 with fail
        obtain ⟨wo, hwo⟩ : ∃ wo, wo = wr := ⟨_, rfl⟩
        clear hwo
        go_loopw [5] (fun v wq => ∃ j : Nat, j ≤ i ∧ v = .int .i64 j ∧ Hid (∀ k v', vs[k]? = some v' → k < j → (v'.name.toList == nm.toList) = false) ∧ Hid (Below w5.heap.size w5 wq)) (fun v _ => i - (intOf v).toNat)
        case atStart => exact ⟨0, by omega, rfl, fun k _ _ h => absurd h (by omega), Lib.hid (Below.refl _ _)⟩
        case round =>
          obtain ⟨j, hj, rfl, HD, HBq⟩ := hrel
          have HB5 := Lib.hid (HB.out.trans (HBq.out.mono HB.out.size))
          have HN5 := Lib.hid (HN.out.next HBq.out)
          have n0 := HN5.out.at 0 _ rfl
          by_cases hjt : j < i
          · have hjt' : (j : Int) < (i : Int) := by omega
            have hjl : (j : Int) < (lv : Int) := by omega
            have hj0 : (0 : Int) ≤ (j : Int) := by omega
            obtain ⟨s, kk, lo', hh', ii', g', f', hvs', hs', hA', hg', k0, k1, k2, k3, k4⟩ := (HV.out.below HB5.out).at j (by omega)
            injection hA' with hA'
            injection hA' with e1 e2
            subst e1 e2
            have HVS' := Lib.hid hvs'
            have HBQ := Lib.hid HBq.out
            clear hvs' k1 k2 k3 k4
            cases hst : (s.toList == nm.toList)
            · have HST : Hid ((s.toList == nm.toList) = false) := hst
              have hst2 : (s.toList != nm.toList) = true := by rw [bne, hst]; rfl
              go_upto_region 10 with fail
              go_quiet (fail)
              clear k0 n0
              go_wp2_with fail
              go_roundw
              case rel =>
                refine ⟨j + 1, by omega, by go_num, fun k v' hv' hk' => ?_, Lib.hid (below_drewN HBQ.out _)⟩
                by_cases e : k = j
                · subst e
                  rw [HVS'.out] at hv'
                  cases hv'
                  exact HST.out
                · exact HD.out k v' hv' (by omega)
              case measure => simp [intOf]; omega
            · have hdu : dupB (vs.take i) nm = true := any_hit (k := j) (v := ⟨s, kk, lo', hh', ii'⟩) (by rw [List.getElem?_take, if_pos hjt]; exact HVS'.out) hst
              have HDU := Lib.hid hdu
              have HB5' := Lib.hid HB5.out
              clear hdu
              go_upto_region 10 with fail
              go_quiet (fail)
              clear k0 n0 hst
              have hr : r = 8 := by rw [← H.out]; exact HIT.out 8 (by decide) (by rw [HAT.out]; unfold varC; rw [if_neg (by rw [HN1.out]; decide), if_pos HDU.out])
              subst hr
              clear H HIT
              go_wp2_with fail
              go_ret
              exact ⟨rfl, below_drewN HB5'.out _⟩
          · have hdu : dupB (vs.take i) nm = false := any_none fun k v' hv' => by
              rw [List.getElem?_take] at hv'
              by_cases e : k < i
              · rw [if_pos e] at hv'; exact HD.out k v' hv' (by omega)
              · rw [if_neg e] at hv'; cases hv'
            have HDU := Lib.hid hdu
            have HB6 := Lib.hid HB5.out
            obtain ⟨b2, hb2⟩ : ∃ z, boundB lo hh = z := ⟨_, rfl⟩
            have HB2 := Lib.hid hb2
            have n1 := HN5.out.at 1 _ rfl
            have n2 := HN5.out.at 2 _ rfl
            have n3 := HN5.out.at 3 _ rfl
            have n4 := HN5.out.at 4 _ rfl
            clear hdu HD hb2 HBq HB5 n0
            by_cases k0 : kd = 0
            · subst k0
              go_wp2_with fail
              go_at_call 48
              refine (rbounded_b lo hh b2 HB2 _).mono ?_
              rintro e wy ⟨rfl, rfl⟩
              cases b2 with
              | false =>
                have hr : r = 3 := by rw [← H.out]; exact HIT.out 3 (by decide) (by rw [HAT.out]; unfold varC; rw [if_neg (by rw [HN1.out]; decide), if_neg (by rw [HDU.out]; decide), if_neg (by simp only; omega), if_pos HB2.out])
                subst hr
                clear H HIT
                go_wp2_with fail
                go_ret
                exact ⟨rfl, HB6.out⟩
              | true =>
                have hbb : ¬ (boundB lo hh = false) := by rw [HB2.out]; decide
                by_cases q1 : ii < lo
                · have d1 : decide (ii < lo) = true := decide_eq_true q1
                  have hr : r = 3 := by rw [← H.out]; exact HIT.out 3 (by decide) (by rw [HAT.out]; unfold varC; rw [if_neg (by rw [HN1.out]; decide), if_neg (by rw [HDU.out]; decide), if_neg (by simp only; omega), if_neg hbb, if_neg (fun h => h.1 rfl), if_pos ⟨rfl, .inl q1⟩])
                  subst hr
                  clear H HIT
                  go_wp2_with fail
                  go_ret
                  exact ⟨rfl, HB6.out⟩
                have d1 : decide (ii < lo) = false := decide_eq_false q1
                by_cases q2 : hh < ii
                · have d2 : decide (hh < ii) = true := decide_eq_true q2
                  have hr : r = 3 := by rw [← H.out]; exact HIT.out 3 (by decide) (by rw [HAT.out]; unfold varC; rw [if_neg (by rw [HN1.out]; decide), if_neg (by rw [HDU.out]; decide), if_neg (by simp only; omega), if_neg hbb, if_neg (fun h => h.1 rfl), if_pos ⟨rfl, .inr q2⟩])
                  subst hr
                  clear H HIT
                  go_wp2_with fail
                  go_ret
                  exact ⟨rfl, HB6.out⟩
                have d2 : decide (hh < ii) = false := decide_eq_false q2
                have HK' : Hid (∀ j, j < i + 1 → varAt vs j = 0) := fun j hj => by
                  by_cases e : j = i
                  · subst e; rw [HAT.out]; unfold varC; rw [if_neg (by rw [HN1.out]; decide), if_neg (by rw [HDU.out]; decide), if_neg (by simp only; omega), if_neg hbb, if_neg (fun h => h.1 rfl), if_neg (fun h => h.2.elim q1 q2)]
                  · exact HK.out j (by omega)
                clear H HIT HAT
                go_wp2_with fail
                go_roundw
                case rel => exact ⟨i + 1, by omega, by go_num, HK', HB6⟩
                case measure => simp [intOf]; omega
            by_cases k1 : kd = 1
            · subst k1
              go_wp2_with fail
              go_at_call 48
              refine (rbounded_b lo hh b2 HB2 _).mono ?_
              rintro e wy ⟨rfl, rfl⟩
              cases b2 with
              | false =>
                have hr : r = 3 := by rw [← H.out]; exact HIT.out 3 (by decide) (by rw [HAT.out]; unfold varC; rw [if_neg (by rw [HN1.out]; decide), if_neg (by rw [HDU.out]; decide), if_neg (by simp only; omega), if_pos HB2.out])
                subst hr
                clear H HIT
                go_wp2_with fail
                go_ret
                exact ⟨rfl, HB6.out⟩
              | true =>
                have hbb : ¬ (boundB lo hh = false) := by rw [HB2.out]; decide
                by_cases q1 : ii = 0
                case neg =>
                  have d1 := bne_of q1
                  have hr : r = 3 := by rw [← H.out]; exact HIT.out 3 (by decide) (by rw [HAT.out]; unfold varC; rw [if_neg (by rw [HN1.out]; decide), if_neg (by rw [HDU.out]; decide), if_neg (by simp only; omega), if_neg hbb, if_pos (by simp only; omega)])
                  subst hr
                  clear H HIT
                  go_wp2_with fail
                  go_ret
                  exact ⟨rfl, HB6.out⟩
                have d1 : (ii != 0) = false := by rw [q1]; rfl
                have HK' : Hid (∀ j, j < i + 1 → varAt vs j = 0) := fun j hj => by
                  by_cases e : j = i
                  · subst e; rw [HAT.out]; unfold varC; rw [if_neg (by rw [HN1.out]; decide), if_neg (by rw [HDU.out]; decide), if_neg (by simp only; omega), if_neg hbb, if_neg (by simp only; omega), if_neg (by simp only; omega)]
                  · exact HK.out j (by omega)
                clear q1
                clear H HIT HAT
                go_wp2_with fail
                go_roundw
                case rel => exact ⟨i + 1, by omega, by go_num, HK', HB6⟩
                case measure => simp [intOf]; omega
            by_cases k2 : kd = 2
            · subst k2
              go_wp2_with fail
              go_at_call 48
              refine (rbounded_b lo hh b2 HB2 _).mono ?_
              rintro e wy ⟨rfl, rfl⟩
              cases b2 with
              | false =>
                have hr : r = 3 := by rw [← H.out]; exact HIT.out 3 (by decide) (by rw [HAT.out]; unfold varC; rw [if_neg (by rw [HN1.out]; decide), if_neg (by rw [HDU.out]; decide), if_neg (by simp only; omega), if_pos HB2.out])
                subst hr
                clear H HIT
                go_wp2_with fail
                go_ret
                exact ⟨rfl, HB6.out⟩
              | true =>
                have hbb : ¬ (boundB lo hh = false) := by rw [HB2.out]; decide
                by_cases q1 : ii = 0
                case neg =>
                  have d1 := bne_of q1
                  have hr : r = 3 := by rw [← H.out]; exact HIT.out 3 (by decide) (by rw [HAT.out]; unfold varC; rw [if_neg (by rw [HN1.out]; decide), if_neg (by rw [HDU.out]; decide), if_neg (by simp only; omega), if_neg hbb, if_pos (by simp only; omega)])
                  subst hr
                  clear H HIT
                  go_wp2_with fail
                  go_ret
                  exact ⟨rfl, HB6.out⟩
                have d1 : (ii != 0) = false := by rw [q1]; rfl
                have HK' : Hid (∀ j, j < i + 1 → varAt vs j = 0) := fun j hj => by
                  by_cases e : j = i
                  · subst e; rw [HAT.out]; unfold varC; rw [if_neg (by rw [HN1.out]; decide), if_neg (by rw [HDU.out]; decide), if_neg (by simp only; omega), if_neg hbb, if_neg (by simp only; omega), if_neg (by simp only; omega)]
                  · exact HK.out j (by omega)
                clear q1
                clear H HIT HAT
                go_wp2_with fail
                go_roundw
                case rel => exact ⟨i + 1, by omega, by go_num, HK', HB6⟩
                case measure => simp [intOf]; omega
            by_cases k3 : kd = 3
            · subst k3
              go_wp2_with fail
              go_at_call 48
              refine (rbounded_b lo hh b2 HB2 _).mono ?_
              rintro e wy ⟨rfl, rfl⟩
              cases b2 with
              | false =>
                have hr : r = 3 := by rw [← H.out]; exact HIT.out 3 (by decide) (by rw [HAT.out]; unfold varC; rw [if_neg (by rw [HN1.out]; decide), if_neg (by rw [HDU.out]; decide), if_neg (by simp only; omega), if_pos HB2.out])
                subst hr
                clear H HIT
                go_wp2_with fail
                go_ret
                exact ⟨rfl, HB6.out⟩
              | true =>
                have hbb : ¬ (boundB lo hh = false) := by rw [HB2.out]; decide
                by_cases q1 : ii = 0
                case neg =>
                  have d1 := bne_of q1
                  have hr : r = 3 := by rw [← H.out]; exact HIT.out 3 (by decide) (by rw [HAT.out]; unfold varC; rw [if_neg (by rw [HN1.out]; decide), if_neg (by rw [HDU.out]; decide), if_neg (by simp only; omega), if_neg hbb, if_pos (by simp only; omega)])
                  subst hr
                  clear H HIT
                  go_wp2_with fail
                  go_ret
                  exact ⟨rfl, HB6.out⟩
                have d1 : (ii != 0) = false := by rw [q1]; rfl
                have HK' : Hid (∀ j, j < i + 1 → varAt vs j = 0) := fun j hj => by
                  by_cases e : j = i
                  · subst e; rw [HAT.out]; unfold varC; rw [if_neg (by rw [HN1.out]; decide), if_neg (by rw [HDU.out]; decide), if_neg (by simp only; omega), if_neg hbb, if_neg (by simp only; omega), if_neg (by simp only; omega)]
                  · exact HK.out j (by omega)
                clear q1
                clear H HIT HAT
                go_wp2_with fail
                go_roundw
                case rel => exact ⟨i + 1, by omega, by go_num, HK', HB6⟩
                case measure => simp [intOf]; omega
            have q0 := bne_of k0
            have q1 := bne_of k1
            have q2 := bne_of k2
            have q3 := bne_of k3
            have hr : r = 1 := by rw [← H.out]; exact HIT.out 1 (by decide) (by rw [HAT.out]; unfold varC; rw [if_neg (by rw [HN1.out]; decide), if_neg (by rw [HDU.out]; decide), if_pos (by simp only; omega)])
            subst hr
            clear H HIT
            go_wp2_with fail
            go_ret
            exact ⟨rfl, HB6.out⟩
    · obtain rfl : i = lv := by omega
      have hf0 : fstC vs.length (varAt vs) = 0 := fstC_none _ _ fun j hj => HK.out j (by rw [← HVL.out]; exact hj)
      have hvb : vB vs := vars_B fun j hj => HK.out j (by rw [← HVL.out]; exact hj)
      have HR : Hid (fstC 3 (fun i => spaceC vs (i + 1)) = r) := by show _ = _; rw [← H.out, varsC, hf0]; rfl
      obtain ⟨x1, hx1⟩ : ∃ z, spaceO vs 1 = z := ⟨_, rfl⟩
      obtain ⟨x2, hx2⟩ : ∃ z, spaceO vs 2 = z := ⟨_, rfl⟩
      obtain ⟨x3, hx3⟩ : ∃ z, spaceO vs 3 = z := ⟨_, rfl⟩
      have HX1 := Lib.hid hx1
      have HX2 := Lib.hid hx2
      have HX3 := Lib.hid hx3
      have HVB := Lib.hid hvb
      have l1 : ∀ n, x1 = some n → n ≤ 4096 := fun n e => spaceO_le (by rw [hx1, e])
      have l2 : ∀ n, x2 = some n → n ≤ 4096 := fun n e => spaceO_le (by rw [hx2, e])
      have HSUM : Hid (sumX x1 x2 x3 = r) := by
        show _ = _
        rw [← HR.out]
        cases x1 <;> cases x2 <;> cases x3 <;> simp [fstC, spaceC, hx1, hx2, hx3, sumX]
        all_goals (split <;> simp_all)
      clear hx1 hx2 hx3 hvb hf0 HK HR H
      go_wp2_with fail
      go_at_call 78
      refine (rspace_b vs HVB.out Av i cv 1 _ (HV.out.below HB.out) x1 HX1).mono ?_
      rintro e w2 ⟨rfl, hb⟩
      have HB2 := Lib.hid (HB.out.trans (hb.mono HB.out.size))
      clear hb HB
      cases x1 with
      | none =>
        have hr : r = 4 := HSUM.out.symm
        subst hr
        clear HSUM l1 l2
        simp only [Option.getD_none]
        go_wp2_with fail
        go_ret
        exact ⟨rfl, HB2.out⟩
      | some n1 =>
        have m1 := l1 n1 rfl
        have d1 : decide (4096 < n1) = false := decide_eq_false (by omega)
        clear l1
        simp only [Option.getD_some]
        go_wp2_with fail
        go_at_call 78
        refine (rspace_b vs HVB.out Av i cv 2 _ (HV.out.below HB2.out) x2 HX2).mono ?_
        rintro e w3 ⟨rfl, hb⟩
        have HB3 := Lib.hid (HB2.out.trans (hb.mono HB2.out.size))
        clear hb HB2
        cases x2 with
        | none =>
          have hr : r = 4 := HSUM.out.symm
          subst hr
          clear HSUM l2
          simp only [Option.getD_none]
          go_wp2_with fail
          go_ret
          exact ⟨rfl, HB3.out⟩
        | some n2 =>
          have m2 := l2 n2 rfl
          have d2 : decide (4096 < n2) = false := decide_eq_false (by omega)
          clear l2
          simp only [Option.getD_some]
          go_wp2_with fail
          go_at_call 78
          refine (rspace_b vs HVB.out Av i cv 3 _ (HV.out.below HB3.out) x3 HX3).mono ?_
          rintro e w4 ⟨rfl, hb⟩
          have HB4 := Lib.hid (HB3.out.trans (hb.mono HB3.out.size))
          clear hb HB3
          cases x3 with
          | none =>
            have hr : r = 4 := HSUM.out.symm
            subst hr
            clear HSUM
            simp only [Option.getD_none]
            go_wp2_with fail
            go_ret
            exact ⟨rfl, HB4.out⟩
          | some n3 =>
            simp only [Option.getD_some]
            by_cases g : 256 < n3
            · have d3 : decide (256 < n3) = true := decide_eq_true g
              have hr : r = 4 := by rw [← HSUM.out]; exact if_pos g
              subst hr
              clear HSUM
              go_wp2_with fail
              go_ret
              exact ⟨rfl, HB4.out⟩
            · have d3 : decide (256 < n3) = false := decide_eq_false g
              have hr : r = 0 := by rw [← HSUM.out]; exact if_neg g
              subst hr
              clear HSUM
              go_wp2_with fail
              go_ret
              exact ⟨rfl, HB4.out⟩
end Go.Proofs.YtjpjmoejdkmglaaGreat
