/-
  The walk over the program's formed.
-/
import Derived.Test.YtjpjmoejdkmglaaGreatFlA
namespace Go.Proofs.YtjpjmoejdkmglaaGreat
open Go.RowKit

/-- The world behind the entry of a function that takes a term. -/
def boxT (w : World) (o n : Int) (A : Option Addr) (l c : Nat) : World := w.alloc (.cells #[.int .i64 o, .int .i64 n, .slice A l c] 53)
theorem boxT_below (w : World) (o n : Int) (A : Option Addr) (l c : Nat) : Below w.heap.size w (boxT w o n A l c) := (Below.refl _ _).alloc (Nat.le_refl _) _
theorem boxT_cs (w : World) (o n : Int) (A : Option Addr) (l c : Nat) : Cs (boxT w o n A l c) w.heap.size [.int .i64 o, .int .i64 n, .slice A l c] := Cs.new _ _ _

set_option maxRecDepth 100000 in
set_option maxHeartbeats 4000000 in
theorem formed_any (vs : List Vr) (Av : Option Addr) (lv cv : Nat) (m : Nat) : ∀ (o n : Int) (ks : List Tm) (l : Nat) (A : Option Addr) (c : Nat) (inp : Bool) (w : World) (b : Bool), ks.length = l → Tm.cnt (.mk o n ks) ≤ m → TOk w A c ks → VOk w Av lv cv vs → Hid (formedB vs inp (.mk o n ks) = b) →
    Calls Tryz.prog 89 #[.slice Av lv cv, .agg #[.int .i64 o, .int .i64 n, .slice A l c], .bool inp] w fun e w' => e = .returned (.bool b) ∧ Below w.heap.size w w' := by
  induction m with
  | zero => intro o n ks l A c inp w b _ h; have := Tm.cnt_pos (.mk o n ks); omega
  | succ m ih =>
    intro o n ks l A c inp w b hl hm ht hv H
    have IH := Lib.hid ih
    have HM : Hid (Tm.cntL ks ≤ m) := by show _ ≤ _; simp only [Tm.cnt] at hm; omega
    have HL := Lib.hid hl
    have HT := Lib.hid ht
    have HV := Lib.hid hv
    have hlm : l ≤ 9223372036854775807 := by have h1 := ht.1; have h2 := ht.2.1; unfold maxLen at h2; omega
    have hlv : lv ≤ 9223372036854775807 := by have h1 := hv.cap; have h2 := hv.big; unfold maxLen at h2; omega
    have hvl := hv.len
    have HVL := Lib.hid hvl
    have HC := Lib.hid (boxT_cs w o n A l c)
    have HB := Lib.hid (boxT_below w o n A l c)
    obtain ⟨⟨p, q⟩, hpq⟩ : ∃ R, kidsP o = R := ⟨_, rfl⟩
    have HPQ := Lib.hid hpq
    clear ih hm hl ht hv hpq hvl
    go_enter Tryz.func89, Tryz.ntmps89
    go_wp2_with fail
    go_at_call 105
    refine (kids_b o (p, q) HPQ _).mono ?_
    rintro e w2 ⟨rfl, rfl⟩
    have r0 := HC.out.at 0 _ rfl
    have r1 := HC.out.at 1 _ rfl
    have r2 := HC.out.at 2 _ rfl
    change (boxT w o n A l c).cell? _ = _ at r0 r1 r2
    unfold boxT at r0 r1 r2
    by_cases h1 : p < 0
    · have hd : decide (p < 0) = true := decide_eq_true h1
      have hb : b = false := by
        rw [← H.out, formedB, formedN, HPQ.out, decide_eq_false (show ¬ 0 ≤ (p, q).1 by simp only; omega)]; rfl
      subst hb
      clear H
      go_wp2_with fail
      go_ret
      exact ⟨rfl, HB.out⟩
    have hd1 : decide (p < 0) = false := decide_eq_false h1
    by_cases h2 : (l : Int) < p
    · have hd : decide ((l : Int) < p) = true := decide_eq_true h2
      have hb : b = false := by
        rw [← H.out, formedB, formedN, HPQ.out, HL.out, decide_eq_false (show ¬ (p, q).1 ≤ (l : Int) by simp only; omega)]; simp
      subst hb
      clear H
      go_wp2_with fail
      go_ret
      exact ⟨rfl, HB.out⟩
    have hd2 : decide ((l : Int) < p) = false := decide_eq_false h2
    by_cases h3 : q < (l : Int)
    · have hd : decide (q < (l : Int)) = true := decide_eq_true h3
      have hb : b = false := by
        rw [← H.out, formedB, formedN, HPQ.out, HL.out, decide_eq_false (show ¬ (l : Int) ≤ (p, q).2 by simp only; omega)]; simp
      subst hb
      clear H
      go_wp2_with fail
      go_ret
      exact ⟨rfl, HB.out⟩
    have hd3 : decide (q < (l : Int)) = false := decide_eq_false h3
    have h3' : ¬ (q < (l : Int)) := h3
    have HN0 : Hid (formedN vs inp o n ks.length = (if o = 0 then true else if o = 24 then decide (0 ≤ n) && (decide (n < (vs.length : Int)) && !(inp && decide (((vs[n.toNat]?).map Vr.kind).getD 1 = 0))) else decide (n = 0))) := by
      show _ = _
      rw [formedN, HPQ.out, HL.out, decide_eq_true (show 0 ≤ (p, q).1 by simp only; omega), decide_eq_true (show (p, q).1 ≤ (l : Int) by simp only; omega), decide_eq_true (show (l : Int) ≤ (p, q).2 by simp only; omega)]
      rfl
    by_cases h0 : o = 0
    · have HN : Hid (formedN vs inp o n ks.length = true) := by show _ = _; rw [HN0.out, if_pos h0]
      have hq0 : (o == 0) = true := by rw [beq_iff_eq]; exact h0
      clear h0 HN0
      go_upto_region 12 with fail
      go_loopw [67] (fun v wr => ∃ k : Nat, k ≤ l ∧ v = .int .i64 k ∧ Hid (∀ i (hi : i < ks.length), i < k → formedB vs inp ks[i] = true) ∧ Hid (Below w.heap.size w wr)) (fun v _ => l - (intOf v).toNat)
      case atStart => exact ⟨0, by omega, rfl, fun i _ hi => absurd hi (by omega), HB⟩
      case round =>
        clear HB HC r0 r1 r2
        obtain ⟨k, hk, rfl, HK, HB⟩ := hrel
        by_cases hlt : k < l
        · have hkl : k < ks.length := by rw [HL.out]; exact hlt
          obtain ⟨o', n', ks', g, f, A', c', hkid, hA, hg, hok, k0, k1, k2⟩ := (HT.out.below HB.out).kid k hkl
          subst hA
          obtain ⟨l', hl'⟩ : ∃ l', ks'.length = l' := ⟨_, rfl⟩
          rw [hl'] at k2
          obtain ⟨x, hx⟩ : ∃ x, formedB vs inp (.mk o' n' ks') = x := ⟨_, rfl⟩
          have HX := Lib.hid hx
          have HKID := Lib.hid hkid
          have hcm : Tm.cnt (.mk o' n' ks') ≤ m := by have := Tm.cntL_get ks k hkl; rw [hkid] at this; exact Nat.le_trans this HM.out
          have HCM := Lib.hid hcm
          have hba := (Below.refl wr.heap.size wr).alloc (Nat.le_refl _) (.cells #[.int .i64 o', .int .i64 n', .slice A' l' c'] 53)
          have HOK := Lib.hid (hok.below hba)
          have HVB := Lib.hid ((HV.out.below HB.out).below hba)
          have HB2 := Lib.hid (HB.out.trans (hba.mono HB.out.size))
          have HL' := Lib.hid hl'
          have hlt' : (k : Int) < (l : Int) := by omega
          clear hba hok hkid hl' hx hcm
          go_wp2_with fail
          go_at_call 89
          refine (IH.out o' n' ks' l' A' c' inp _ x HL'.out HCM.out HOK.out HVB.out HX).mono ?_
          rintro e w3 ⟨rfl, hb3⟩
          have HB3 := Lib.hid (HB2.out.trans (hb3.mono HB2.out.size))
          clear hb3 HB2 HOK HVB HB k0 k1 k2
          cases x with
          | true =>
            have HK' : Hid (∀ i (hi : i < ks.length), i < k + 1 → formedB vs inp ks[i] = true) := fun i hi hik => by
              by_cases hki : i = k
              · subst hki; rw [HKID.out, HX.out]
              · exact HK.out i hi (by omega)
            clear HK
            go_wp2_with fail
            go_roundw
            case rel => exact ⟨k + 1, by omega, by go_num, HK', HB3⟩
            case measure => simp [intOf]; omega
          | false =>
            have hb : b = false := by
              rw [← H.out, formedB, formedL_take vs inp ks k hkl (by rw [HKID.out, HX.out])]
              simp
            subst hb
            clear HK H
            go_wp2_with fail
            go_ret
            exact ⟨rfl, HB3.out⟩
        · have hb : b = true := by
            rw [← H.out, formedB, HN.out, formedL_all vs inp ks fun i hi => HK.out i hi (by have := HL.out; omega)]
            rfl
          subst hb
          clear HK H
          go_wp2_with fail
          go_ret
          exact ⟨rfl, HB.out⟩
    have hq0 := beq_of h0
    by_cases h24 : o = 24
    case neg =>
      have hq24 := beq_of h24
      by_cases hn : n = 0
      case neg =>
        have hdn : (n != 0) = true := bne_of hn
        have hb : b = false := by
          rw [← H.out, formedB, HN0.out, if_neg h0, if_neg h24, decide_eq_false hn]; rfl
        subst hb
        clear H
        go_wp2_with fail
        go_ret
        exact ⟨rfl, HB.out⟩
      have HN : Hid (formedN vs inp o n ks.length = true) := by show _ = _; rw [HN0.out, if_neg h0, if_neg h24, decide_eq_true hn]
      subst hn
      clear h0 h24 HN0
      go_upto_region 12 with fail
      go_loopw [67] (fun v wr => ∃ k : Nat, k ≤ l ∧ v = .int .i64 k ∧ Hid (∀ i (hi : i < ks.length), i < k → formedB vs inp ks[i] = true) ∧ Hid (Below w.heap.size w wr)) (fun v _ => l - (intOf v).toNat)
      case atStart => exact ⟨0, by omega, rfl, fun i _ hi => absurd hi (by omega), HB⟩
      case round =>
        clear HB HC r0 r1 r2
        obtain ⟨k, hk, rfl, HK, HB⟩ := hrel
        by_cases hlt : k < l
        · have hkl : k < ks.length := by rw [HL.out]; exact hlt
          obtain ⟨o', n', ks', g, f, A', c', hkid, hA, hg, hok, k0, k1, k2⟩ := (HT.out.below HB.out).kid k hkl
          subst hA
          obtain ⟨l', hl'⟩ : ∃ l', ks'.length = l' := ⟨_, rfl⟩
          rw [hl'] at k2
          obtain ⟨x, hx⟩ : ∃ x, formedB vs inp (.mk o' n' ks') = x := ⟨_, rfl⟩
          have HX := Lib.hid hx
          have HKID := Lib.hid hkid
          have hcm : Tm.cnt (.mk o' n' ks') ≤ m := by have := Tm.cntL_get ks k hkl; rw [hkid] at this; exact Nat.le_trans this HM.out
          have HCM := Lib.hid hcm
          have hba := (Below.refl wr.heap.size wr).alloc (Nat.le_refl _) (.cells #[.int .i64 o', .int .i64 n', .slice A' l' c'] 53)
          have HOK := Lib.hid (hok.below hba)
          have HVB := Lib.hid ((HV.out.below HB.out).below hba)
          have HB2 := Lib.hid (HB.out.trans (hba.mono HB.out.size))
          have HL' := Lib.hid hl'
          have hlt' : (k : Int) < (l : Int) := by omega
          clear hba hok hkid hl' hx hcm
          go_wp2_with fail
          go_at_call 89
          refine (IH.out o' n' ks' l' A' c' inp _ x HL'.out HCM.out HOK.out HVB.out HX).mono ?_
          rintro e w3 ⟨rfl, hb3⟩
          have HB3 := Lib.hid (HB2.out.trans (hb3.mono HB2.out.size))
          clear hb3 HB2 HOK HVB HB k0 k1 k2
          cases x with
          | true =>
            have HK' : Hid (∀ i (hi : i < ks.length), i < k + 1 → formedB vs inp ks[i] = true) := fun i hi hik => by
              by_cases hki : i = k
              · subst hki; rw [HKID.out, HX.out]
              · exact HK.out i hi (by omega)
            clear HK
            go_wp2_with fail
            go_roundw
            case rel => exact ⟨k + 1, by omega, by go_num, HK', HB3⟩
            case measure => simp [intOf]; omega
          | false =>
            have hb : b = false := by
              rw [← H.out, formedB, formedL_take vs inp ks k hkl (by rw [HKID.out, HX.out])]
              simp
            subst hb
            clear HK H
            go_wp2_with fail
            go_ret
            exact ⟨rfl, HB3.out⟩
        · have hb : b = true := by
            rw [← H.out, formedB, HN.out, formedL_all vs inp ks fun i hi => HK.out i hi (by have := HL.out; omega)]
            rfl
          subst hb
          clear HK H
          go_wp2_with fail
          go_ret
          exact ⟨rfl, HB.out⟩
    have hq24 : (o == 24) = true := by rw [beq_iff_eq]; exact h24
    have HN1 : Hid (formedN vs inp o n ks.length = (decide (0 ≤ n) && (decide (n < (vs.length : Int)) && !(inp && decide (((vs[n.toNat]?).map Vr.kind).getD 1 = 0))))) := by
      show _ = _; rw [HN0.out, if_neg h0, if_pos h24]
    clear HN0 h0 h24
    by_cases hn0 : n < 0
    · have hdn : decide (n < 0) = true := decide_eq_true hn0
      have hb : b = false := by
        rw [← H.out, formedB, HN1.out, decide_eq_false (show ¬ 0 ≤ n by omega)]; rfl
      subst hb
      clear H
      go_wp2_with fail
      go_ret
      exact ⟨rfl, HB.out⟩
    have hdn : decide (n < 0) = false := decide_eq_false hn0
    obtain ⟨i, rfl⟩ : ∃ i : Nat, n = i := ⟨n.toNat, by omega⟩
    by_cases hni : lv ≤ i
    · have hdi : decide ((lv : Int) ≤ (i : Int)) = true := decide_eq_true (by omega)
      have hb : b = false := by
        rw [← H.out, formedB, HN1.out, HVL.out, decide_eq_false (show ¬ (i : Int) < (lv : Int) by omega)]; simp
      subst hb
      clear H
      go_wp2_with fail
      go_ret
      exact ⟨rfl, HB.out⟩
    have hdi : decide ((lv : Int) ≤ (i : Int)) = false := decide_eq_false (by omega)
    have hiv : i < lv := by omega
    have hiv' : (i : Int) < (lv : Int) := by omega
    cases inp with
    | false =>
      have HN : Hid (formedN vs false o i ks.length = true) := by
        show _ = _; rw [HN1.out, HVL.out, decide_eq_true (show (0 : Int) ≤ (i : Int) by omega), decide_eq_true hiv']; rfl
      clear HN1
      go_upto_region 12 with fail
      go_loopw [67] (fun v wr => ∃ k : Nat, k ≤ l ∧ v = .int .i64 k ∧ Hid (∀ i (hi : i < ks.length), i < k → formedB vs false ks[i] = true) ∧ Hid (Below w.heap.size w wr)) (fun v _ => l - (intOf v).toNat)
      case atStart => exact ⟨0, by omega, rfl, fun i _ hi => absurd hi (by omega), HB⟩
      case round =>
        clear HB HC r0 r1 r2
        obtain ⟨k, hk, rfl, HK, HB⟩ := hrel
        by_cases hlt : k < l
        · have hkl : k < ks.length := by rw [HL.out]; exact hlt
          obtain ⟨o', n', ks', g, f, A', c', hkid, hA, hg, hok, k0, k1, k2⟩ := (HT.out.below HB.out).kid k hkl
          subst hA
          obtain ⟨l', hl'⟩ : ∃ l', ks'.length = l' := ⟨_, rfl⟩
          rw [hl'] at k2
          obtain ⟨x, hx⟩ : ∃ x, formedB vs false (.mk o' n' ks') = x := ⟨_, rfl⟩
          have HX := Lib.hid hx
          have HKID := Lib.hid hkid
          have hcm : Tm.cnt (.mk o' n' ks') ≤ m := by have := Tm.cntL_get ks k hkl; rw [hkid] at this; exact Nat.le_trans this HM.out
          have HCM := Lib.hid hcm
          have hba := (Below.refl wr.heap.size wr).alloc (Nat.le_refl _) (.cells #[.int .i64 o', .int .i64 n', .slice A' l' c'] 53)
          have HOK := Lib.hid (hok.below hba)
          have HVB := Lib.hid ((HV.out.below HB.out).below hba)
          have HB2 := Lib.hid (HB.out.trans (hba.mono HB.out.size))
          have HL' := Lib.hid hl'
          have hlt' : (k : Int) < (l : Int) := by omega
          clear hba hok hkid hl' hx hcm
          go_wp2_with fail
          go_at_call 89
          refine (IH.out o' n' ks' l' A' c' false _ x HL'.out HCM.out HOK.out HVB.out HX).mono ?_
          rintro e w3 ⟨rfl, hb3⟩
          have HB3 := Lib.hid (HB2.out.trans (hb3.mono HB2.out.size))
          clear hb3 HB2 HOK HVB HB k0 k1 k2
          cases x with
          | true =>
            have HK' : Hid (∀ i (hi : i < ks.length), i < k + 1 → formedB vs false ks[i] = true) := fun i hi hik => by
              by_cases hki : i = k
              · subst hki; rw [HKID.out, HX.out]
              · exact HK.out i hi (by omega)
            clear HK
            go_wp2_with fail
            go_roundw
            case rel => exact ⟨k + 1, by omega, by go_num, HK', HB3⟩
            case measure => simp [intOf]; omega
          | false =>
            have hb : b = false := by
              rw [← H.out, formedB, formedL_take vs false ks k hkl (by rw [HKID.out, HX.out])]
              simp
            subst hb
            clear HK H
            go_wp2_with fail
            go_ret
            exact ⟨rfl, HB3.out⟩
        · have hb : b = true := by
            rw [← H.out, formedB, HN.out, formedL_all vs false ks fun i hi => HK.out i hi (by have := HL.out; omega)]
            rfl
          subst hb
          clear HK H
          go_wp2_with fail
          go_ret
          exact ⟨rfl, HB.out⟩
    | true =>
      obtain ⟨s, kd, lo, hi, ii, g, f, hvs, _, hA, hg, v0, v1, _⟩ := (HV.out.below HB.out).at i hiv
      subst hA
      change (boxT w o i A l c).cell? _ = _ at v1
      unfold boxT at v1
      have HVS := Lib.hid hvs
      clear hvs v0
      by_cases hkd : kd = 0
      · have hqk : (kd == 0) = true := by rw [beq_iff_eq]; exact hkd
        have hb : b = false := by
          rw [← H.out, formedB, HN1.out, HVL.out, Int.toNat_natCast, HVS.out, Option.map_some, Option.getD_some, decide_eq_true hkd]; simp
        subst hb
        clear H
        go_wp2_with fail
        go_ret
        exact ⟨rfl, HB.out⟩
      · have hqk := beq_of hkd
        have HN : Hid (formedN vs true o i ks.length = true) := by
          show _ = _; rw [HN1.out, HVL.out, Int.toNat_natCast, HVS.out, Option.map_some, Option.getD_some, decide_eq_false hkd, decide_eq_true (show (0 : Int) ≤ (i : Int) by omega), decide_eq_true hiv']; rfl
        clear HN1 hkd
        go_upto_region 12 with fail
        go_loopw [67] (fun v wr => ∃ k : Nat, k ≤ l ∧ v = .int .i64 k ∧ Hid (∀ i (hi : i < ks.length), i < k → formedB vs true ks[i] = true) ∧ Hid (Below w.heap.size w wr)) (fun v _ => l - (intOf v).toNat)
        case atStart => exact ⟨0, by omega, rfl, fun i _ hi => absurd hi (by omega), HB⟩
        case round =>
          clear HB HC r0 r1 r2
          obtain ⟨k, hk, rfl, HK, HB⟩ := hrel
          by_cases hlt : k < l
          · have hkl : k < ks.length := by rw [HL.out]; exact hlt
            obtain ⟨o', n', ks', g, f, A', c', hkid, hA, hg, hok, k0, k1, k2⟩ := (HT.out.below HB.out).kid k hkl
            subst hA
            obtain ⟨l', hl'⟩ : ∃ l', ks'.length = l' := ⟨_, rfl⟩
            rw [hl'] at k2
            obtain ⟨x, hx⟩ : ∃ x, formedB vs true (.mk o' n' ks') = x := ⟨_, rfl⟩
            have HX := Lib.hid hx
            have HKID := Lib.hid hkid
            have hcm : Tm.cnt (.mk o' n' ks') ≤ m := by have := Tm.cntL_get ks k hkl; rw [hkid] at this; exact Nat.le_trans this HM.out
            have HCM := Lib.hid hcm
            have hba := (Below.refl wr.heap.size wr).alloc (Nat.le_refl _) (.cells #[.int .i64 o', .int .i64 n', .slice A' l' c'] 53)
            have HOK := Lib.hid (hok.below hba)
            have HVB := Lib.hid ((HV.out.below HB.out).below hba)
            have HB2 := Lib.hid (HB.out.trans (hba.mono HB.out.size))
            have HL' := Lib.hid hl'
            have hlt' : (k : Int) < (l : Int) := by omega
            clear hba hok hkid hl' hx hcm
            go_wp2_with fail
            go_at_call 89
            refine (IH.out o' n' ks' l' A' c' true _ x HL'.out HCM.out HOK.out HVB.out HX).mono ?_
            rintro e w3 ⟨rfl, hb3⟩
            have HB3 := Lib.hid (HB2.out.trans (hb3.mono HB2.out.size))
            clear hb3 HB2 HOK HVB HB k0 k1 k2
            cases x with
            | true =>
              have HK' : Hid (∀ i (hi : i < ks.length), i < k + 1 → formedB vs true ks[i] = true) := fun i hi hik => by
                by_cases hki : i = k
                · subst hki; rw [HKID.out, HX.out]
                · exact HK.out i hi (by omega)
              clear HK
              go_wp2_with fail
              go_roundw
              case rel => exact ⟨k + 1, by omega, by go_num, HK', HB3⟩
              case measure => simp [intOf]; omega
            | false =>
              have hb : b = false := by
                rw [← H.out, formedB, formedL_take vs true ks k hkl (by rw [HKID.out, HX.out])]
                simp
              subst hb
              clear HK H
              go_wp2_with fail
              go_ret
              exact ⟨rfl, HB3.out⟩
          · have hb : b = true := by
              rw [← H.out, formedB, HN.out, formedL_all vs true ks fun i hi => HK.out i hi (by have := HL.out; omega)]
              rfl
            subst hb
            clear HK H
            go_wp2_with fail
            go_ret
            exact ⟨rfl, HB.out⟩
end Go.Proofs.YtjpjmoejdkmglaaGreat
