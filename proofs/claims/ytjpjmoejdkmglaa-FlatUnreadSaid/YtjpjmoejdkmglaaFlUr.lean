/-
  The walk over FlatUnread.
-/
import Derived.Test.YtjpjmoejdkmglaaFlUp
import Derived.Test.YtjpjmoejdkmglaaJD
import Derived.Test.YtjpjmoejdkmglaaFlQa
import Derived.Deep.CutRange
namespace Go.Proofs.Ytjpjmoejdkmglaa
open Go.RowKit

theorem app_cons (D : List Int) (x : Int) (X : List Int) : D ++ x :: X = (D ++ [x]) ++ X := by simp
theorem nsec_le : ∀ vs : List Vr, nsec vs ≤ vs.length
  | [] => Nat.le_refl _
  | v :: vs => by have := nsec_le vs; rw [nsec, List.length_cons]; split <;> omega

set_option maxRecDepth 100000 in
set_option maxHeartbeats 8000000 in
theorem unread_walk (vs : List Vr) (hs : List Ht) (ks : List Sp) (Av : Option Addr) (lv cv : Nat) (Ag : Option Addr) (lg cg : Nat) (Ay : Option Addr) (ly cy : Nat) (S P R oth : List Int) (As : Option Addr) (ls cs : Nat) (Ap : Option Addr) (lp cp : Nat) (Ar : Option Addr) (lr cr : Nat) (Az : Option Addr) (lo co' : Nat) (w : World)
    (hv : VOk w Av lv cv vs) (hh : HOk w Ag lg cg hs) (hl : ks.length = ly) (hk : SOk w Ay cy ks) (hzs : Zs w As ls cs S) (hzp : Zs w Ap lp cp P) (hzr : Zs w Ar lr cr R) (hzo : Zs w Az lo co' oth) :
    Calls Try.prog 4 #[.agg #[.slice Av lv cv, .slice Ag lg cg, .slice Ay ly cy], .agg #[.slice As ls cs, .slice Ap lp cp, .slice Ar lr cr], .slice Az lo co'] w fun e w' => e = .returned (.bool true) ∧ Below w.heap.size w w' := by
  have hb1 := (Below.refl w.heap.size w).alloc (Nat.le_refl _) (.cells #[.slice Av lv cv, .slice Ag lg cg, .slice Ay ly cy] 26)
  have hb2 := hb1.alloc hb1.size (.cells #[.slice As ls cs, .slice Ap lp cp, .slice Ar lr cr] 34)
  have HB := Lib.hid hb2
  have HF := Lib.hid ((Cs.new w #[.slice Av lv cv, .slice Ag lg cg, .slice Ay ly cy] 26).alloc (.cells #[.slice As ls cs, .slice Ap lp cp, .slice Ar lr cr] 34))
  have HI := Lib.hid (Cs.new1 w (.cells #[.slice Av lv cv, .slice Ag lg cg, .slice Ay ly cy] 26) #[.slice As ls cs, .slice Ap lp cp, .slice Ar lr cr] 34)
  have HV := Lib.hid (hv.below hb2)
  have HHS := Lib.hid (hh.below hb2)
  have HK := Lib.hid (hk.below hb2)
  have HZS := Lib.hid (hzs.below hb2)
  have HZP := Lib.hid (hzp.below hb2)
  have HZR := Lib.hid (hzr.below hb2)
  have HZO := Lib.hid (hzo.below hb2)
  have HL := Lib.hid hl
  have HVL := Lib.hid hv.len
  have HHL := Lib.hid hh.len
  have HSL := Lib.hid hzs.len
  have HOL := Lib.hid hzo.len
  obtain ⟨b, hbf⟩ : ∃ z, fewB vs hs ks 10 80 = z := ⟨_, rfl⟩
  obtain ⟨⟨r, vals⟩, hrv⟩ : ∃ z, startC vs hs ks ⟨S, P, R⟩ = z := ⟨_, rfl⟩
  obtain ⟨s, hs0⟩ : ∃ z, endM vs hs ks vals = z := ⟨_, rfl⟩
  have HFW := Lib.hid hbf
  have HRV := Lib.hid hrv
  have HS := Lib.hid hs0
  clear hb1 hb2 hv hh hk hl hzs hzp hzr hzo hbf hrv hs0
  go_enter Try.func4, Try.ntmps4
  go_upto_region 1 with fail
  obtain ⟨w1, hw1⟩ : ∃ w1, (w.alloc (.cells #[.slice Av lv cv, .slice Ag lg cg, .slice Ay ly cy] 26)).alloc (.cells #[.slice As ls cs, .slice Ap lp cp, .slice Ar lr cr] 34) = w1 := ⟨_, rfl⟩
  obtain ⟨pf, hpf⟩ : ∃ p, w.heap.size = p := ⟨_, rfl⟩
  obtain ⟨pi, hpi⟩ : ∃ p, pf + 1 = p := ⟨_, rfl⟩
  rw [hw1] at HB HF HI HV HHS HK HZS HZP HZR HZO
  rw [hpf] at HF HI
  rw [hpi] at HI
  have HPF := Lib.hid hpf
  rw [hw1, hpf, hpi]
  clear hw1 hpi hpf
  go_wp2_with fail
  go_at_call 10
  refine (known_b _).mono ?_
  rintro e w2 ⟨rfl, hb⟩
  have HBx := Lib.hid (HB.out.trans (hb.mono HB.out.size))
  have HFx := Lib.hid (HF.out.next hb)
  have HIx := Lib.hid (HI.out.next hb)
  have HVx := Lib.hid (HV.out.below hb)
  have HHSx := Lib.hid (HHS.out.below hb)
  have HKx := Lib.hid (HK.out.below hb)
  have HZSx := Lib.hid (HZS.out.below hb)
  have HZPx := Lib.hid (HZP.out.below hb)
  have HZRx := Lib.hid (HZR.out.below hb)
  have HZOx := Lib.hid (HZO.out.below hb)
  clear hb HB HF HI HV HHS HK HZS HZP HZR HZO 
  have HB := HBx
  have HF := HFx
  have HI := HIx
  have HV := HVx
  have HHS := HHSx
  have HK := HKx
  have HZS := HZSx
  have HZP := HZPx
  have HZR := HZRx
  have HZO := HZOx
  clear HBx HFx HIx HVx HHSx HKx HZSx HZPx HZRx HZOx
  have f0 := HF.out.at 0 _ rfl
  have f1 := HF.out.at 1 _ rfl
  have f2 := HF.out.at 2 _ rfl
  have i0 := HI.out.at 0 _ rfl
  have i1 := HI.out.at 1 _ rfl
  have i2 := HI.out.at 2 _ rfl
  go_wp2_with fail
  go_at_call 11
  refine (Few_b vs hs ks 10 80 Av lv cv Ag lg cg Ay ly cy _ HVL.out HHS.out HL.out HK.out (by omega) (by omega) (by omega) b HFW).mono ?_
  rintro e w3 ⟨rfl, hb⟩
  have HBx := Lib.hid (HB.out.trans (hb.mono HB.out.size))
  have HFx := Lib.hid (HF.out.next hb)
  have HIx := Lib.hid (HI.out.next hb)
  have HVx := Lib.hid (HV.out.below hb)
  have HHSx := Lib.hid (HHS.out.below hb)
  have HKx := Lib.hid (HK.out.below hb)
  have HZSx := Lib.hid (HZS.out.below hb)
  have HZPx := Lib.hid (HZP.out.below hb)
  have HZRx := Lib.hid (HZR.out.below hb)
  have HZOx := Lib.hid (HZO.out.below hb)
  clear hb HB HF HI HV HHS HK HZS HZP HZR HZO f0 f1 f2 i0 i1 i2
  have HB := HBx
  have HF := HFx
  have HI := HIx
  have HV := HVx
  have HHS := HHSx
  have HK := HKx
  have HZS := HZSx
  have HZP := HZPx
  have HZR := HZRx
  have HZO := HZOx
  clear HBx HFx HIx HVx HHSx HKx HZSx HZPx HZRx HZOx
  have f0 := HF.out.at 0 _ rfl
  have f1 := HF.out.at 1 _ rfl
  have f2 := HF.out.at 2 _ rfl
  have i0 := HI.out.at 0 _ rfl
  have i1 := HI.out.at 1 _ rfl
  have i2 := HI.out.at 2 _ rfl
  cases b with
  | false =>
    clear HFW
    go_wp2_with fail
    go_ret
    exact ⟨rfl, HB.out⟩
  | true =>
    have hsm := few_small HFW.out
    have hlv : lv ≤ 10 := by have := HVL.out; omega
    have hlg : lg ≤ 10 := by have := HHL.out; omega
    have hcn : hcnt hs + Sp.cntL ks ≤ 90000 := by omega
    have HCN := Lib.hid hcn
    clear hsm hcn HFW
    go_wp2_with fail
    go_at_call 14
    refine (Run_b vs hs ks Av lv cv Ag lg cg Ay ly cy S P R As ls cs Ap lp cp Ar lr cr _ HV.out HHS.out HL.out HK.out (by omega) HCN.out HZS.out HZP.out HZR.out r s vals HRV HS).mono ?_
    rintro e w4 ⟨hb, hcase⟩
    have HBx := Lib.hid (HB.out.trans (hb.mono HB.out.size))
    have HFx := Lib.hid (HF.out.next hb)
    have HIx := Lib.hid (HI.out.next hb)
    have HVx := Lib.hid (HV.out.below hb)
    have HHSx := Lib.hid (HHS.out.below hb)
    have HKx := Lib.hid (HK.out.below hb)
    have HZSx := Lib.hid (HZS.out.below hb)
    have HZPx := Lib.hid (HZP.out.below hb)
    have HZRx := Lib.hid (HZR.out.below hb)
    have HZOx := Lib.hid (HZO.out.below hb)
    clear hb HB HF HI HV HHS HK HZS HZP HZR HZO f0 f1 f2 i0 i1 i2
    have HB := HBx
    have HF := HFx
    have HI := HIx
    have HV := HVx
    have HHS := HHSx
    have HK := HKx
    have HZS := HZSx
    have HZP := HZPx
    have HZR := HZRx
    have HZO := HZOx
    clear HBx HFx HIx HVx HHSx HKx HZSx HZPx HZRx HZOx
    have f0 := HF.out.at 0 _ rfl
    have f1 := HF.out.at 1 _ rfl
    have f2 := HF.out.at 2 _ rfl
    have i0 := HI.out.at 0 _ rfl
    have i1 := HI.out.at 1 _ rfl
    have i2 := HI.out.at 2 _ rfl
    rcases hcase with ⟨hr, rfl⟩ | ⟨rfl, Ao, co, rfl, hzw⟩
    · have hrn : (r != 0) = true := by simpa using hr
      clear HRV HS
      go_wp2_with fail
      go_ret
      exact ⟨rfl, HB.out.alloc HB.out.size _⟩
    · have hb := (Below.refl w4.heap.size w4).alloc (Nat.le_refl _) (.cells #[.slice Ao s.o.length co, .int .i64 s.t] 36)
      have HO := Lib.hid (Cs.new w4 #[.slice Ao s.o.length co, .int .i64 s.t] 36)
      have HZW := Lib.hid (hzw.below hb)
      clear hzw
      have HBx := Lib.hid (HB.out.trans (hb.mono HB.out.size))
      have HFx := Lib.hid (HF.out.next hb)
      have HIx := Lib.hid (HI.out.next hb)
      have HVx := Lib.hid (HV.out.below hb)
      have HHSx := Lib.hid (HHS.out.below hb)
      have HKx := Lib.hid (HK.out.below hb)
      have HZSx := Lib.hid (HZS.out.below hb)
      have HZPx := Lib.hid (HZP.out.below hb)
      have HZRx := Lib.hid (HZR.out.below hb)
      have HZOx := Lib.hid (HZO.out.below hb)
      clear hb HB HF HI HV HHS HK HZS HZP HZR HZO f0 f1 f2 i0 i1 i2
      have HB := HBx
      have HF := HFx
      have HI := HIx
      have HV := HVx
      have HHS := HHSx
      have HK := HKx
      have HZS := HZSx
      have HZP := HZPx
      have HZR := HZRx
      have HZO := HZOx
      clear HBx HFx HIx HVx HHSx HKx HZSx HZPx HZRx HZOx
      go_upto_region 6 with fail
      obtain ⟨w5, hw5⟩ : ∃ w5, w4.alloc (.cells #[.slice Ao s.o.length co, .int .i64 s.t] 36) = w5 := ⟨_, rfl⟩
      obtain ⟨po, hpo⟩ : ∃ p, w4.heap.size = p := ⟨_, rfl⟩
      rw [hw5] at HB HF HI HV HHS HK HZS HZP HZR HZO HO HZW
      rw [hpo] at HO
      rw [hw5, hpo]
      clear hw5 hpo
      have f0 := HF.out.at 0 _ rfl
      have f1 := HF.out.at 1 _ rfl
      have f2 := HF.out.at 2 _ rfl
      have i0 := HI.out.at 0 _ rfl
      have i1 := HI.out.at 1 _ rfl
      have i2 := HI.out.at 2 _ rfl
      by_cases hlo : lo = ls
      case neg =>
        have hne : ((lo : Int) != (ls : Int)) = true := bne_of (by omega)
        have hne2 : (lo != ls) = true := by simpa using hlo
        clear HRV HS
        go_wp2_with fail
        go_ret
        exact ⟨rfl, HB.out⟩
      case pos =>
        subst hlo
        obtain ⟨hns, vals2, hst2, ho2, ht2⟩ := start_unread HRV.out (by rw [HOL.out, HSL.out])
        have hlo : lo ≤ 10 := by have := nsec_le vs; rw [hns, HSL.out, HVL.out] at this; omega
        obtain ⟨T, hT⟩ : ∃ z, patchS (fun i => inH i hs || inSL i ks) vs 0 S oth = z := ⟨_, rfl⟩
        rw [hT] at hst2
        have HNS := Lib.hid hns
        have HST2 := Lib.hid hst2
        have HOEQ := Lib.hid ho2
        have HTEQ := Lib.hid ht2
        have HT := Lib.hid hT
        clear hns hst2 ho2 ht2 hT HRV
        go_upto_region 8 with fail
        go_cut [9, 10] from 35 to 38 (fun u x wc => x = .int .i64 0 ∧ ∃ (At : Option Addr) (ct : Nat), u = .slice At lo ct ∧ Hid (Below w5.heap.size w5 wc) ∧ Hid (wc.ownsRow w5.heap.size 3 1 (.slice At lo ct) lo (iv S)))
        case first =>
          cases As with
          | none =>
            have hl0 : lo = 0 := by
              rcases Nat.eq_zero_or_pos lo with h | h
              · exact h
              · obtain ⟨g, f, h1, _⟩ := HZS.out.mem h; cases h1
            subst hl0
            have hS : S = [] := List.length_eq_zero_iff.1 HSL.out
            subst hS
            have i0x := (HI.out.alloc (.cells #[] 3)).at 0 _ rfl
            go_wp2_with fail
            go_meet
            case rel => exact ⟨rfl, _, _, rfl, Lib.hid ((Below.refl w5.heap.size w5).alloc (Nat.le_refl _) _), Lib.hid (World.ownsRow_made w5 #[] 0 (Nat.le_refl _) (Nat.zero_le _) rfl)⟩
          | some ad =>
            obtain ⟨i00, hi0, hz0, hzz1, hz2⟩ := info_parts infoI
            have HIN := Lib.hid (And.intro hi0 (And.intro hz0 (And.intro hzz1 hz2)))
            have HBM := Lib.hid (show lo ≤ maxLen from Nat.le_trans HZS.out.cap HZS.out.big)
            have HR := Lib.hid (show lo * 8 ≤ 140737488355328 by omega)
            have hnw : ∀ j u, (iv S)[j]? = some u → (w5.alloc (.cells #[] 3)).cell? (ad.add j) = some u := by
              intro j u hu
              have hj : j < S.length := by rw [← iv_len]; exact (List.getElem?_eq_some_iff.1 hu).1
              rw [iv_get S j hj] at hu
              injection hu with hu
              obtain ⟨g, f, hA, hg, hc⟩ := (HZS.out.below ((Below.refl w5.heap.size w5).alloc (Nat.le_refl _) (.cells #[] 3))).mem (by rw [← HSL.out]; omega)
              injection hA with hA
              subst hA
              have hadd : (⟨g, f, none⟩ : Addr).add j = ⟨g, f + j, none⟩ := by unfold Addr.add; split <;> simp_all
              rw [hadd, hc j (by rw [← HSL.out]; exact hj), hu]
            have HNW := Lib.hid hnw
            clear hi0 hz0 hzz1 hz2 hnw
            have i0x := (HI.out.alloc (.cells #[] 3)).at 0 _ rfl
            go_wp2_with (at_builtin; (refine wpList_append_own _ rfl _ _ 32 rfl w5.heap.size 3 i00 (.int .i64 0) 1 8 Try.underlying32 HIN.out.1 HIN.out.2.1 HIN.out.2.2.1 HIN.out.2.2.2 rfl (by decide) _ 0 [] rfl (World.ownsRow_made w5 #[] 0 (Nat.le_refl _) (Nat.zero_le _) rfl) ad lo cs (iv S) rfl (by rw [iv_len, HSL.out, Nat.mul_one]) HNW.out (by intro u hu; unfold iv at hu; obtain ⟨z, _, rfl⟩ := List.mem_map.1 hu; rfl) (by rw [Nat.zero_add]; exact HBM.out) (by rw [Nat.zero_add]; exact HR.out) (by simp) ?_; intro v' w2 hown hgrow hnil; have HOW := Lib.hid hown; have HGR : Hid ((w5.alloc (.cells #[] 3)).grownBy w2 (Value.slice (some ⟨w5.heap.size, 0, none⟩) 0 0).ownBlock) := hgrow; clear hown hgrow hnil))
            go_meet
            case rel =>
              have how := HOW.out
              rw [Nat.zero_add, List.nil_append] at how
              have hlow : Below w5.heap.size w5 w2 := (Fr.of_grown HGR.out).below ((Below.refl w5.heap.size w5).alloc (Nat.le_refl _) _) (fun k hk => by simp [Value.ownBlock] at hk; omega) (by simp)
              rcases Joins.ownsRow_forms how with ⟨rfl, h0⟩ | ⟨g, cap, rfl⟩
              · subst h0
                exact ⟨rfl, _, _, rfl, Lib.hid hlow, Lib.hid how⟩
              · exact ⟨rfl, _, _, rfl, Lib.hid hlow, Lib.hid how⟩
        case rest =>
          obtain ⟨rfl, At, ct, rfl, HBX, HOW⟩ := hcut
          obtain ⟨pm, hpm⟩ : ∃ z, (fun i => inH i hs || inSL i ks) = z := ⟨_, rfl⟩
          rw [hpm] at HT
          have HPM : Hid (∀ i, (inH i hs || inSL i ks) = pm i) := Lib.hid fun i => by rw [← hpm]
          have HT0 : Hid (([] : List Int) ++ patchS pm (vs.drop 0) 0 (S.drop 0) (oth.drop 0) = T) := Lib.hid (by simp only [List.drop_zero, List.nil_append]; exact HT.out)
          have HN0 : Hid (nsec (vs.drop 0) + 0 = lo) := Lib.hid (by rw [List.drop_zero, HNS.out, HSL.out, Nat.add_zero])
          clear hpm HT HNS f0 f1 f2 i0 i1 i2
          have f0 := (HF.out.next HBX.out).at 0 _ rfl
          go_wp2_with fail
          go_loopw [10, 42] (fun u v wq => ∃ (i k : Nat) (D : List Int), i ≤ lv ∧ u = .int .i64 k ∧ v = .int .i64 i ∧ Hid (D.length = k) ∧ Hid (D ++ patchS pm (vs.drop i) i (S.drop k) (oth.drop k) = T) ∧ Hid (nsec (vs.drop i) + k = lo) ∧ Hid (Below w5.heap.size w5 wq) ∧ Hid (wq.ownsRow w5.heap.size 3 1 (.slice At lo ct) lo (iv (D ++ S.drop k)))) (fun _ v _ => lv - (intOf v).toNat)
          case atStart => exact ⟨0, 0, [], by omega, rfl, rfl, Lib.hid rfl, HT0, HN0, HBX, HOW⟩
          case round =>
            clear HT0 HN0 HBX HOW f0
            obtain ⟨i, k, D, hi, rfl, rfl, HD, HTT, HN, HBR, HOW⟩ := hrel
            by_cases hlt : i < lv
            · obtain ⟨nm, kd, lw, hg', ii, gv, fv, hvs, hsz, hA, hgv, k0, k1, k2, k3, k4⟩ := (HV.out.below HBR.out).at i hlt
              have hil : i < vs.length := by rw [HVL.out]; exact hlt
              have hlt' : (i : Int) < (lv : Int) := by omega
              have hdr : vs.drop i = ⟨nm, kd, lw, hg', ii⟩ :: vs.drop (i + 1) := by
                rw [List.drop_eq_getElem_cons hil]
                rw [List.getElem?_eq_getElem hil] at hvs
                injection hvs with hvs
                rw [hvs]
              subst hA
              rw [hdr] at HTT HN
              clear hdr hvs hsz
              have hba := (Below.refl wr.heap.size wr).alloc (Nat.le_refl _) (.cells #[.string nm, .int .i64 kd, .int .i64 lw, .int .i64 hg', .int .i64 ii] 41)
              have HBRx := Lib.hid (HBR.out.trans (hba.mono HBR.out.size))
              have HN6 := Lib.hid (Cs.new wr #[.string nm, .int .i64 kd, .int .i64 lw, .int .i64 hg', .int .i64 ii] 41)
              clear hba HBR
              have HBR := HBRx
              clear HBRx
              have HOWx := Lib.hid (ownsRow_below HOW.out ((Below.refl wr.heap.size wr).alloc (Nat.le_refl _) (.cells #[.string nm, .int .i64 kd, .int .i64 lw, .int .i64 hg', .int .i64 ii] 41)))
              clear HOW
              have HOW := HOWx
              clear HOWx
              go_upto_region 12 with fail
              obtain ⟨w6, hwn⟩ : ∃ w6, wr.alloc (.cells #[.string nm, .int .i64 kd, .int .i64 lw, .int .i64 hg', .int .i64 ii] 41) = w6 := ⟨_, rfl⟩
              obtain ⟨q, hqn⟩ : ∃ q, wr.heap.size = q := ⟨_, rfl⟩
              rw [hwn] at HN6 HBR HOW 
              rw [hqn] at HN6
              rw [hwn, hqn]
              clear hwn hqn k0 k1 k2 k3 k4
              have n1 := HN6.out.at 1 _ rfl
              have n2 := HN6.out.at 2 _ rfl
              have n3 := HN6.out.at 3 _ rfl
              by_cases hk1 : kd = 1
              case neg =>
                have hkn : (kd != 1) = true := bne_of hk1
                have HTT2 : Hid (D ++ patchS pm (vs.drop (i + 1)) (i + 1) (S.drop k) (oth.drop k) = T) := Lib.hid (by have := HTT.out; rw [patchS_else hk1] at this; exact this)
                have HN2 : Hid (nsec (vs.drop (i + 1)) + k = lo) := Lib.hid (by have := HN.out; rw [nsec, if_neg hk1, Nat.zero_add] at this; exact this)
                clear HTT HN
                go_wp2_with fail
                go_roundw
                case rel => exact ⟨i + 1, k, D, by omega, rfl, by go_num, HD, HTT2, HN2, HBR, HOW⟩
                case measure => simp [intOf]; omega
              case pos =>
                subst hk1
                have hklo : k < lo := by have := HN.out; rw [nsec, if_pos rfl] at this; omega
                have hkS : k < S.length := by rw [HSL.out]; exact hklo
                have hkO : k < oth.length := by rw [HOL.out]; exact hklo
                obtain ⟨s0, hs0⟩ : ∃ z, S[k] = z := ⟨_, rfl⟩
                obtain ⟨o0, ho0⟩ : ∃ z, oth[k] = z := ⟨_, rfl⟩
                obtain ⟨z, hz⟩ : ∃ z, pm (i : Nat) = z := ⟨_, rfl⟩
                obtain ⟨dec, hdec⟩ : ∃ d, (!z && (decide (lw ≤ o0) && decide (o0 ≤ hg'))) = d := ⟨_, rfl⟩
                obtain ⟨nw, hnw⟩ : ∃ z, (if dec = true then o0 else s0) = z := ⟨_, rfl⟩
                have HTT2 : Hid ((D ++ [nw]) ++ patchS pm (vs.drop (i + 1)) (i + 1) (S.drop (k + 1)) (oth.drop (k + 1)) = T) := Lib.hid (by
                  have := HTT.out
                  rw [List.drop_eq_getElem_cons hkS, List.drop_eq_getElem_cons hkO, hs0, ho0, patchS_sec rfl, hz] at this
                  rw [List.append_assoc, List.singleton_append, ← hnw, ← hdec]
                  simp only [Bool.and_eq_true, Bool.not_eq_true', decide_eq_true_eq]
                  exact this)
                have HN2 : Hid (nsec (vs.drop (i + 1)) + (k + 1) = lo) := Lib.hid (by have := HN.out; rw [nsec, if_pos rfl] at this; omega)
                have HROW : Hid ((D ++ S.drop k) = D ++ s0 :: S.drop (k + 1)) := Lib.hid (by rw [List.drop_eq_getElem_cons hkS, hs0])
                have HD2 : Hid ((D ++ [nw]).length = k + 1) := Lib.hid (by rw [List.length_append, HD.out]; rfl)
                obtain ⟨go, fo, hAz, hgo, hco⟩ := HZO.out.mem (by omega)
                have hok := hco k hklo
                have hog : oth.getD k 0 = o0 := by rw [List.getD_eq_getElem?_getD, List.getElem?_eq_getElem hkO, ho0]; rfl
                rw [hog] at hok
                subst hAz
                have hzl : k < lo := hklo
                have hcap : lo ≤ co' := HZO.out.cap
                have HZ : Hid ((inH i hs || inSL i ks) = z) := Lib.hid (by rw [HPM.out]; exact hz)
                have HDEC := Lib.hid hdec
                have HNN := Lib.hid hnw
                have KP : Hid (∀ W, Below w6.heap.size w6 W → (W.cell? ⟨pf, 0, none⟩ = some (.slice (some ⟨gv, fv, none⟩) lv cv) ∧ W.cell? ⟨pf, 1, none⟩ = some (.slice Ag lg cg) ∧ W.cell? ⟨pf, 2, none⟩ = some (.slice Ay ly cy) ∧ W.cell? ⟨q, 2, none⟩ = some (.int .i64 lw) ∧ W.cell? ⟨q, 3, none⟩ = some (.int .i64 hg') ∧ W.cell? ⟨go, fo + k, none⟩ = some (.int .i64 o0))) := Lib.hid fun W hb => by
                  have h5 := HBR.out.trans (hb.mono HBR.out.size)
                  exact ⟨(HF.out.next h5).at 0 _ rfl, (HF.out.next h5).at 1 _ rfl, (HF.out.next h5).at 2 _ rfl, (HN6.out.next hb).at 2 _ rfl, (HN6.out.next hb).at 3 _ rfl, (h5.cell (p := ⟨go, fo + k, none⟩) hgo).trans hok⟩
                clear HTT HN hco hok hog hz hdec hnw hs0 ho0 hkS hkO
                go_upto_region 13 with fail
                go_cut [71] from 50 to 71 (fun u wc => u = .bool dec ∧ Hid (Below w6.heap.size w6 wc))
                case first =>
                  clear HTT2 HN2 HROW HD2 HNN HOW HD HST2 HOEQ HTEQ HS HPM n1 n2
                  have HD0 := Lib.hid (Below.refl w6.heap.size w6).drew
                  cases z with
                  | true =>
                    have hdf : dec = false := HDEC.out.symm
                    subst hdf
                    clear n3
                    have hkI0 : (0 : Int) ≤ (k : Int) := by omega
                    have hkI1 : (k : Int) < (lo : Int) := by omega
                    refine wp_region_x (fun W => W.cell? ⟨pf, 0, none⟩ = some (.slice (some ⟨gv, fv, none⟩) lv cv) ∧ W.cell? ⟨pf, 1, none⟩ = some (.slice Ag lg cg) ∧ W.cell? ⟨pf, 2, none⟩ = some (.slice Ay ly cy) ∧ W.cell? ⟨q, 2, none⟩ = some (.int .i64 lw) ∧ W.cell? ⟨q, 3, none⟩ = some (.int .i64 hg') ∧ W.cell? ⟨go, fo + k, none⟩ = some (.int .i64 o0)) 22 (by kernel_rfl) ?_
                    have HSX := KP.out _ HD0.out
                    refine wpAnyX_take 0 (oi := ⟨some 50, _, _, _, _, _⟩) (v := ?v0b) rfl (by kernel_rfl) (by kernel_rfl) (by kernel_rfl) (by kernel_rfl) (fun _ _ _ h => h) HSX (Or.inl ⟨by rfl, ?y0b⟩) ?r0b
                    case y0b =>
                      intro wq hSq
                      obtain ⟨s1, s2, s3, s4, s5, s6⟩ := hSq
                      go_simp
                      try with_reducible rfl
                    try simp only [Act.put, List.setIfInBounds_toArray, List.set_cons_succ, List.set_cons_zero]
                    refine wpAnyX_take 1 (oi := ⟨some 51, _, _, _, _, _⟩) (v := ?v1b) rfl (by kernel_rfl) (by kernel_rfl) (by kernel_rfl) (by kernel_rfl) (fun _ _ _ h => h) HSX (Or.inl ⟨by rfl, ?y1b⟩) ?r1b
                    case y1b =>
                      intro wq hSq
                      obtain ⟨s1, s2, s3, s4, s5, s6⟩ := hSq
                      go_simp
                      try with_reducible rfl
                    try simp only [Act.put, List.setIfInBounds_toArray, List.set_cons_succ, List.set_cons_zero]
                    refine wpAnyX_one 2 (by kernel_rfl) rfl (fun K hK => ?_)
                    go_simp
                    go_at_call 15
                    refine (mentioned_b hs ks (i : Int) (some ⟨gv, fv, none⟩) lv cv Ag lg cg Ay ly cy _ ((HHS.out.below HBR.out).below HD0.out) HL.out ((HK.out.below HBR.out).below HD0.out) true HZ).mono ?_
                    rintro e w7 ⟨rfl, hb7⟩
                    have HD1 := Lib.hid (HD0.out.trans (hb7.mono HD0.out.size))
                    clear hb7 HSX
                    have HSX := KP.out _ HD1.out
                    refine hK _ _ (fun _ => HSX) ?_
                    clear hK K
                    try simp only [Act.put, List.setIfInBounds_toArray, List.set_cons_succ, List.set_cons_zero]
                    refine wpAnyX_take 3 (oi := ⟨some 53, _, _, _, _, _⟩) (v := ?v3b) rfl (by kernel_rfl) (by kernel_rfl) (by kernel_rfl) (by kernel_rfl) (fun _ _ _ h => h) HSX (Or.inl ⟨by rfl, ?y3b⟩) ?r3b
                    case y3b =>
                      intro wq hSq
                      obtain ⟨s1, s2, s3, s4, s5, s6⟩ := hSq
                      go_simp
                      try with_reducible rfl
                    try simp only [Act.put, List.setIfInBounds_toArray, List.set_cons_succ, List.set_cons_zero]
                    refine wpAnyX_take 4 (oi := ⟨some 54, _, _, _, _, _⟩) (v := ?v4b) rfl (by kernel_rfl) (by kernel_rfl) (by kernel_rfl) (by kernel_rfl) (fun _ _ _ h => h) HSX (Or.inl ⟨by rfl, ?y4b⟩) ?r4b
                    case y4b =>
                      intro wq hSq
                      obtain ⟨s1, s2, s3, s4, s5, s6⟩ := hSq
                      go_simp
                      try with_reducible rfl
                    try simp only [Act.put, List.setIfInBounds_toArray, List.set_cons_succ, List.set_cons_zero]
                    refine wpAnyX_take 5 (oi := ⟨some 55, _, _, _, _, _⟩) (v := undef) rfl (by kernel_rfl) (by kernel_rfl) (by kernel_rfl) (by kernel_rfl) (fun _ _ _ h => h) HSX (Or.inr ⟨by rfl, rfl⟩) ?_
                    try simp only [Act.put, List.setIfInBounds_toArray, List.set_cons_succ, List.set_cons_zero]
                    refine wpAnyX_take 6 (oi := ⟨some 56, _, _, _, _, _⟩) (v := undef) rfl (by kernel_rfl) (by kernel_rfl) (by kernel_rfl) (by kernel_rfl) (fun _ _ _ h => h) HSX (Or.inr ⟨by rfl, rfl⟩) ?_
                    try simp only [Act.put, List.setIfInBounds_toArray, List.set_cons_succ, List.set_cons_zero]
                    refine wpAnyX_take 7 (oi := ⟨some 57, _, _, _, _, _⟩) (v := undef) rfl (by kernel_rfl) (by kernel_rfl) (by kernel_rfl) (by kernel_rfl) (fun _ _ _ h => h) HSX (Or.inr ⟨by rfl, rfl⟩) ?_
                    try simp only [Act.put, List.setIfInBounds_toArray, List.set_cons_succ, List.set_cons_zero]
                    refine wpAnyX_take 8 (oi := ⟨some 58, _, _, _, _, _⟩) (v := undef) rfl (by kernel_rfl) (by kernel_rfl) (by kernel_rfl) (by kernel_rfl) (fun _ _ _ h => h) HSX (Or.inr ⟨by rfl, rfl⟩) ?_
                    try simp only [Act.put, List.setIfInBounds_toArray, List.set_cons_succ, List.set_cons_zero]
                    refine wpAnyX_take 9 (oi := ⟨some 59, _, _, _, _, _⟩) (v := undef) rfl (by kernel_rfl) (by kernel_rfl) (by kernel_rfl) (by kernel_rfl) (fun _ _ _ h => h) HSX (Or.inr ⟨by rfl, rfl⟩) ?_
                    try simp only [Act.put, List.setIfInBounds_toArray, List.set_cons_succ, List.set_cons_zero]
                    refine wpAnyX_take 10 (oi := ⟨some 60, _, _, _, _, _⟩) (v := undef) rfl (by kernel_rfl) (by kernel_rfl) (by kernel_rfl) (by kernel_rfl) (fun _ _ _ h => h) HSX (Or.inr ⟨by rfl, rfl⟩) ?_
                    try simp only [Act.put, List.setIfInBounds_toArray, List.set_cons_succ, List.set_cons_zero]
                    refine wpAnyX_take 11 (oi := ⟨some 61, _, _, _, _, _⟩) (v := undef) rfl (by kernel_rfl) (by kernel_rfl) (by kernel_rfl) (by kernel_rfl) (fun _ _ _ h => h) HSX (Or.inr ⟨by rfl, rfl⟩) ?_
                    try simp only [Act.put, List.setIfInBounds_toArray, List.set_cons_succ, List.set_cons_zero]
                    refine wpAnyX_take 12 (oi := ⟨some 62, _, _, _, _, _⟩) (v := ?v12b) rfl (by kernel_rfl) (by kernel_rfl) (by kernel_rfl) (by kernel_rfl) (fun _ _ _ h => h) HSX (Or.inl ⟨by rfl, ?y12b⟩) ?r12b
                    case y12b =>
                      intro wq hSq
                      obtain ⟨s1, s2, s3, s4, s5, s6⟩ := hSq
                      go_simp
                      try with_reducible rfl
                    try simp only [Act.put, List.setIfInBounds_toArray, List.set_cons_succ, List.set_cons_zero]
                    refine wpAnyX_take 13 (oi := ⟨some 63, _, _, _, _, _⟩) (v := ?v13b) rfl (by kernel_rfl) (by kernel_rfl) (by kernel_rfl) (by kernel_rfl) (fun _ _ _ h => h) HSX (Or.inl ⟨by rfl, ?y13b⟩) ?r13b
                    case y13b =>
                      intro wq hSq
                      obtain ⟨s1, s2, s3, s4, s5, s6⟩ := hSq
                      go_simp
                      try with_reducible rfl
                    try simp only [Act.put, List.setIfInBounds_toArray, List.set_cons_succ, List.set_cons_zero]
                    refine wpAnyX_take 14 (oi := ⟨some 64, _, _, _, _, _⟩) (v := undef) rfl (by kernel_rfl) (by kernel_rfl) (by kernel_rfl) (by kernel_rfl) (fun _ _ _ h => h) HSX (Or.inr ⟨by rfl, rfl⟩) ?_
                    try simp only [Act.put, List.setIfInBounds_toArray, List.set_cons_succ, List.set_cons_zero]
                    refine wpAnyX_take 15 (oi := ⟨some 65, _, _, _, _, _⟩) (v := undef) rfl (by kernel_rfl) (by kernel_rfl) (by kernel_rfl) (by kernel_rfl) (fun _ _ _ h => h) HSX (Or.inr ⟨by rfl, rfl⟩) ?_
                    try simp only [Act.put, List.setIfInBounds_toArray, List.set_cons_succ, List.set_cons_zero]
                    refine wpAnyX_take 16 (oi := ⟨some 66, _, _, _, _, _⟩) (v := undef) rfl (by kernel_rfl) (by kernel_rfl) (by kernel_rfl) (by kernel_rfl) (fun _ _ _ h => h) HSX (Or.inr ⟨by rfl, rfl⟩) ?_
                    try simp only [Act.put, List.setIfInBounds_toArray, List.set_cons_succ, List.set_cons_zero]
                    refine wpAnyX_take 17 (oi := ⟨some 67, _, _, _, _, _⟩) (v := undef) rfl (by kernel_rfl) (by kernel_rfl) (by kernel_rfl) (by kernel_rfl) (fun _ _ _ h => h) HSX (Or.inr ⟨by rfl, rfl⟩) ?_
                    try simp only [Act.put, List.setIfInBounds_toArray, List.set_cons_succ, List.set_cons_zero]
                    refine wpAnyX_take 18 (oi := ⟨some 68, _, _, _, _, _⟩) (v := undef) rfl (by kernel_rfl) (by kernel_rfl) (by kernel_rfl) (by kernel_rfl) (fun _ _ _ h => h) HSX (Or.inr ⟨by rfl, rfl⟩) ?_
                    try simp only [Act.put, List.setIfInBounds_toArray, List.set_cons_succ, List.set_cons_zero]
                    refine wpAnyX_take 19 (oi := ⟨some 69, _, _, _, _, _⟩) (v := undef) rfl (by kernel_rfl) (by kernel_rfl) (by kernel_rfl) (by kernel_rfl) (fun _ _ _ h => h) HSX (Or.inr ⟨by rfl, rfl⟩) ?_
                    try simp only [Act.put, List.setIfInBounds_toArray, List.set_cons_succ, List.set_cons_zero]
                    refine wpAnyX_take 20 (oi := ⟨some 70, _, _, _, _, _⟩) (v := undef) rfl (by kernel_rfl) (by kernel_rfl) (by kernel_rfl) (by kernel_rfl) (fun _ _ _ h => h) HSX (Or.inr ⟨by rfl, rfl⟩) ?_
                    try simp only [Act.put, List.setIfInBounds_toArray, List.set_cons_succ, List.set_cons_zero]
                    refine wpAnyX_take 21 (oi := ⟨some 71, _, _, _, _, _⟩) (v := ?v21b) rfl (by kernel_rfl) (by kernel_rfl) (by kernel_rfl) (by kernel_rfl) (fun _ _ _ h => h) HSX (Or.inl ⟨by rfl, ?y21b⟩) ?r21b
                    case y21b =>
                      intro wq hSq
                      obtain ⟨s1, s2, s3, s4, s5, s6⟩ := hSq
                      go_simp
                      try with_reducible rfl
                    try simp only [Act.put, List.setIfInBounds_toArray, List.set_cons_succ, List.set_cons_zero]
                    clear HSX
                    refine wpAnyX_done (by kernel_rfl) ?_ _
                    go_wp2_with fail
                    go_meet
                    case rel => exact ⟨rfl, HD1⟩
                  | false =>
                    by_cases c1 : lw ≤ o0
                    · by_cases c2 : o0 ≤ hg'
                      · have hdf : dec = true := by rw [← HDEC.out, decide_eq_true c1, decide_eq_true c2]; rfl
                        subst hdf
                        have hd1 : decide (lw ≤ o0) = true := decide_eq_true c1
                        have hd2 : decide (o0 ≤ hg') = true := decide_eq_true c2
                        go_region_held3 (fun W => W.cell? ⟨pf, 0, none⟩ = some (.slice (some ⟨gv, fv, none⟩) lv cv) ∧ W.cell? ⟨pf, 1, none⟩ = some (.slice Ag lg cg) ∧ W.cell? ⟨pf, 2, none⟩ = some (.slice Ay ly cy) ∧ W.cell? ⟨q, 2, none⟩ = some (.int .i64 lw) ∧ W.cell? ⟨q, 3, none⟩ = some (.int .i64 hg') ∧ W.cell? ⟨go, fo + k, none⟩ = some (.int .i64 o0)) (first | exact KP.out _ HD1.out | exact KP.out _ HD0.out) (first
                          | (go_at_call 15; refine (mentioned_b hs ks (i : Int) (some ⟨gv, fv, none⟩) lv cv Ag lg cg Ay ly cy _ ((HHS.out.below HBR.out).below HD0.out) HL.out ((HK.out.below HBR.out).below HD0.out) false HZ).mono ?_; rintro e w7 ⟨rfl, hb7⟩; have HD1 := Lib.hid (HD0.out.trans (hb7.mono HD0.out.size)); clear hb7))
                        go_wp2_with fail
                        go_meet
                        case rel => exact ⟨rfl, HD1⟩
                      · have hdf : dec = false := by rw [← HDEC.out, decide_eq_true c1, decide_eq_false c2]; rfl
                        subst hdf
                        have hd1 : decide (lw ≤ o0) = true := decide_eq_true c1
                        have hd2 : decide (o0 ≤ hg') = false := decide_eq_false c2
                        have hkI0 : (0 : Int) ≤ (k : Int) := by omega
                        have hkI1 : (k : Int) < (lo : Int) := by omega
                        refine wp_region_x (fun W => W.cell? ⟨pf, 0, none⟩ = some (.slice (some ⟨gv, fv, none⟩) lv cv) ∧ W.cell? ⟨pf, 1, none⟩ = some (.slice Ag lg cg) ∧ W.cell? ⟨pf, 2, none⟩ = some (.slice Ay ly cy) ∧ W.cell? ⟨q, 2, none⟩ = some (.int .i64 lw) ∧ W.cell? ⟨q, 3, none⟩ = some (.int .i64 hg') ∧ W.cell? ⟨go, fo + k, none⟩ = some (.int .i64 o0)) 22 (by kernel_rfl) ?_
                        have HSX := KP.out _ HD0.out
                        refine wpAnyX_take 0 (oi := ⟨some 50, _, _, _, _, _⟩) (v := ?v0c) rfl (by kernel_rfl) (by kernel_rfl) (by kernel_rfl) (by kernel_rfl) (fun _ _ _ h => h) HSX (Or.inl ⟨by rfl, ?y0c⟩) ?r0c
                        case y0c =>
                          intro wq hSq
                          obtain ⟨s1, s2, s3, s4, s5, s6⟩ := hSq
                          go_simp
                          try with_reducible rfl
                        try simp only [Act.put, List.setIfInBounds_toArray, List.set_cons_succ, List.set_cons_zero]
                        refine wpAnyX_take 1 (oi := ⟨some 51, _, _, _, _, _⟩) (v := ?v1c) rfl (by kernel_rfl) (by kernel_rfl) (by kernel_rfl) (by kernel_rfl) (fun _ _ _ h => h) HSX (Or.inl ⟨by rfl, ?y1c⟩) ?r1c
                        case y1c =>
                          intro wq hSq
                          obtain ⟨s1, s2, s3, s4, s5, s6⟩ := hSq
                          go_simp
                          try with_reducible rfl
                        try simp only [Act.put, List.setIfInBounds_toArray, List.set_cons_succ, List.set_cons_zero]
                        refine wpAnyX_one 2 (by kernel_rfl) rfl (fun K hK => ?_)
                        go_simp
                        go_at_call 15
                        refine (mentioned_b hs ks (i : Int) (some ⟨gv, fv, none⟩) lv cv Ag lg cg Ay ly cy _ ((HHS.out.below HBR.out).below HD0.out) HL.out ((HK.out.below HBR.out).below HD0.out) false HZ).mono ?_
                        rintro e w7 ⟨rfl, hb7⟩
                        have HD1 := Lib.hid (HD0.out.trans (hb7.mono HD0.out.size))
                        clear hb7 HSX
                        have HSX := KP.out _ HD1.out
                        refine hK _ _ (fun _ => HSX) ?_
                        clear hK K
                        try simp only [Act.put, List.setIfInBounds_toArray, List.set_cons_succ, List.set_cons_zero]
                        refine wpAnyX_take 3 (oi := ⟨some 53, _, _, _, _, _⟩) (v := ?v3c) rfl (by kernel_rfl) (by kernel_rfl) (by kernel_rfl) (by kernel_rfl) (fun _ _ _ h => h) HSX (Or.inl ⟨by rfl, ?y3c⟩) ?r3c
                        case y3c =>
                          intro wq hSq
                          obtain ⟨s1, s2, s3, s4, s5, s6⟩ := hSq
                          go_simp
                          try with_reducible rfl
                        try simp only [Act.put, List.setIfInBounds_toArray, List.set_cons_succ, List.set_cons_zero]
                        refine wpAnyX_take 4 (oi := ⟨some 54, _, _, _, _, _⟩) (v := ?v4c) rfl (by kernel_rfl) (by kernel_rfl) (by kernel_rfl) (by kernel_rfl) (fun _ _ _ h => h) HSX (Or.inl ⟨by rfl, ?y4c⟩) ?r4c
                        case y4c =>
                          intro wq hSq
                          obtain ⟨s1, s2, s3, s4, s5, s6⟩ := hSq
                          go_simp
                          try with_reducible rfl
                        try simp only [Act.put, List.setIfInBounds_toArray, List.set_cons_succ, List.set_cons_zero]
                        refine wpAnyX_take 5 (oi := ⟨some 55, _, _, _, _, _⟩) (v := ?v5c) rfl (by kernel_rfl) (by kernel_rfl) (by kernel_rfl) (by kernel_rfl) (fun _ _ _ h => h) HSX (Or.inl ⟨by rfl, ?y5c⟩) ?r5c
                        case y5c =>
                          intro wq hSq
                          obtain ⟨s1, s2, s3, s4, s5, s6⟩ := hSq
                          go_simp
                          try with_reducible rfl
                        try simp only [Act.put, List.setIfInBounds_toArray, List.set_cons_succ, List.set_cons_zero]
                        refine wpAnyX_take 6 (oi := ⟨some 56, _, _, _, _, _⟩) (v := ?v6c) rfl (by kernel_rfl) (by kernel_rfl) (by kernel_rfl) (by kernel_rfl) (fun _ _ _ h => h) HSX (Or.inl ⟨by rfl, ?y6c⟩) ?r6c
                        case y6c =>
                          intro wq hSq
                          obtain ⟨s1, s2, s3, s4, s5, s6⟩ := hSq
                          go_simp
                          try with_reducible rfl
                        try simp only [Act.put, List.setIfInBounds_toArray, List.set_cons_succ, List.set_cons_zero]
                        refine wpAnyX_take 7 (oi := ⟨some 57, _, _, _, _, _⟩) (v := ?v7c) rfl (by kernel_rfl) (by kernel_rfl) (by kernel_rfl) (by kernel_rfl) (fun _ _ _ h => h) HSX (Or.inl ⟨by rfl, ?y7c⟩) ?r7c
                        case y7c =>
                          intro wq hSq
                          obtain ⟨s1, s2, s3, s4, s5, s6⟩ := hSq
                          go_simp
                          try with_reducible rfl
                        try simp only [Act.put, List.setIfInBounds_toArray, List.set_cons_succ, List.set_cons_zero]
                        refine wpAnyX_take 8 (oi := ⟨some 58, _, _, _, _, _⟩) (v := ?v8c) rfl (by kernel_rfl) (by kernel_rfl) (by kernel_rfl) (by kernel_rfl) (fun _ _ _ h => h) HSX (Or.inl ⟨by rfl, ?y8c⟩) ?r8c
                        case y8c =>
                          intro wq hSq
                          obtain ⟨s1, s2, s3, s4, s5, s6⟩ := hSq
                          go_simp
                          try with_reducible rfl
                        try simp only [Act.put, List.setIfInBounds_toArray, List.set_cons_succ, List.set_cons_zero]
                        refine wpAnyX_take 9 (oi := ⟨some 59, _, _, _, _, _⟩) (v := ?v9c) rfl (by kernel_rfl) (by kernel_rfl) (by kernel_rfl) (by kernel_rfl) (fun _ _ _ h => h) HSX (Or.inl ⟨by rfl, ?y9c⟩) ?r9c
                        case y9c =>
                          intro wq hSq
                          obtain ⟨s1, s2, s3, s4, s5, s6⟩ := hSq
                          go_simp
                          try with_reducible rfl
                        try simp only [Act.put, List.setIfInBounds_toArray, List.set_cons_succ, List.set_cons_zero]
                        refine wpAnyX_take 10 (oi := ⟨some 60, _, _, _, _, _⟩) (v := ?v10c) rfl (by kernel_rfl) (by kernel_rfl) (by kernel_rfl) (by kernel_rfl) (fun _ _ _ h => h) HSX (Or.inl ⟨by rfl, ?y10c⟩) ?r10c
                        case y10c =>
                          intro wq hSq
                          obtain ⟨s1, s2, s3, s4, s5, s6⟩ := hSq
                          go_simp
                          try with_reducible rfl
                        try simp only [Act.put, List.setIfInBounds_toArray, List.set_cons_succ, List.set_cons_zero]
                        refine wpAnyX_take 11 (oi := ⟨some 61, _, _, _, _, _⟩) (v := ?v11c) rfl (by kernel_rfl) (by kernel_rfl) (by kernel_rfl) (by kernel_rfl) (fun _ _ _ h => h) HSX (Or.inl ⟨by rfl, ?y11c⟩) ?r11c
                        case y11c =>
                          intro wq hSq
                          obtain ⟨s1, s2, s3, s4, s5, s6⟩ := hSq
                          go_simp
                          try with_reducible rfl
                        try simp only [Act.put, List.setIfInBounds_toArray, List.set_cons_succ, List.set_cons_zero]
                        refine wpAnyX_take 12 (oi := ⟨some 62, _, _, _, _, _⟩) (v := ?v12c) rfl (by kernel_rfl) (by kernel_rfl) (by kernel_rfl) (by kernel_rfl) (fun _ _ _ h => h) HSX (Or.inl ⟨by rfl, ?y12c⟩) ?r12c
                        case y12c =>
                          intro wq hSq
                          obtain ⟨s1, s2, s3, s4, s5, s6⟩ := hSq
                          go_simp
                          try with_reducible rfl
                        try simp only [Act.put, List.setIfInBounds_toArray, List.set_cons_succ, List.set_cons_zero]
                        refine wpAnyX_take 13 (oi := ⟨some 63, _, _, _, _, _⟩) (v := ?v13c) rfl (by kernel_rfl) (by kernel_rfl) (by kernel_rfl) (by kernel_rfl) (fun _ _ _ h => h) HSX (Or.inl ⟨by rfl, ?y13c⟩) ?r13c
                        case y13c =>
                          intro wq hSq
                          obtain ⟨s1, s2, s3, s4, s5, s6⟩ := hSq
                          go_simp
                          try with_reducible rfl
                        try simp only [Act.put, List.setIfInBounds_toArray, List.set_cons_succ, List.set_cons_zero]
                        refine wpAnyX_take 14 (oi := ⟨some 64, _, _, _, _, _⟩) (v := ?v14c) rfl (by kernel_rfl) (by kernel_rfl) (by kernel_rfl) (by kernel_rfl) (fun _ _ _ h => h) HSX (Or.inl ⟨by rfl, ?y14c⟩) ?r14c
                        case y14c =>
                          intro wq hSq
                          obtain ⟨s1, s2, s3, s4, s5, s6⟩ := hSq
                          go_simp
                          try with_reducible rfl
                        try simp only [Act.put, List.setIfInBounds_toArray, List.set_cons_succ, List.set_cons_zero]
                        refine wpAnyX_take 15 (oi := ⟨some 65, _, _, _, _, _⟩) (v := ?v15c) rfl (by kernel_rfl) (by kernel_rfl) (by kernel_rfl) (by kernel_rfl) (fun _ _ _ h => h) HSX (Or.inl ⟨by rfl, ?y15c⟩) ?r15c
                        case y15c =>
                          intro wq hSq
                          obtain ⟨s1, s2, s3, s4, s5, s6⟩ := hSq
                          go_simp
                          try with_reducible rfl
                        try simp only [Act.put, List.setIfInBounds_toArray, List.set_cons_succ, List.set_cons_zero]
                        refine wpAnyX_take 16 (oi := ⟨some 66, _, _, _, _, _⟩) (v := ?v16c) rfl (by kernel_rfl) (by kernel_rfl) (by kernel_rfl) (by kernel_rfl) (fun _ _ _ h => h) HSX (Or.inl ⟨by rfl, ?y16c⟩) ?r16c
                        case y16c =>
                          intro wq hSq
                          obtain ⟨s1, s2, s3, s4, s5, s6⟩ := hSq
                          go_simp
                          try with_reducible rfl
                        try simp only [Act.put, List.setIfInBounds_toArray, List.set_cons_succ, List.set_cons_zero]
                        refine wpAnyX_take 17 (oi := ⟨some 67, _, _, _, _, _⟩) (v := ?v17c) rfl (by kernel_rfl) (by kernel_rfl) (by kernel_rfl) (by kernel_rfl) (fun _ _ _ h => h) HSX (Or.inl ⟨by rfl, ?y17c⟩) ?r17c
                        case y17c =>
                          intro wq hSq
                          obtain ⟨s1, s2, s3, s4, s5, s6⟩ := hSq
                          go_simp
                          try with_reducible rfl
                        try simp only [Act.put, List.setIfInBounds_toArray, List.set_cons_succ, List.set_cons_zero]
                        refine wpAnyX_take 18 (oi := ⟨some 68, _, _, _, _, _⟩) (v := ?v18c) rfl (by kernel_rfl) (by kernel_rfl) (by kernel_rfl) (by kernel_rfl) (fun _ _ _ h => h) HSX (Or.inl ⟨by rfl, ?y18c⟩) ?r18c
                        case y18c =>
                          intro wq hSq
                          obtain ⟨s1, s2, s3, s4, s5, s6⟩ := hSq
                          go_simp
                          try with_reducible rfl
                        try simp only [Act.put, List.setIfInBounds_toArray, List.set_cons_succ, List.set_cons_zero]
                        refine wpAnyX_take 19 (oi := ⟨some 69, _, _, _, _, _⟩) (v := ?v19c) rfl (by kernel_rfl) (by kernel_rfl) (by kernel_rfl) (by kernel_rfl) (fun _ _ _ h => h) HSX (Or.inl ⟨by rfl, ?y19c⟩) ?r19c
                        case y19c =>
                          intro wq hSq
                          obtain ⟨s1, s2, s3, s4, s5, s6⟩ := hSq
                          go_simp
                          try with_reducible rfl
                        try simp only [Act.put, List.setIfInBounds_toArray, List.set_cons_succ, List.set_cons_zero]
                        refine wpAnyX_take 20 (oi := ⟨some 70, _, _, _, _, _⟩) (v := ?v20c) rfl (by kernel_rfl) (by kernel_rfl) (by kernel_rfl) (by kernel_rfl) (fun _ _ _ h => h) HSX (Or.inl ⟨by rfl, ?y20c⟩) ?r20c
                        case y20c =>
                          intro wq hSq
                          obtain ⟨s1, s2, s3, s4, s5, s6⟩ := hSq
                          go_simp
                          try with_reducible rfl
                        try simp only [Act.put, List.setIfInBounds_toArray, List.set_cons_succ, List.set_cons_zero]
                        refine wpAnyX_take 21 (oi := ⟨some 71, _, _, _, _, _⟩) (v := ?v21c) rfl (by kernel_rfl) (by kernel_rfl) (by kernel_rfl) (by kernel_rfl) (fun _ _ _ h => h) HSX (Or.inl ⟨by rfl, ?y21c⟩) ?r21c
                        case y21c =>
                          intro wq hSq
                          obtain ⟨s1, s2, s3, s4, s5, s6⟩ := hSq
                          go_simp
                          try with_reducible rfl
                        try simp only [Act.put, List.setIfInBounds_toArray, List.set_cons_succ, List.set_cons_zero]
                        clear HSX
                        refine wpAnyX_done (by kernel_rfl) ?_ _
                        go_wp2_with fail
                        go_meet
                        case rel => exact ⟨rfl, HD1⟩
                    · have hdf : dec = false := by rw [← HDEC.out, decide_eq_false c1]; rfl
                      subst hdf
                      have hd1 : decide (lw ≤ o0) = false := decide_eq_false c1
                      have hkI0 : (0 : Int) ≤ (k : Int) := by omega
                      have hkI1 : (k : Int) < (lo : Int) := by omega
                      refine wp_region_x (fun W => W.cell? ⟨pf, 0, none⟩ = some (.slice (some ⟨gv, fv, none⟩) lv cv) ∧ W.cell? ⟨pf, 1, none⟩ = some (.slice Ag lg cg) ∧ W.cell? ⟨pf, 2, none⟩ = some (.slice Ay ly cy) ∧ W.cell? ⟨q, 2, none⟩ = some (.int .i64 lw) ∧ W.cell? ⟨q, 3, none⟩ = some (.int .i64 hg') ∧ W.cell? ⟨go, fo + k, none⟩ = some (.int .i64 o0)) 22 (by kernel_rfl) ?_
                      have HSX := KP.out _ HD0.out
                      refine wpAnyX_take 0 (oi := ⟨some 50, _, _, _, _, _⟩) (v := ?v0d) rfl (by kernel_rfl) (by kernel_rfl) (by kernel_rfl) (by kernel_rfl) (fun _ _ _ h => h) HSX (Or.inl ⟨by rfl, ?y0d⟩) ?r0d
                      case y0d =>
                        intro wq hSq
                        obtain ⟨s1, s2, s3, s4, s5, s6⟩ := hSq
                        go_simp
                        try with_reducible rfl
                      try simp only [Act.put, List.setIfInBounds_toArray, List.set_cons_succ, List.set_cons_zero]
                      refine wpAnyX_take 1 (oi := ⟨some 51, _, _, _, _, _⟩) (v := ?v1d) rfl (by kernel_rfl) (by kernel_rfl) (by kernel_rfl) (by kernel_rfl) (fun _ _ _ h => h) HSX (Or.inl ⟨by rfl, ?y1d⟩) ?r1d
                      case y1d =>
                        intro wq hSq
                        obtain ⟨s1, s2, s3, s4, s5, s6⟩ := hSq
                        go_simp
                        try with_reducible rfl
                      try simp only [Act.put, List.setIfInBounds_toArray, List.set_cons_succ, List.set_cons_zero]
                      refine wpAnyX_one 2 (by kernel_rfl) rfl (fun K hK => ?_)
                      go_simp
                      go_at_call 15
                      refine (mentioned_b hs ks (i : Int) (some ⟨gv, fv, none⟩) lv cv Ag lg cg Ay ly cy _ ((HHS.out.below HBR.out).below HD0.out) HL.out ((HK.out.below HBR.out).below HD0.out) false HZ).mono ?_
                      rintro e w7 ⟨rfl, hb7⟩
                      have HD1 := Lib.hid (HD0.out.trans (hb7.mono HD0.out.size))
                      clear hb7 HSX
                      have HSX := KP.out _ HD1.out
                      refine hK _ _ (fun _ => HSX) ?_
                      clear hK K
                      try simp only [Act.put, List.setIfInBounds_toArray, List.set_cons_succ, List.set_cons_zero]
                      refine wpAnyX_take 3 (oi := ⟨some 53, _, _, _, _, _⟩) (v := ?v3d) rfl (by kernel_rfl) (by kernel_rfl) (by kernel_rfl) (by kernel_rfl) (fun _ _ _ h => h) HSX (Or.inl ⟨by rfl, ?y3d⟩) ?r3d
                      case y3d =>
                        intro wq hSq
                        obtain ⟨s1, s2, s3, s4, s5, s6⟩ := hSq
                        go_simp
                        try with_reducible rfl
                      try simp only [Act.put, List.setIfInBounds_toArray, List.set_cons_succ, List.set_cons_zero]
                      refine wpAnyX_take 4 (oi := ⟨some 54, _, _, _, _, _⟩) (v := ?v4d) rfl (by kernel_rfl) (by kernel_rfl) (by kernel_rfl) (by kernel_rfl) (fun _ _ _ h => h) HSX (Or.inl ⟨by rfl, ?y4d⟩) ?r4d
                      case y4d =>
                        intro wq hSq
                        obtain ⟨s1, s2, s3, s4, s5, s6⟩ := hSq
                        go_simp
                        try with_reducible rfl
                      try simp only [Act.put, List.setIfInBounds_toArray, List.set_cons_succ, List.set_cons_zero]
                      refine wpAnyX_take 5 (oi := ⟨some 55, _, _, _, _, _⟩) (v := ?v5d) rfl (by kernel_rfl) (by kernel_rfl) (by kernel_rfl) (by kernel_rfl) (fun _ _ _ h => h) HSX (Or.inl ⟨by rfl, ?y5d⟩) ?r5d
                      case y5d =>
                        intro wq hSq
                        obtain ⟨s1, s2, s3, s4, s5, s6⟩ := hSq
                        go_simp
                        try with_reducible rfl
                      try simp only [Act.put, List.setIfInBounds_toArray, List.set_cons_succ, List.set_cons_zero]
                      refine wpAnyX_take 6 (oi := ⟨some 56, _, _, _, _, _⟩) (v := ?v6d) rfl (by kernel_rfl) (by kernel_rfl) (by kernel_rfl) (by kernel_rfl) (fun _ _ _ h => h) HSX (Or.inl ⟨by rfl, ?y6d⟩) ?r6d
                      case y6d =>
                        intro wq hSq
                        obtain ⟨s1, s2, s3, s4, s5, s6⟩ := hSq
                        go_simp
                        try with_reducible rfl
                      try simp only [Act.put, List.setIfInBounds_toArray, List.set_cons_succ, List.set_cons_zero]
                      refine wpAnyX_take 7 (oi := ⟨some 57, _, _, _, _, _⟩) (v := ?v7d) rfl (by kernel_rfl) (by kernel_rfl) (by kernel_rfl) (by kernel_rfl) (fun _ _ _ h => h) HSX (Or.inl ⟨by rfl, ?y7d⟩) ?r7d
                      case y7d =>
                        intro wq hSq
                        obtain ⟨s1, s2, s3, s4, s5, s6⟩ := hSq
                        go_simp
                        try with_reducible rfl
                      try simp only [Act.put, List.setIfInBounds_toArray, List.set_cons_succ, List.set_cons_zero]
                      refine wpAnyX_take 8 (oi := ⟨some 58, _, _, _, _, _⟩) (v := ?v8d) rfl (by kernel_rfl) (by kernel_rfl) (by kernel_rfl) (by kernel_rfl) (fun _ _ _ h => h) HSX (Or.inl ⟨by rfl, ?y8d⟩) ?r8d
                      case y8d =>
                        intro wq hSq
                        obtain ⟨s1, s2, s3, s4, s5, s6⟩ := hSq
                        go_simp
                        try with_reducible rfl
                      try simp only [Act.put, List.setIfInBounds_toArray, List.set_cons_succ, List.set_cons_zero]
                      refine wpAnyX_take 9 (oi := ⟨some 59, _, _, _, _, _⟩) (v := ?v9d) rfl (by kernel_rfl) (by kernel_rfl) (by kernel_rfl) (by kernel_rfl) (fun _ _ _ h => h) HSX (Or.inl ⟨by rfl, ?y9d⟩) ?r9d
                      case y9d =>
                        intro wq hSq
                        obtain ⟨s1, s2, s3, s4, s5, s6⟩ := hSq
                        go_simp
                        try with_reducible rfl
                      try simp only [Act.put, List.setIfInBounds_toArray, List.set_cons_succ, List.set_cons_zero]
                      refine wpAnyX_take 10 (oi := ⟨some 60, _, _, _, _, _⟩) (v := ?v10d) rfl (by kernel_rfl) (by kernel_rfl) (by kernel_rfl) (by kernel_rfl) (fun _ _ _ h => h) HSX (Or.inl ⟨by rfl, ?y10d⟩) ?r10d
                      case y10d =>
                        intro wq hSq
                        obtain ⟨s1, s2, s3, s4, s5, s6⟩ := hSq
                        go_simp
                        try with_reducible rfl
                      try simp only [Act.put, List.setIfInBounds_toArray, List.set_cons_succ, List.set_cons_zero]
                      refine wpAnyX_take 11 (oi := ⟨some 61, _, _, _, _, _⟩) (v := ?v11d) rfl (by kernel_rfl) (by kernel_rfl) (by kernel_rfl) (by kernel_rfl) (fun _ _ _ h => h) HSX (Or.inl ⟨by rfl, ?y11d⟩) ?r11d
                      case y11d =>
                        intro wq hSq
                        obtain ⟨s1, s2, s3, s4, s5, s6⟩ := hSq
                        go_simp
                        try with_reducible rfl
                      try simp only [Act.put, List.setIfInBounds_toArray, List.set_cons_succ, List.set_cons_zero]
                      refine wpAnyX_take 12 (oi := ⟨some 62, _, _, _, _, _⟩) (v := ?v12d) rfl (by kernel_rfl) (by kernel_rfl) (by kernel_rfl) (by kernel_rfl) (fun _ _ _ h => h) HSX (Or.inl ⟨by rfl, ?y12d⟩) ?r12d
                      case y12d =>
                        intro wq hSq
                        obtain ⟨s1, s2, s3, s4, s5, s6⟩ := hSq
                        go_simp
                        try with_reducible rfl
                      try simp only [Act.put, List.setIfInBounds_toArray, List.set_cons_succ, List.set_cons_zero]
                      refine wpAnyX_take 13 (oi := ⟨some 63, _, _, _, _, _⟩) (v := ?v13d) rfl (by kernel_rfl) (by kernel_rfl) (by kernel_rfl) (by kernel_rfl) (fun _ _ _ h => h) HSX (Or.inl ⟨by rfl, ?y13d⟩) ?r13d
                      case y13d =>
                        intro wq hSq
                        obtain ⟨s1, s2, s3, s4, s5, s6⟩ := hSq
                        go_simp
                        try with_reducible rfl
                      try simp only [Act.put, List.setIfInBounds_toArray, List.set_cons_succ, List.set_cons_zero]
                      refine wpAnyX_take 14 (oi := ⟨some 64, _, _, _, _, _⟩) (v := undef) rfl (by kernel_rfl) (by kernel_rfl) (by kernel_rfl) (by kernel_rfl) (fun _ _ _ h => h) HSX (Or.inr ⟨by rfl, rfl⟩) ?_
                      try simp only [Act.put, List.setIfInBounds_toArray, List.set_cons_succ, List.set_cons_zero]
                      refine wpAnyX_take 15 (oi := ⟨some 65, _, _, _, _, _⟩) (v := undef) rfl (by kernel_rfl) (by kernel_rfl) (by kernel_rfl) (by kernel_rfl) (fun _ _ _ h => h) HSX (Or.inr ⟨by rfl, rfl⟩) ?_
                      try simp only [Act.put, List.setIfInBounds_toArray, List.set_cons_succ, List.set_cons_zero]
                      refine wpAnyX_take 16 (oi := ⟨some 66, _, _, _, _, _⟩) (v := undef) rfl (by kernel_rfl) (by kernel_rfl) (by kernel_rfl) (by kernel_rfl) (fun _ _ _ h => h) HSX (Or.inr ⟨by rfl, rfl⟩) ?_
                      try simp only [Act.put, List.setIfInBounds_toArray, List.set_cons_succ, List.set_cons_zero]
                      refine wpAnyX_take 17 (oi := ⟨some 67, _, _, _, _, _⟩) (v := undef) rfl (by kernel_rfl) (by kernel_rfl) (by kernel_rfl) (by kernel_rfl) (fun _ _ _ h => h) HSX (Or.inr ⟨by rfl, rfl⟩) ?_
                      try simp only [Act.put, List.setIfInBounds_toArray, List.set_cons_succ, List.set_cons_zero]
                      refine wpAnyX_take 18 (oi := ⟨some 68, _, _, _, _, _⟩) (v := undef) rfl (by kernel_rfl) (by kernel_rfl) (by kernel_rfl) (by kernel_rfl) (fun _ _ _ h => h) HSX (Or.inr ⟨by rfl, rfl⟩) ?_
                      try simp only [Act.put, List.setIfInBounds_toArray, List.set_cons_succ, List.set_cons_zero]
                      refine wpAnyX_take 19 (oi := ⟨some 69, _, _, _, _, _⟩) (v := undef) rfl (by kernel_rfl) (by kernel_rfl) (by kernel_rfl) (by kernel_rfl) (fun _ _ _ h => h) HSX (Or.inr ⟨by rfl, rfl⟩) ?_
                      try simp only [Act.put, List.setIfInBounds_toArray, List.set_cons_succ, List.set_cons_zero]
                      refine wpAnyX_take 20 (oi := ⟨some 70, _, _, _, _, _⟩) (v := undef) rfl (by kernel_rfl) (by kernel_rfl) (by kernel_rfl) (by kernel_rfl) (fun _ _ _ h => h) HSX (Or.inr ⟨by rfl, rfl⟩) ?_
                      try simp only [Act.put, List.setIfInBounds_toArray, List.set_cons_succ, List.set_cons_zero]
                      refine wpAnyX_take 21 (oi := ⟨some 71, _, _, _, _, _⟩) (v := ?v21d) rfl (by kernel_rfl) (by kernel_rfl) (by kernel_rfl) (by kernel_rfl) (fun _ _ _ h => h) HSX (Or.inl ⟨by rfl, ?y21d⟩) ?r21d
                      case y21d =>
                        intro wq hSq
                        obtain ⟨s1, s2, s3, s4, s5, s6⟩ := hSq
                        go_simp
                        try with_reducible rfl
                      try simp only [Act.put, List.setIfInBounds_toArray, List.set_cons_succ, List.set_cons_zero]
                      clear HSX
                      refine wpAnyX_done (by kernel_rfl) ?_ _
                      go_wp2_with fail
                      go_meet
                      case rel => exact ⟨rfl, HD1⟩
                case rest =>
                  obtain ⟨rfl, HX⟩ := hcut
                  have HBR7 := Lib.hid (HBR.out.trans (HX.out.mono HBR.out.size))
                  have HOW7 := Lib.hid (ownsRow_below HOW.out HX.out)
                  obtain ⟨_, _, _, _, _, x5⟩ := KP.out _ HX.out
                  obtain ⟨qq, cp, hV⟩ := Joins.ownsRow_form HOW7.out (by omega)
                  injection hV with e1 e2 e3
                  subst e1 e3
                  clear KP HBR HOW HX n1 n2 n3 HN6 HDEC HZ e2
                  cases dec with
                  | false =>
                    have hn : s0 = nw := HNN.out
                    subst hn
                    have h8 := HOW7.out
                    rw [HROW.out, app_cons] at h8
                    have HOW8 := Lib.hid h8
                    clear h8
                    clear HROW HNN HOW7 x5
                    go_wp2_with fail
                    go_roundw
                    case rel => exact ⟨i + 1, k + 1, D ++ [s0], by omega, by go_num, by go_num, HD2, HTT2, HN2, HBR7, HOW8⟩
                    case measure => simp [intOf]; omega
                  | true =>
                    have hn : o0 = nw := HNN.out
                    subst hn
                    have hcl : (iv (D ++ S.drop k))[k]? = some (.int .i64 s0) := by
                      rw [HROW.out, iv, List.getElem?_map, List.getElem?_append_right (by rw [HD.out]; exact Nat.le_refl _), HD.out, Nat.sub_self]; rfl
                    have x6 := (HOW7.out.cellAt k (by omega)).trans hcl
                    have x7 := HOW7.out.frozenAt k
                    have h8 := (HOW7.out.stored k (.int .i64 o0)).1
                    rw [HROW.out, ← iv_set, List.set_append_right _ _ (by rw [HD.out]; exact Nat.le_refl _), HD.out, Nat.sub_self, List.set_cons_zero, app_cons] at h8
                    have HOW8 := Lib.hid h8
                    clear h8
                    have hqb := (HOW7.out.lt qq rfl).1
                    have HBR8 := Lib.hid (HBR7.out.setCell (p := ⟨qq, k, none⟩) hqb (.int .i64 o0))
                    clear HROW HNN HOW7 HBR7 hcl
                    go_wp2_with fail
                    go_roundw
                    case rel => exact ⟨i + 1, k + 1, D ++ [o0], by omega, by go_num, by go_num, HD2, HTT2, HN2, HBR8, HOW8⟩
                    case measure => simp [intOf]; omega
            · have hvd : vs.drop i = [] := List.drop_of_length_le (by rw [HVL.out]; omega)
              have hkl : k = lo := by have := HN.out; rw [hvd, nsec] at this; omega
              have hsd : S.drop k = [] := List.drop_of_length_le (by rw [HSL.out]; omega)
              have hrow : D ++ S.drop k = T := by have := HTT.out; rw [hvd, patchS] at this; rw [hsd]; exact this
              have htl : T.length = lo := by rw [← hrow, List.length_append, List.length_drop, HD.out, HSL.out]; omega
              have hown : wr.ownsRow w5.heap.size 3 1 (.slice At lo ct) T.length (iv T) := by rw [htl, ← hrow]; exact HOW.out
              have HZT := Lib.hid (Zs.of_row hown)
              obtain ⟨s2, hs2⟩ : ∃ z, endM vs hs ks vals2 = z := ⟨_, rfl⟩
              have HS2 := Lib.hid hs2
              have hb := HBR.out
              have HFz := Lib.hid (HF.out.next hb)
              have HIz := Lib.hid (HI.out.next hb)
              have HOz := Lib.hid (HO.out.next hb)
              have HBz := Lib.hid (HB.out.trans (hb.mono HB.out.size))
              have HZWz := Lib.hid (HZW.out.below hb)
              clear hvd hkl hsd hrow htl hown hs2 HTT HN HD HOW hb
              have f0 := HFz.out.at 0 _ rfl
              have f1 := HFz.out.at 1 _ rfl
              have f2 := HFz.out.at 2 _ rfl
              have i0 := HIz.out.at 0 _ rfl
              have i1 := HIz.out.at 1 _ rfl
              have i2 := HIz.out.at 2 _ rfl
              go_wp2_with fail
              go_at_call 14
              refine (Run_b vs hs ks Av lv cv Ag lg cg Ay ly cy T P R At lo ct Ap lp cp Ar lr cr _ (HV.out.below HBR.out) (HHS.out.below HBR.out) HL.out (HK.out.below HBR.out) (by omega) HCN.out HZT.out (HZP.out.below HBR.out) (HZR.out.below HBR.out) 0 s2 vals2 HST2 HS2).mono ?_
              rintro e w8 ⟨hb8, hcase⟩
              rcases hcase with ⟨hr, rfl⟩ | ⟨_, Ao2, co2, rfl, hzw2⟩
              · exact absurd rfl hr
              have hb9 := hb8.alloc hb8.size (.cells #[.slice Ao2 s2.o.length co2, .int .i64 s2.t] 36)
              have HBy := Lib.hid (HBz.out.trans (hb9.mono HBz.out.size))
              have HOy := Lib.hid (HOz.out.next hb9)
              have HZWy := Lib.hid (HZWz.out.below hb9)
              have HNy := Lib.hid (Cs.new w8 #[.slice Ao2 s2.o.length co2, .int .i64 s2.t] 36)
              have HZ2y := Lib.hid (hzw2.below ((Below.refl w8.heap.size w8).alloc (Nat.le_refl _) (.cells #[.slice Ao2 s2.o.length co2, .int .i64 s2.t] 36)))
              have hsame : ((s.t == s2.t) && (s.o == s2.o)) = true := by
                have h1 := HOEQ.out
                have h2 := HTEQ.out
                rw [HS.out, HS2.out] at h1 h2
                rw [h1, h2]
                simp
              have HSM := Lib.hid hsame
              clear hb8 hb9 hzw2 hsame HFz HIz HOz HBz HZWz f0 f1 f2 i0 i1 i2
              go_upto_region 18 with fail
              obtain ⟨w9, hw9⟩ : ∃ w9, w8.alloc (.cells #[.slice Ao2 s2.o.length co2, .int .i64 s2.t] 36) = w9 := ⟨_, rfl⟩
              obtain ⟨p9, hp9⟩ : ∃ p, w8.heap.size = p := ⟨_, rfl⟩
              rw [hw9] at HBy HOy HZWy HNy HZ2y
              rw [hp9] at HNy
              rw [hw9, hp9]
              clear hw9 hp9
              have o0 := HOy.out.at 0 _ rfl
              have o1 := HOy.out.at 1 _ rfl
              have y0 := HNy.out.at 0 _ rfl
              have y1 := HNy.out.at 1 _ rfl
              go_wp2_with fail
              go_at_call 16
              refine (Same_b s.o s2.o s.t s2.t Ao Ao2 s.o.length co s2.o.length co2 true HSM _ HZWy.out HZ2y.out).mono ?_
              rintro e wa ⟨rfl, hba⟩
              have HBa := Lib.hid (HBy.out.trans (hba.mono HBy.out.size))
              clear hba
              go_wp2_with fail
              go_ret
              exact ⟨rfl, HBa.out⟩
end Go.Proofs.Ytjpjmoejdkmglaa
