/-
  The walk over the law FlatChecks.
-/
import Derived.Test.YtjpjmoejdkmglaaJC
import Derived.Test.YtjpjmoejdkmglaaJD
import Derived.Test.YtjpjmoejdkmglaaJE
namespace Go.Proofs.Ytjpjmoejdkmglaa
open Go.RowKit

set_option maxRecDepth 100000 in
set_option maxHeartbeats 8000000 in
theorem checks_walk (vs : List Vr) (hs : List Ht) (ks : List Sp) (Av : Option Addr) (lv cv : Nat) (Ag : Option Addr) (lg cg : Nat) (Ay : Option Addr) (ly cy : Nat) (w : World) (hv : VOk w Av lv cv vs) (hh : HOk w Ag lg cg hs) (hl : ks.length = ly) (hk : SOk w Ay cy ks) :
    Calls Try.prog 3 #[.agg #[.slice Av lv cv, .slice Ag lg cg, .slice Ay ly cy]] w fun e w' => e = .returned (.bool true) ∧ Below w.heap.size w w' := by
  have hba := (Below.refl w.heap.size w).alloc (Nat.le_refl _) (.cells #[.slice Av lv cv, .slice Ag lg cg, .slice Ay ly cy] 26)
  have HB := Lib.hid hba
  have HC := Lib.hid (Cs.new w #[.slice Av lv cv, .slice Ag lg cg, .slice Ay ly cy] 26)
  have HV := Lib.hid (hv.below hba)
  have HHS := Lib.hid (hh.below hba)
  have HK := Lib.hid (hk.below hba)
  have HL := Lib.hid hl
  have HVL := Lib.hid hv.len
  obtain ⟨b, hbf⟩ : ∃ z, fewB vs hs ks 70 1100 = z := ⟨_, rfl⟩
  obtain ⟨r, hr0⟩ : ∃ z, checkP vs hs ks = z := ⟨_, rfl⟩
  have HFW := Lib.hid hbf
  have HR := Lib.hid hr0
  clear hba hv hh hk hl hbf hr0
  go_enter Try.func3, Try.ntmps3
  go_upto_region 1 with fail
  obtain ⟨w1, hw1⟩ : ∃ w1, w.alloc (.cells #[.slice Av lv cv, .slice Ag lg cg, .slice Ay ly cy] 26) = w1 := ⟨_, rfl⟩
  obtain ⟨p, hp⟩ : ∃ p, w.heap.size = p := ⟨_, rfl⟩
  rw [hw1] at HB HC HV HHS HK
  rw [hp] at HC
  rw [hw1, hp]
  clear hw1 hp
  go_wp2_with fail
  go_at_call 10
  refine (known_b _).mono ?_
  rintro e w2 ⟨rfl, hb⟩
  have HB2 := Lib.hid (HB.out.trans (hb.mono HB.out.size))
  have HC2 := Lib.hid (HC.out.next hb)
  have HV2 := Lib.hid (HV.out.below hb)
  have HHS2 := Lib.hid (HHS.out.below hb)
  have HK2 := Lib.hid (HK.out.below hb)
  clear hb HB HC HV HHS HK
  have f0 := HC2.out.at 0 _ rfl
  have f1 := HC2.out.at 1 _ rfl
  have f2 := HC2.out.at 2 _ rfl
  go_wp2_with fail
  go_at_call 11
  refine (Few_b vs hs ks 70 1100 Av lv cv Ag lg cg Ay ly cy _ HVL.out HHS2.out HL.out HK2.out (by omega) (by omega) (by omega) b HFW).mono ?_
  rintro e w3 ⟨rfl, hb⟩
  have HB3 := Lib.hid (HB2.out.trans (hb.mono HB2.out.size))
  have HC3 := Lib.hid (HC2.out.next hb)
  have HV3 := Lib.hid (HV2.out.below hb)
  have HHS3 := Lib.hid (HHS2.out.below hb)
  have HK3 := Lib.hid (HK2.out.below hb)
  clear hb HB2 HC2 HV2 HHS2 HK2 f0 f1 f2
  have f0 := HC3.out.at 0 _ rfl
  have f1 := HC3.out.at 1 _ rfl
  have f2 := HC3.out.at 2 _ rfl
  cases b with
  | false =>
    go_wp2_with fail
    go_ret
    exact ⟨rfl, HB3.out⟩
  | true =>
  obtain ⟨hm1, hm2, hm3⟩ := few_small HFW.out
  have hlv : lv ≤ 70 := by have := HVL.out; omega
  have hcn : hcnt hs + Sp.cntL ks ≤ 1100 := by omega
  have HCN := Lib.hid hcn
  clear hm1 hm2 hm3 hcn
  go_upto_region 5 with fail
  have KP : Hid (∀ W, Below w3.heap.size w3 W → (W.cell? ⟨p, 0, none⟩ = some (.slice Av lv cv) ∧ W.cell? ⟨p, 1, none⟩ = some (.slice Ag lg cg) ∧ W.cell? ⟨p, 2, none⟩ = some (.slice Ay ly cy))) := Lib.hid fun W hb => ⟨(HC3.out.next hb).at 0 _ rfl, (HC3.out.next hb).at 1 _ rfl, (HC3.out.next hb).at 2 _ rfl⟩
  clear f0 f1 f2
  have hq : (r == r) = true := by simp
  go_region_held3 (fun W => W.cell? ⟨p, 0, none⟩ = some (.slice Av lv cv) ∧ W.cell? ⟨p, 1, none⟩ = some (.slice Ag lg cg) ∧ W.cell? ⟨p, 2, none⟩ = some (.slice Ay ly cy)) (first | exact KP.out _ HD2.out | exact KP.out _ HD1.out | exact KP.out _ (Below.refl _ _).drew) (first
    | (go_at_call 13; refine (rcheck_b vs hs ks Av lv cv Ag lg cg Ay ly cy _ (HV3.out.below HD1.out) (HHS3.out.below HD1.out) HL.out (HK3.out.below HD1.out) (by omega) (by have := HCN.out; omega) r HR).mono ?_; rintro e w5 ⟨rfl, hb2⟩; have HD2 := Lib.hid (HD1.out.trans (hb2.mono HD1.out.size)); clear hb2)
    | (go_at_call 12; refine (check_b vs hs ks Av lv cv Ag lg cg Ay ly cy _ (HV3.out.below (Below.refl _ _).drew) (HHS3.out.below (Below.refl _ _).drew) HL.out (HK3.out.below (Below.refl _ _).drew) (by omega) (by have := HCN.out; omega) r HR).mono ?_; rintro e w4 ⟨rfl, hb1⟩; have HD1 := Lib.hid ((Below.refl w3.heap.size w3).drew.trans (hb1.mono (Nat.le_refl _))); clear hb1))
  go_wp2_with fail
  go_ret
  exact ⟨by first | rfl | exact ret_bool (by simp), HB3.out.trans (HD2.out.mono HB3.out.size)⟩
end Go.Proofs.Ytjpjmoejdkmglaa
