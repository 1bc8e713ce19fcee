/-
  The walks over the reference's Play and Run, and over Final.
-/
import Derived.Test.YtjpjmoejdkmglaaGreatFlEe
import Derived.Test.YtjpjmoejdkmglaaGreatJH
import Derived.Test.YtjpjmoejdkmglaaGreatJC
namespace Go.Proofs.YtjpjmoejdkmglaaGreat
open Go.RowKit

theorem hatsC_low {vs : List Vr} {hs : List Ht} (h : hatsC vs hs = 0) {i : Nat} {x : Ht} (hi : hs[i]? = some x) : x.low ≤ x.high := by
  unfold hatsC at h
  have := fstC_all _ _ h i (List.getElem?_eq_some_iff.1 hi).1
  unfold hatAt at this
  rw [hi] at this
  simp only [Option.map_some, Option.getD_some] at this
  unfold hatC at this
  split at this; · cases this
  split at this; · cases this
  split at this; · cases this
  rename_i hb
  unfold boundB at hb
  simp only [Bool.and_eq_false_iff, decide_eq_false_iff_not, not_or, Decidable.not_not] at hb
  exact hb.1
theorem keeps_3 {S S' : Nat → Prop} {b : Nat} {W : World} (hb : ∀ k, S k → b ≠ k) (hs : ∀ k, S k → S' k) (v0 v1 v2 : Value) : Keeps S S' W (((W.setCell ⟨b, 0, none⟩ v0).setCell ⟨b, 1, none⟩ v1).setCell ⟨b, 2, none⟩ v2) :=
  (((keeps_set v0 hb).trans (keeps_set v1 hb)).trans (keeps_set v2 hb)).trans (Keeps.mono fun k _ h => hs k h)
/-- What Play hands back. -/
def Played (w : World) (lv : Nat) (r : Int) (s : Ms) (e : Ending) (w' : World) : Prop :=
  Below w.heap.size w w' ∧ ((r ≠ 0 ∧ e = .returned (.tuple #[.agg #[.slice none 0 0, .slice none 0 0, .int .i64 0], .int .i64 r])) ∨
    (r = 0 ∧ ∃ (Ax : Option Addr) (cx : Nat) (Ao : Option Addr) (co : Nat), e = .returned (.tuple #[.agg #[.slice Ax lv cx, .slice Ao s.o.length co, .int .i64 s.t], .int .i64 0]) ∧ ZsN (fun b => w.heap.size ≤ b) w' Ax lv cx s.v ∧ ZsN (fun b => w.heap.size ≤ b) w' Ao s.o.length co s.o))
set_option maxRecDepth 100000 in
set_option maxHeartbeats 8000000 in
theorem rPlay_b (vs : List Vr) (hs : List Ht) (ks : List Sp) (Av : Option Addr) (lv cv : Nat) (Ag : Option Addr) (lg cg : Nat) (Ay : Option Addr) (ly cy : Nat) (S P R : List Int) (As : Option Addr) (ls cs : Nat) (Ap : Option Addr) (lp cp : Nat) (Ar : Option Addr) (lr cr : Nat) (w : World) (hv : VOk w Av lv cv vs) (hh : HOk w Ag lg cg hs) (hl : ks.length = ly) (hk : SOk w Ay cy ks) (hlv : lv ≤ 1000) (hlg : lg ≤ 1000) (hbd : hcnt hs + Sp.cntL ks ≤ 90000)
    (hzs : Zs w As ls cs S) (hzp : Zs w Ap lp cp P) (hzr : Zs w Ar lr cr R) (r : Int) (s : Ms) (vals : List Int) (H : Hid (startC vs hs ks ⟨S, P, R⟩ = (r, vals))) (HE : Hid (endM vs hs ks vals = s)) :
    Calls Tryz.prog 11 #[.agg #[.slice Av lv cv, .slice Ag lg cg, .slice Ay ly cy], .agg #[.slice As ls cs, .slice Ap lp cp, .slice Ar lr cr]] w (Played w lv r s) := by
  have HBD := Lib.hid hbd
  have HL := Lib.hid hl
  have HHL := Lib.hid hh.len
  have hb1 := (Below.refl w.heap.size w).alloc (Nat.le_refl _) (.cells #[.slice Av lv cv, .slice Ag lg cg, .slice Ay ly cy] 26)
  have hb2 := hb1.alloc hb1.size (.cells #[.slice As ls cs, .slice Ap lp cp, .slice Ar lr cr] 29)
  have hb3 := hb2.alloc hb2.size (.cells #[.slice none 0 0, .slice none 0 0, .int .i64 0] 42)
  have HC := Lib.hid (((Cs.new w #[.slice Av lv cv, .slice Ag lg cg, .slice Ay ly cy] 26).alloc (.cells #[.slice As ls cs, .slice Ap lp cp, .slice Ar lr cr] 29)).alloc (.cells #[.slice none 0 0, .slice none 0 0, .int .i64 0] 42))
  have HI := Lib.hid ((Cs.new1 w (.cells #[.slice Av lv cv, .slice Ag lg cg, .slice Ay ly cy] 26) #[.slice As ls cs, .slice Ap lp cp, .slice Ar lr cr] 29).alloc (.cells #[.slice none 0 0, .slice none 0 0, .int .i64 0] 42))
  have HO : Hid (Cs (((w.alloc (.cells #[.slice Av lv cv, .slice Ag lg cg, .slice Ay ly cy] 26)).alloc (.cells #[.slice As ls cs, .slice Ap lp cp, .slice Ar lr cr] 29)).alloc (.cells #[.slice none 0 0, .slice none 0 0, .int .i64 0] 42)) (w.heap.size + 1 + 1) [.slice none 0 0, .slice none 0 0, .int .i64 0]) := Lib.hid (Cs.newAt (W := ((w.alloc (.cells #[.slice Av lv cv, .slice Ag lg cg, .slice Ay ly cy] 26)).alloc (.cells #[.slice As ls cs, .slice Ap lp cp, .slice Ar lr cr] 29))) #[.slice none 0 0, .slice none 0 0, .int .i64 0] 42 (by simp))
  have HB := Lib.hid hb3
  have HV := Lib.hid (hv.below hb3)
  have HHS := Lib.hid (hh.below hb3)
  have HK := Lib.hid (hk.below hb3)
  have HZS := Lib.hid (hzs.below hb3)
  have HZP := Lib.hid (hzp.below hb3)
  have HZR := Lib.hid (hzr.below hb3)
  clear hv hh hk hl hbd hzs hzp hzr hb1 hb2 hb3
  obtain ⟨ck, hck⟩ : ∃ z, checkP vs hs ks = z := ⟨_, rfl⟩
  have HCK := Lib.hid hck
  clear hck
  go_enter Tryz.func11, Tryz.ntmps11
  go_upto_region 1 with fail
  obtain ⟨w1, hw1⟩ : ∃ w1, ((w.alloc (.cells #[.slice Av lv cv, .slice Ag lg cg, .slice Ay ly cy] 26)).alloc (.cells #[.slice As ls cs, .slice Ap lp cp, .slice Ar lr cr] 29)).alloc (.cells #[.slice none 0 0, .slice none 0 0, .int .i64 0] 42) = w1 := ⟨_, rfl⟩
  rw [hw1] at HB HC HI HO HV HHS HK HZS HZP HZR
  rw [hw1]
  clear hw1
  have n0 := HC.out.at 0 _ rfl; have i0 := HI.out.at 0 _ rfl; have n1 := HC.out.at 1 _ rfl; have i1 := HI.out.at 1 _ rfl; have n2 := HC.out.at 2 _ rfl; have i2 := HI.out.at 2 _ rfl
  go_wp2_with fail
  go_at_call 22
  refine (rcheck_b vs hs ks Av lv cv Ag lg cg Ay ly cy _ HV.out HHS.out HL.out HK.out hlv HBD.out ck HCK).mono ?_
  rintro e w2 ⟨rfl, hb⟩
  clear n0 n1 n2 i0 i1 i2
  have HB2 := Lib.hid (HB.out.trans (hb.mono HB.out.size))
  have HC2 := Lib.hid (HC.out.next hb)
  have HI2 := Lib.hid (HI.out.next hb)
  have HO2 := Lib.hid (HO.out.next hb)
  have HV2 := Lib.hid (HV.out.below hb)
  have HHS2 := Lib.hid (HHS.out.below hb)
  have HK2 := Lib.hid (HK.out.below hb)
  have HZS2 := Lib.hid (HZS.out.below hb)
  have HZP2 := Lib.hid (HZP.out.below hb)
  have HZR2 := Lib.hid (HZR.out.below hb)
  clear hb HB HC HI HO HV HHS HK HZS HZP HZR
  have o0 := HO2.out.at 0 _ rfl; have of0 := HO2.out.free 0; have o1 := HO2.out.at 1 _ rfl; have of1 := HO2.out.free 1; have o2 := HO2.out.at 2 _ rfl; have of2 := HO2.out.free 2; have hol := HO2.out.lt
  by_cases hc0 : ck = 0
  case neg =>
    have hrv : r = ck := by have := H.out; unfold startC at this; rw [HCK.out, if_pos hc0] at this; exact (congrArg Prod.fst this).symm
    subst hrv
    have hcb := bne_of hc0
    have HC0 := Lib.hid hc0
    clear hc0
    go_wp2_with fail
    have HFF := (((HO2.out.set 0 (.slice none 0 0) (by simp)).set 1 (.slice none 0 0) (by simp)).set 2 (.int .i64 0) (by simp))
    have z0 := HFF.at 0 _ rfl
    have z1 := HFF.at 1 _ rfl
    have z2 := HFF.at 2 _ rfl
    refine bodyPost_ret (v := .tuple #[.agg #[.slice none 0 0, .slice none 0 0, .int .i64 0], .int .i64 r]) (by simp [results, Tryz.results11, go_sem, z0, z1, z2]) rfl ?_
    exact ⟨(((HB2.out.setCell (p := ⟨w.heap.size + 1 + 1, 0, none⟩) (by simp only; omega) _).setCell (p := ⟨w.heap.size + 1 + 1, 1, none⟩) (by simp only; omega) _).setCell (p := ⟨w.heap.size + 1 + 1, 2, none⟩) (by simp only; omega) _), .inl ⟨HC0.out, rfl⟩⟩
  subst hc0
  obtain ⟨_, _, hvc, hhc, hst, _⟩ := checkP_zero HCK.out
  have hsp : startP vs ⟨S, P, R⟩ = (r, vals) := by have := H.out; unfold startC at this; rw [HCK.out, if_neg (by simp)] at this; exact this
  have HSP := Lib.hid hsp
  rw [HHL.out] at hst
  have HST := Lib.hid hst
  have HVC := Lib.hid hvc
  have HHC := Lib.hid hhc
  have HKD := Lib.hid (varsC_init hvc)
  clear hvc hhc hst hsp o0 o1 o2 of0 of1 of2 hol
  have n0 := HC2.out.at 0 _ rfl; have i0 := HI2.out.at 0 _ rfl; have n1 := HC2.out.at 1 _ rfl; have i1 := HI2.out.at 1 _ rfl; have n2 := HC2.out.at 2 _ rfl; have i2 := HI2.out.at 2 _ rfl
  go_wp2_with fail
  go_at_call 23
  refine (rstart_b vs S P R Av lv cv As ls cs Ap lp cp Ar lr cr _ HV2.out HZS2.out HZP2.out HZR2.out hlv HKD.out r vals HSP).mono ?_
  rintro e w3 ⟨hor, hb⟩
  have HBB := Lib.hid hb
  have HLT2 : Hid (w.heap.size + 1 + 1 < w2.heap.size) := Lib.hid HO2.out.lt
  clear n0 n1 n2 i0 i1 i2
  have HB3 := Lib.hid (HB2.out.trans (hb.mono HB2.out.size))
  have HC3 := Lib.hid (HC2.out.next hb)
  have HO3 := Lib.hid (HO2.out.next hb)
  have HV3 := Lib.hid (HV2.out.below hb)
  have HHS3 := Lib.hid (HHS2.out.below hb)
  have HK3 := Lib.hid (HK2.out.below hb)
  clear hb HB2 HC2 HO2 HV2 HHS2 HK2
  have o0 := HO3.out.at 0 _ rfl; have of0 := HO3.out.free 0; have o1 := HO3.out.at 1 _ rfl; have of1 := HO3.out.free 1; have o2 := HO3.out.at 2 _ rfl; have of2 := HO3.out.free 2; have hol := HO3.out.lt
  rcases hor with ⟨hr, rfl⟩ | ⟨rfl, Ax, cx, rfl, hzx⟩
  · have hbn := bne_of hr
    have HR := Lib.hid hr
    clear hr
    go_wp2_with fail
    have HFF := (((HO3.out.set 0 (.slice none 0 0) (by simp)).set 1 (.slice none 0 0) (by simp)).set 2 (.int .i64 0) (by simp))
    have z0 := HFF.at 0 _ rfl
    have z1 := HFF.at 1 _ rfl
    have z2 := HFF.at 2 _ rfl
    refine bodyPost_ret (v := .tuple #[.agg #[.slice none 0 0, .slice none 0 0, .int .i64 0], .int .i64 r]) (by simp [results, Tryz.results11, go_sem, z0, z1, z2]) rfl ?_
    exact ⟨(((HB3.out.setCell (p := ⟨w.heap.size + 1 + 1, 0, none⟩) (by simp only; omega) _).setCell (p := ⟨w.heap.size + 1 + 1, 1, none⟩) (by simp only; omega) _).setCell (p := ⟨w.heap.size + 1 + 1, 2, none⟩) (by simp only; omega) _), .inl ⟨HR.out, rfl⟩⟩
  have HVK := Lib.hid (startP_ok HVC.out HSP.out)
  have hvl : vals.length = lv := by rw [HVK.out.1, HV3.out.len]
  rw [hvl] at hzx
  rw [hvl]
  have HZX := Lib.hid hzx
  have HFE : Hid (runL vs (hatV vals hs) ks ⟨vals, [], 0⟩ = s) := HE
  have HOC := Lib.hid (outL_check HCK.out)
  clear hzx hvl o0 o1 o2 of0 of1 of2 hol
  go_upto_region 7 with fail
  have KP : Hid (∀ W, Below w3.heap.size w3 W → (W.cell? ⟨w.heap.size, 0, none⟩ = some (.slice Av lv cv) ∧ W.cell? ⟨w.heap.size, 1, none⟩ = some (.slice Ag lg cg) ∧ W.cell? ⟨w.heap.size, 2, none⟩ = some (.slice Ay ly cy))) := fun W h => ⟨(HC3.out.next h).at 0 _ rfl, (HC3.out.next h).at 1 _ rfl, (HC3.out.next h).at 2 _ rfl⟩
  have HOX : Hid (∀ W, Below w3.heap.size w3 W → Cs W (w.heap.size + 1 + 1) [.slice none 0 0, .slice none 0 0, .int .i64 0]) := fun W h => HO3.out.next h
  go_region_held3 (fun W => W.cell? ⟨w.heap.size, 0, none⟩ = some (.slice Av lv cv) ∧ W.cell? ⟨w.heap.size, 1, none⟩ = some (.slice Ag lg cg) ∧ W.cell? ⟨w.heap.size, 2, none⟩ = some (.slice Ay ly cy)) (first | with_reducible exact KP9.out | with_reducible exact KP.out _ HD2.out | with_reducible exact KP.out _ HD1.out | exact KP.out _ (Below.refl _ _).drew) (first
    | (go_at_call 24; refine (rrun_any vs (varsC_B HVC.out) Av lv cv Ag lg cg Ay ly cy A5 lg c5 (hatV vals hs) w5 (HV3.out.below HD1.out) HZ5.out hlv (by rw [hatV, List.length_map, HHL.out]) (Sp.cntL ks) (fun b => w.heap.size ≤ b ∧ b ≠ w.heap.size + 1 + 1) ks ly Ay cy w5 ⟨vals, [], 0⟩ Ax cx none 0 0 s true HL.out (Nat.le_refl _) (HK3.out.below HD1.out) (Below.refl _ _) ((HZX.out.to (Keeps.below HD1.out)).to (Keeps.mono fun b _ hb => by have := HLT2.out; omega)) ⟨Zs.nil _, fun h => absurd h (by simp)⟩ HST.out ⟨HVK.out, Nat.le_refl _⟩ (by have := HOC.out; omega) HFE).mono ?_; rintro e w6 ⟨A8, c8, A9, c9, rfl, k8, k9, hb6⟩; have HD2 := Lib.hid (HD1.out.trans (hb6.mono HD1.out.size)); have HK8 : Hid (ZsN (fun b => w.heap.size ≤ b ∧ b ≠ w.heap.size + 1 + 1) w6 A8 lv c8 s.v) := Lib.hid (k8.to (Keeps.mono fun b _ hb => by have h1 := HLT2.out; have h2 := HD1.out.size; have h3 := HBB.out.size; omega)); have HK9 : Hid (ZsN (fun b => w.heap.size ≤ b ∧ b ≠ w.heap.size + 1 + 1) w6 A9 s.o.length c9 s.o) := Lib.hid (k9.to (Keeps.mono fun b _ hb => by have h1 := HLT2.out; have h2 := HD1.out.size; have h3 := HBB.out.size; omega)); clear k8 k9 hb6; have hox := HOX.out _ HD2.out; have o0 := hox.at 0 _ rfl; have o1 := hox.at 1 _ rfl; have o2 := hox.at 2 _ rfl; have of0 := hox.free 0; have of1 := hox.free 1; have of2 := hox.free 2; have hol := hox.lt; have HF9 := Lib.hid (HC3.out.next HD2.out); have KP9 : Hid ((((w6.setCell ⟨w.heap.size + 1 + 1, 0, none⟩ (.slice A8 lv c8)).setCell ⟨w.heap.size + 1 + 1, 1, none⟩ (.slice A9 s.o.length c9)).setCell ⟨w.heap.size + 1 + 1, 2, none⟩ (.int .i64 s.t)).cell? ⟨w.heap.size, 0, none⟩ = some (.slice Av lv cv) ∧ (((w6.setCell ⟨w.heap.size + 1 + 1, 0, none⟩ (.slice A8 lv c8)).setCell ⟨w.heap.size + 1 + 1, 1, none⟩ (.slice A9 s.o.length c9)).setCell ⟨w.heap.size + 1 + 1, 2, none⟩ (.int .i64 s.t)).cell? ⟨w.heap.size, 1, none⟩ = some (.slice Ag lg cg) ∧ (((w6.setCell ⟨w.heap.size + 1 + 1, 0, none⟩ (.slice A8 lv c8)).setCell ⟨w.heap.size + 1 + 1, 1, none⟩ (.slice A9 s.o.length c9)).setCell ⟨w.heap.size + 1 + 1, 2, none⟩ (.int .i64 s.t)).cell? ⟨w.heap.size, 2, none⟩ = some (.slice Ay ly cy)) := ⟨(((HF9.out.other (p := ⟨w.heap.size + 1 + 1, 0, none⟩) (by simp only; omega) _).other (p := ⟨w.heap.size + 1 + 1, 1, none⟩) (by simp only; omega) _).other (p := ⟨w.heap.size + 1 + 1, 2, none⟩) (by simp only; omega) _).at 0 _ rfl, (((HF9.out.other (p := ⟨w.heap.size + 1 + 1, 0, none⟩) (by simp only; omega) _).other (p := ⟨w.heap.size + 1 + 1, 1, none⟩) (by simp only; omega) _).other (p := ⟨w.heap.size + 1 + 1, 2, none⟩) (by simp only; omega) _).at 1 _ rfl, (((HF9.out.other (p := ⟨w.heap.size + 1 + 1, 0, none⟩) (by simp only; omega) _).other (p := ⟨w.heap.size + 1 + 1, 1, none⟩) (by simp only; omega) _).other (p := ⟨w.heap.size + 1 + 1, 2, none⟩) (by simp only; omega) _).at 2 _ rfl⟩; clear HF9)
    | (go_at_call 25; refine (rhatch_b vs (varsC_B HVC.out) hs vals HVK.out Av lv cv Ag lg cg Ay ly cy Ax lv cx _ (HHS3.out.below (Below.refl _ _).drew) (HZX.out.1.below (Below.refl _ _).drew) hlg (fun i x hx => ⟨(hatsC_zero HHC.out hx).1, (hatsC_zero HHC.out hx).2, hatsC_low HHC.out hx⟩)).mono ?_; rintro e w5 ⟨A5, c5, rfl, hz5, hb5⟩; have HD1 := Lib.hid ((Below.refl w3.heap.size w3).drew.trans (hb5.mono (Nat.le_refl _))); have HZ5 := Lib.hid hz5; clear hz5 hb5))
  have HBz := Lib.hid (HB3.out.trans (HD2.out.mono HB3.out.size))
  have HOz := Lib.hid (HOX.out _ HD2.out)
  have HWS : Hid (w.heap.size + 1 + 1 < w3.heap.size) := Lib.hid HO3.out.lt
  clear KP KP9 HOX HD1 HD2 HZ5 o0 o1 o2 of0 of1 of2 hol hox
  have o0 := HOz.out.at 0 _ rfl; have of0 := HOz.out.free 0; have o1 := HOz.out.at 1 _ rfl; have of1 := HOz.out.free 1; have o2 := HOz.out.at 2 _ rfl; have of2 := HOz.out.free 2; have hol := HOz.out.lt
  go_wp2_with fail
  have HFF := (((HOz.out.set 0 (.slice A8 lv c8) (by simp)).set 1 (.slice A9 s.o.length c9) (by simp)).set 2 (.int .i64 s.t) (by simp))
  have z0 := HFF.at 0 _ rfl
  have z1 := HFF.at 1 _ rfl
  have z2 := HFF.at 2 _ rfl
  refine bodyPost_ret (v := .tuple #[.agg #[.slice A8 lv c8, .slice A9 s.o.length c9, .int .i64 s.t], .int .i64 0]) (by simp [results, Tryz.results11, go_sem, z0, z1, z2]) rfl ?_
  exact ⟨(((HBz.out.setCell (p := ⟨w.heap.size + 1 + 1, 0, none⟩) (by simp only; omega) _).setCell (p := ⟨w.heap.size + 1 + 1, 1, none⟩) (by simp only; omega) _).setCell (p := ⟨w.heap.size + 1 + 1, 2, none⟩) (by simp only; omega) _), .inr ⟨rfl, A8, c8, A9, c9, rfl, (HK8.out.to (keeps_3 (fun b hb => fun e => hb.2 e.symm) (fun b hb => hb.1) _ _ _)), (HK9.out.to (keeps_3 (fun b hb => fun e => hb.2 e.symm) (fun b hb => hb.1) _ _ _))⟩⟩

end Go.Proofs.YtjpjmoejdkmglaaGreat
