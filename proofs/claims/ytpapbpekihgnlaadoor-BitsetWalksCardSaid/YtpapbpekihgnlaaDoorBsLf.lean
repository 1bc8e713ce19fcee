/-
  The walk over BitsetWalks.
-/
import Derived.Test.YtpapbpekihgnlaaDoorBsZd
namespace Go.Proofs.YtpapbpekihgnlaaDoor
open Go.RowKit

set_option maxRecDepth 100000 in
set_option maxHeartbeats 4000000 in
theorem walks_b (n0 : Int) (A0 : Option Addr) (l0 c0 : Nat) (ws0 : List Nat) (w : World) (hT : Tabs w) (hw0 : Wd w A0 l0 c0 ws0) :
    Calls Tryd.prog 9 #[.agg #[.int .i64 n0, .slice A0 l0 c0]] w fun e w' => e = .returned (.bool true) ∧ Below w.heap.size w w' := by
  have hlm0 : l0 ≤ 9223372036854775807 := by have h1 := hw0.cap; have h2 := hw0.big; unfold maxLen at h2; omega
  have HW0 := Lib.hid hw0
  have HT := Lib.hid hT
  have HX := Lib.hid (boxS_below w n0 A0 l0 c0)
  have HCS0 := Lib.hid (boxS_cs w n0 A0 l0 c0)
  clear hT hw0
  go_enter Tryd.func9, Tryd.ntmps9
  go_wp2_with fail
  go_at_call 12
  refine (known_b _ (HT.out.below HX.out)).mono ?_
  rintro e v0 ⟨rfl, hb⟩
  have HB := Lib.hid (HX.out.trans (hb.mono HX.out.size))
  have HS : Hid (Sets v0 [⟨w.heap.size, n0, A0, l0, c0, ws0⟩]) := ⟨⟨HCS0.out.next hb, HW0.out.below HB.out⟩, trivial⟩
  clear hb HX HCS0
  have q0a := HS.out.hd.c0
  have q0b := HS.out.hd.c1
  by_cases h640 : 64 < l0
  · have hd0 : decide ((64 : Int) < (l0 : Int)) = true := decide_eq_true (by omega)
    have he0 : (64 : Int) < (l0 : Int) := by omega
    go_wp2_with fail
    go_ret
    exact ⟨rfl, HB.out⟩
  have hd0 : decide ((64 : Int) < (l0 : Int)) = false := decide_eq_false (by omega)
  have he0 : ¬ ((64 : Int) < (l0 : Int)) := by omega
  obtain ⟨t0, ht0⟩ : ∃ v, Bs.vld n0 ws0 = v := ⟨_, rfl⟩
  have HV0 := Lib.hid ht0
  clear ht0
  go_wp2_with fail
  go_at_call 19
  refine (rvalid_b n0 A0 l0 c0 ws0 t0 HV0 _ HS.out.hd.wd).mono ?_
  rintro e x0 ⟨rfl, hb⟩
  have HSn := Lib.hid (HS.out.next hb)
  have HBn := Lib.hid (HB.out.trans (hb.mono HB.out.size))
  clear hb HS HB
  clear q0a q0b
  rename Hid (Sets _ _) => HS
  rename Hid (Below w.heap.size w _) => HB
  have q0a := HS.out.hd.c0
  have q0b := HS.out.hd.c1
  cases t0
  case false =>
    go_wp2_with fail
    go_ret
    exact ⟨rfl, HB.out⟩
  obtain ⟨m, rfl⟩ : ∃ m : Nat, n0 = m := ⟨n0.toNat, by have := (Bs.vld_iff.1 HV0.out).1; omega⟩
  have hm : m ≤ 4096 := Bs.vld_le HV0.out
  obtain ⟨L, hL⟩ : ∃ L, (m + 63) / 64 = L := ⟨_, rfl⟩
  have HL := Lib.hid hL
  clear hL
  have HI0 := Lib.hid (Is.of HV0.out HW0.out.fits)
  obtain ⟨r, hr⟩ : ∃ r, membR m ws0 = r := ⟨_, rfl⟩
  have hr6 : r.length ≤ 4096 := by rw [← hr]; exact membR_len _ _
  obtain ⟨lr, hlr⟩ : ∃ k, r.length = k := ⟨_, rfl⟩
  have hcn : (membR m ws0).length = lr := by rw [hr, hlr]
  have hof := memb_of HV0.out HW0.out.fits
  have heq : eqR m ws0 m ws0 = true := by rw [eqR_self]; exact HV0.out
  have hfst : nextR m ws0 (-1) = atR r 0 := by rw [← hr]; exact next_first _ _
  have hnxt : ∀ k, k < lr → nextR m ws0 ((r.getD k 0 : Nat) : Int) = atR r (k + 1) := fun k hk => by rw [← hr]; exact next_next _ _ k (by rw [hcn]; exact hk)
  have hhas : ∀ k, k < lr → hasR m ws0 ((r.getD k 0 : Nat) : Int) = true := fun k hk => by rw [← hr]; exact memb_has HV0.out k (by rw [hcn]; exact hk)
  rw [hr] at hof
  rw [hlr] at hr6
  have HR := Lib.hid hr
  have HLR := Lib.hid hlr
  have HCN := Lib.hid hcn
  have HOF := Lib.hid hof
  have HEQ := Lib.hid heq
  have HFST := Lib.hid hfst
  have HNXT := Lib.hid hnxt
  have HHAS := Lib.hid hhas
  have HL0 := Lib.hid HW0.out.len
  clear hr hlr hcn hof heq hfst hnxt hhas
  go_wp2_with fail
  go_at_call 39
  refine (members_b (m : Int) A0 l0 c0 ws0 r HR _ (HT.out.below HB.out).1 HS.out.hd.wd).mono ?_
  rintro e v1 ⟨⟨B1, k1, rfl, hO⟩, hb⟩
  simp only [HLR.out] at hO ⊢
  have hz := (own_zs (by rw [HLR.out]; exact hO)).2
  have HZ := Lib.hid hz
  have HSn := Lib.hid (HS.out.next hb)
  have HBn := Lib.hid (HB.out.trans (hb.mono HB.out.size))
  clear hO hb hz HS HB
  rename Hid (Sets _ _) => HS
  rename Hid (Below w.heap.size w _) => HB
  clear q0a q0b
  have q0a := HS.out.hd.c0
  have q0b := HS.out.hd.c1
  go_wp2_with fail
  go_at_call 15
  refine (of_b m B1 lr k1 (ints r) (by omega) ((m : Int), ws0, 0) HOF _ HZ.out).mono ?_
  rintro e v2 ⟨⟨B2, k2, rfl, hO⟩, hb⟩
  simp only [HL0.out] at hO ⊢
  have HZn := Lib.hid ((HZ.out.below hb).below ((Below.refl _ _).alloc (Nat.le_refl _) (.cells #[.int .i64 (m : Int), .slice B2 l0 k2] 24)))
  obtain ⟨hs, hbb⟩ := HS.out.push HB.out (n := (m : Int)) hO hb
  have HSn := Lib.hid hs
  have HBn := Lib.hid hbb
  clear hO hb hs hbb HS HB HZ q0a q0b
  go_upto_region 7 with fail
  obtain ⟨w2, hw⟩ : ∃ w2, v2.alloc (.cells #[.int .i64 (m : Int), .slice B2 l0 k2] 24) = w2 := ⟨_, rfl⟩
  obtain ⟨b2, hb⟩ : ∃ b, v2.heap.size = b := ⟨_, rfl⟩
  rw [hw, hb] at HSn
  rw [hw] at HBn HZn
  rw [hw, hb]
  clear hw hb
  rename Hid (Sets _ _) => HS
  rename Hid (Below w.heap.size w _) => HB
  rename Hid (Zs _ _ _ _ _) => HZ
  have q0a := HS.out.hd.c0
  have q0b := HS.out.hd.c1
  have q1a := HS.out.tl.hd.c0
  have q1b := HS.out.tl.hd.c1
  go_wp2_with fail
  go_at_call 26
  refine (equal_b (m : Int) B2 l0 k2 ws0 (m : Int) A0 l0 c0 ws0 true HEQ _ HS.out.hd.wd HS.out.tl.hd.wd).mono ?_
  rintro e y1 ⟨rfl, hb⟩
  have HSn := Lib.hid (HS.out.next hb)
  have HBn := Lib.hid (HB.out.trans (hb.mono HB.out.size))
  have HZn := Lib.hid (HZ.out.below hb)
  clear hb HS HB HZ
  rename Hid (Sets _ _) => HS
  rename Hid (Below w.heap.size w _) => HB
  rename Hid (Zs _ _ _ _ _) => HZ
  clear q0a q0b q1a q1b
  have q0a := HS.out.hd.c0
  have q0b := HS.out.hd.c1
  have q1a := HS.out.tl.hd.c0
  have q1b := HS.out.tl.hd.c1
  go_wp2_with fail
  go_at_call 37
  refine (count_b (m : Int) A0 l0 c0 ws0 lr HCN _ HS.out.tl.hd.wd).mono ?_
  rintro e y2 ⟨rfl, hb⟩
  have HSn := Lib.hid (HS.out.next hb)
  have HBn := Lib.hid (HB.out.trans (hb.mono HB.out.size))
  have HZn := Lib.hid (HZ.out.below hb)
  clear hb HS HB HZ
  rename Hid (Sets _ _) => HS
  rename Hid (Below w.heap.size w _) => HB
  rename Hid (Zs _ _ _ _ _) => HZ
  clear q0a q0b q1a q1b
  have q0a := HS.out.hd.c0
  have q0b := HS.out.hd.c1
  have q1a := HS.out.tl.hd.c0
  have q1b := HS.out.tl.hd.c1
  go_wp2_with fail
  go_at_call 40
  refine (least_b (m : Int) A0 l0 c0 ws0 (atR r 0) HFST _ HS.out.tl.hd.wd).mono ?_
  rintro e y3 ⟨rfl, hb⟩
  have HSn := Lib.hid (HS.out.next hb)
  have HBn := Lib.hid (HB.out.trans (hb.mono HB.out.size))
  have HZn := Lib.hid (HZ.out.below hb)
  clear hb HS HB HZ
  rename Hid (Sets _ _) => HS
  rename Hid (Below w.heap.size w _) => HB
  rename Hid (Zs _ _ _ _ _) => HZ
  clear q0a q0b q1a q1b
  have HS' : Hid (SB y3 ⟨w.heap.size, (m : Int), A0, l0, c0, ws0⟩) := HS.out.tl.hd
  obtain ⟨p0, hp0⟩ : ∃ p, atR r 0 = p := ⟨_, rfl⟩
  have HP0 := Lib.hid hp0
  rw [hp0]
  clear HS hp0
  go_wp2_with fail
  go_loopw [6, 48] (fun u v wr => ∃ (k : Nat) (p : Int), k ≤ lr ∧ v = .int .i64 k ∧ u = .int .i64 p ∧ Hid (atR r k = p) ∧ Hid (SB wr ⟨w.heap.size, (m : Int), A0, l0, c0, ws0⟩) ∧ Hid (Zs wr B1 lr k1 (ints r)) ∧ Hid (Below w.heap.size w wr)) (fun _ v _ => lr - (intOf v).toNat)
  case atStart => exact ⟨0, p0, by omega, rfl, rfl, HP0, HS', HZ, HB⟩
  case round =>
    clear HS' HZ HB HP0
    obtain ⟨k, p, hk, rfl, rfl, HP, HS, HZ, HB⟩ := hrel
    have q0a := HS.out.c0
    have q0b := HS.out.c1
    by_cases hlt : k < lr
    · obtain ⟨g, f, hA, hg, hc⟩ := HZ.out.mem (by omega)
      subst hA
      have hcell := hc k hlt
      have hgi : (ints r).getD k 0 = ((r.getD k 0 : Nat) : Int) := by
        simp only [ints, List.getD_eq_getElem?_getD, List.getElem?_map]
        rw [List.getElem?_eq_getElem (by rw [HLR.out]; exact hlt)]
        rfl
      rw [hgi] at hcell
      have hp : p = ((r.getD k 0 : Nat) : Int) := by rw [← HP.out]; unfold atR; rw [if_pos (by rw [HLR.out]; exact hlt)]
      have hh := HHAS.out k hlt
      have hn := HNXT.out k hlt
      obtain ⟨x, hx⟩ : ∃ x, r.getD k 0 = x := ⟨_, rfl⟩
      rw [hx] at hcell hp hh hn
      subst hp
      have HH := Lib.hid hh
      have HN := Lib.hid hn
      have hlt' : (k : Int) < (lr : Int) := by omega
      have hself : ((x : Int) != (x : Int)) = false := by simp
      clear hc hgi hx hh hn HP
      go_wp2_with fail
      go_at_call 24
      refine (has_b (m : Int) A0 l0 c0 ws0 (x : Int) true HH _ HS.out.wd).mono ?_
      rintro e u1 ⟨rfl, hb⟩
      have HS1 := Lib.hid (HS.out.next hb)
      have HZ1 := Lib.hid (HZ.out.below hb)
      have HB1 := Lib.hid (HB.out.trans (hb.mono HB.out.size))
      clear hb HS HZ HB q0a q0b hcell
      have q0a := HS1.out.c0
      have q0b := HS1.out.c1
      go_wp2_with fail
      go_at_call 42
      refine (next_b (m : Int) A0 l0 c0 ws0 (x : Int) (atR r (k + 1)) HN _ HS1.out.wd).mono ?_
      rintro e u2 ⟨rfl, hb⟩
      have HS2 := Lib.hid (HS1.out.next hb)
      have HZ2 := Lib.hid (HZ1.out.below hb)
      have HB2 := Lib.hid (HB1.out.trans (hb.mono HB1.out.size))
      clear hb HS1 HZ1 HB1 q0a q0b
      obtain ⟨p, hp⟩ : ∃ p, atR r (k + 1) = p := ⟨_, rfl⟩
      have HP := Lib.hid hp
      rw [hp]
      clear hp
      go_wp2_with fail
      go_roundw
      case rel => exact ⟨k + 1, p, by omega, by go_num, rfl, HP, HS2, HZ2, HB2⟩
      case measure => simp [intOf]; omega
    · have hp : p = -1 := by rw [← HP.out]; unfold atR; rw [if_neg (by rw [HLR.out]; exact hlt)]
      subst hp
      go_wp2_with fail
      go_ret
      exact ⟨rfl, HB.out⟩
end Go.Proofs.YtpapbpekihgnlaaDoor
