/-
  The walk over start.
  The walk over Run.
-/
import Derived.Test.YtjpjmoejdkmglaaGreatJG
import Derived.Test.YtjpjmoejdkmglaaGreatFlMd
import Derived.Deep.CutRange
namespace Go.Proofs.YtjpjmoejdkmglaaGreat
open Go.RowKit

/-- The inputs that are left, in their block. -/
def Left (w W : World) (pl : Nat) (L : Lf) : Prop :=
  ∃ (A1 : Option Addr) (l1 c1 : Nat) (A2 : Option Addr) (l2 c2 : Nat) (A3 : Option Addr) (l3 c3 : Nat), Cs W pl [.slice none 0 0, .slice A1 l1 c1, .slice A2 l2 c2, .slice A3 l3 c3] ∧ Zs w A1 l1 c1 L.s ∧ Zs w A2 l2 c2 L.p ∧ Zs w A3 l3 c3 L.r
theorem Left.map {w W W' : World} {pl : Nat} {L : Lf} (h : Left w W pl L) (f : ∀ vs, Cs W pl vs → Cs W' pl vs) : Left w W' pl L := by
  obtain ⟨A1, l1, c1, A2, l2, c2, A3, l3, c3, h1, h2, h3, h4⟩ := h
  exact ⟨A1, l1, c1, A2, l2, c2, A3, l3, c3, f _ h1, h2, h3, h4⟩
theorem Zs.tail {w : World} {g f l c : Nat} {n : Int} {rest : List Int} (h : Zs w (some ⟨g, f, none⟩) (l + 1) (c + 1) (n :: rest)) : Zs w (some ⟨g, f + 1, none⟩) l c rest := by
  refine ⟨by have := h.len; simpa using this, by have := h.cap; omega, by have := h.big; omega, fun hl => ?_⟩
  obtain ⟨g', f', hA, hg, hc⟩ := h.mem (by omega)
  injection hA with hA; injection hA with e1 e2
  subst e1 e2
  refine ⟨g, f + 1, rfl, hg, fun j hj => ?_⟩
  have := hc (j + 1) (by omega)
  rw [show f + 1 + j = f + (j + 1) by omega]
  simpa using this
theorem Zs.tail0 {w : World} {g f : Nat} {n : Int} {rest : List Int} (h : Zs w (some ⟨g, f, none⟩) 1 1 (n :: rest)) : Zs w (some ⟨g, f, none⟩) 0 0 rest :=
  ⟨by have := h.len; simpa using this, Nat.le_refl _, Nat.zero_le _, fun h => absurd h (by omega)⟩
/-- The code and the values of a start of a program. -/
def startC (vs : List Vr) (hs : List Ht) (ks : List Sp) (L : Lf) : Int × List Int := if checkP vs hs ks ≠ 0 then (checkP vs hs ks, []) else startP vs L
/-- What start hands back. -/
def Began (w : World) (Av : Option Addr) (lv cv : Nat) (Ag : Option Addr) (lg cg : Nat) (Ay : Option Addr) (ly cy : Nat) (hs : List Ht) (r : Int) (vals : List Int) (e : Ending) (w' : World) : Prop :=
  Below w.heap.size w w' ∧ ((r ≠ 0 ∧ e = .returned (.tuple #[.pointer none, .int .i64 r])) ∨
    (r = 0 ∧ ∃ (p : Nat) (Ax : Option Addr) (cx : Nat) (Ah : Option Addr) (ch : Nat), e = .returned (.tuple #[.pointer (some ⟨p, 0, none⟩), .int .i64 0]) ∧ Mk 3 w.heap.size p (.slice Av lv cv) (.slice Ag lg cg) (.slice Ay ly cy) (.slice Ax lv cx) (.slice Ah lg ch) (hatV vals hs) w' (.slice none 0 0) ⟨vals, [], 0⟩))
theorem hatsC_zero {vs : List Vr} {hs : List Ht} (h : hatsC vs hs = 0) {i : Nat} {x : Ht} (hi : hs[i]? = some x) : formedB vs true x.t = true ∧ (rangedP vs x.t).isSome = true := by
  unfold hatsC at h
  have := fstC_all _ _ h i (List.getElem?_eq_some_iff.1 hi).1
  unfold hatAt at this
  rw [hi] at this
  simp only [Option.map_some, Option.getD_some] at this
  unfold hatC at this
  split at this; · cases this
  split at this; · cases this
  split at this; · cases this
  unfold termC at this
  by_cases f1 : formedB vs true x.t = false
  · rw [if_pos f1] at this; exact absurd this (by decide)
  rw [if_neg f1] at this
  by_cases f2 : (rangedP vs x.t).isSome = false
  · rw [if_pos f2] at this; exact absurd this (by decide)
  exact ⟨by simpa using f1, by cases hx : (rangedP vs x.t).isSome with | true => rfl | false => exact absurd hx f2⟩
theorem hatV_take {hs : List Ht} {i : Nat} {x : Ht} (vals : List Int) (hi : hs[i]? = some x) : hatV vals (hs.take (i + 1)) = hatV vals (hs.take i) ++ [clampP (valueP vals x.t) x.low x.high] := by
  obtain ⟨hl, rfl⟩ := List.getElem?_eq_some_iff.1 hi
  rw [hatV, take_one hs i hl, List.map_append]; rfl
/-- What a pass hands on: the value of the next variable, what is left, whether one lay outside. -/
structure Step1 (w wr : World) (pl pf p : Nat) (FC : List Value) (L : Lf) : Prop where
  lf : Left w wr pl L
  fb : Cs wr pf FC
  low : Below w.heap.size w wr

set_option maxRecDepth 100000 in
set_option maxHeartbeats 16000000 in
theorem start_b (vs : List Vr) (hs : List Ht) (ks : List Sp) (Av : Option Addr) (lv cv : Nat) (Ag : Option Addr) (lg cg : Nat) (Ay : Option Addr) (ly cy : Nat) (S P R : List Int) (As : Option Addr) (ls cs : Nat) (Ap : Option Addr) (lp cp : Nat) (Ar : Option Addr) (lr cr : Nat) (w : World) (hv : VOk w Av lv cv vs) (hh : HOk w Ag lg cg hs) (hl : ks.length = ly) (hk : SOk w Ay cy ks) (hlv : lv ≤ 1000) (hbd : hcnt hs + Sp.cntL ks ≤ 90000)
    (hzs : Zs w As ls cs S) (hzp : Zs w Ap lp cp P) (hzr : Zs w Ar lr cr R) (r : Int) (vals : List Int) (H : Hid (startC vs hs ks ⟨S, P, R⟩ = (r, vals))) :
    Calls Tryz.prog 20 #[.agg #[.slice Av lv cv, .slice Ag lg cg, .slice Ay ly cy], .agg #[.slice As ls cs, .slice Ap lp cp, .slice Ar lr cr]] w (Began w Av lv cv Ag lg cg Ay ly cy hs r vals) := by
  have HV := Lib.hid hv
  have HHS := Lib.hid hh
  have HK := Lib.hid hk
  have HL := Lib.hid hl
  have HVL := Lib.hid hv.len
  have HHL := Lib.hid hh.len
  have HBD := Lib.hid hbd
  have HZS := Lib.hid hzs
  have HZP := Lib.hid hzp
  have HZR := Lib.hid hzr
  have hlg' : lg ≤ 9223372036854775807 := by have h1 := hh.cap; have h2 := hh.big; unfold maxLen at h2; omega
  have hb1 := (Below.refl w.heap.size w).alloc (Nat.le_refl _) (.cells #[.slice Av lv cv, .slice Ag lg cg, .slice Ay ly cy] 26)
  have HB := Lib.hid (hb1.alloc hb1.size (.cells #[.slice As ls cs, .slice Ap lp cp, .slice Ar lr cr] 29))
  have HC := Lib.hid ((Cs.new w #[.slice Av lv cv, .slice Ag lg cg, .slice Ay ly cy] 26).alloc (.cells #[.slice As ls cs, .slice Ap lp cp, .slice Ar lr cr] 29))
  have HI := Lib.hid (Cs.new1 w (.cells #[.slice Av lv cv, .slice Ag lg cg, .slice Ay ly cy] 26) #[.slice As ls cs, .slice Ap lp cp, .slice Ar lr cr] 29)
  obtain ⟨r1, hr1⟩ : ∃ z, checkP vs hs ks = z := ⟨_, rfl⟩
  have HR1 := Lib.hid hr1
  have hsum : (if r1 ≠ 0 then (r1, []) else startP vs ⟨S, P, R⟩) = (r, vals) := by rw [← H.out, startC, hr1]
  have HSUM := Lib.hid hsum
  clear hv hh hk hl hbd hzs hzp hzr hb1 hr1 hsum H
  go_enter Tryz.func20, Tryz.ntmps20
  go_upto_region 1 with fail
  obtain ⟨w1, hw1⟩ : ∃ w1, (w.alloc (.cells #[.slice Av lv cv, .slice Ag lg cg, .slice Ay ly cy] 26)).alloc (.cells #[.slice As ls cs, .slice Ap lp cp, .slice Ar lr cr] 29) = w1 := ⟨_, rfl⟩
  rw [hw1] at HB HC HI
  rw [hw1]
  clear hw1
  have n0 := HC.out.at 0 _ rfl
  have n1 := HC.out.at 1 _ rfl
  have n2 := HC.out.at 2 _ rfl
  go_wp2_with fail
  go_at_call 15
  refine (check_b vs hs ks Av lv cv Ag lg cg Ay ly cy _ (HV.out.below HB.out) (HHS.out.below HB.out) HL.out (HK.out.below HB.out) hlv HBD.out r1 HR1).mono ?_
  rintro e w2 ⟨rfl, hb⟩
  have HB2 := Lib.hid (HB.out.trans (hb.mono HB.out.size))
  have HC2 := Lib.hid (HC.out.next hb)
  have HI2 := Lib.hid (HI.out.next hb)
  clear hb HB HC HI n0 n1 n2
  by_cases hz1 : r1 = 0
  case neg =>
    have hbn := bne_of hz1
    have hr : r = r1 := by have := HSUM.out; rw [if_pos hz1] at this; injection this with h1 h2; exact h1.symm
    subst hr
    have HZ1 := Lib.hid hz1
    clear HSUM hz1
    go_wp2_with fail
    go_ret2
    exact ⟨HB2.out, .inl ⟨HZ1.out, rfl⟩⟩
  subst hz1
  have HSP : Hid (startP vs ⟨S, P, R⟩ = (r, vals)) := by show _ = _; have := HSUM.out; rwa [if_neg (by simp)] at this
  clear HSUM
  have hck := HR1.out
  have hlt64 : lv ≤ 64 ∧ lg ≤ 8 := by
    unfold checkP at hck
    by_cases e : 64 < vs.length ∨ 8 < hs.length ∨ overP (hM hs (mS ks 1 (0, false))) = true
    · rw [if_pos e] at hck; cases hck
    · have h1 := HVL.out; have h2 := HHL.out; constructor <;> (apply Nat.le_of_not_lt; intro h; apply e; omega)
  have hvc : varsC vs = 0 ∧ hatsC vs hs = 0 := by
    unfold checkP at hck
    split at hck; · cases hck
    split at hck
    · rename_i _ h; exact absurd hck h
    split at hck
    · rename_i _ _ h; exact absurd hck h
    rename_i _ h1 h2
    exact ⟨by simpa using h1, by simpa using h2⟩
  have HVC := Lib.hid hvc
  have HLT := Lib.hid hlt64
  obtain ⟨hlv64, hlg8⟩ := hlt64
  clear hck hvc
  have n0 := HC2.out.at 0 _ rfl
  have n1 := HC2.out.at 1 _ rfl
  have n2 := HC2.out.at 2 _ rfl
  have i0 := HI2.out.at 0 _ rfl
  have i1 := HI2.out.at 1 _ rfl
  have i2 := HI2.out.at 2 _ rfl
  have hlc := HC2.out.lt
  have hli := HI2.out.lt
  have hba := (Below.refl w2.heap.size w2).alloc (Nat.le_refl _) (.cells #[.slice Av lv cv, .slice Ag lg cg, .slice Ay ly cy, .slice none 0 0, .slice none 0 0, .slice none 0 0, .int .i64 0] 69)
  have hbb := hba.alloc hba.size (.cells #[.slice none 0 0, .slice As ls cs, .slice Ap lp cp, .slice Ar lr cr] 89)
  have HB3 := Lib.hid (HB2.out.trans (hbb.mono HB2.out.size))
  have HC3 := Lib.hid (HC2.out.next hbb)
  have HM3 := Lib.hid ((Cs.new w2 #[.slice Av lv cv, .slice Ag lg cg, .slice Ay ly cy, .slice none 0 0, .slice none 0 0, .slice none 0 0, .int .i64 0] 69).alloc (.cells #[.slice none 0 0, .slice As ls cs, .slice Ap lp cp, .slice Ar lr cr] 89))
  have HL3 := Lib.hid (Cs.new1 w2 (.cells #[.slice Av lv cv, .slice Ag lg cg, .slice Ay ly cy, .slice none 0 0, .slice none 0 0, .slice none 0 0, .int .i64 0] 69) #[.slice none 0 0, .slice As ls cs, .slice Ap lp cp, .slice Ar lr cr] 89)
  have HPF : Hid (w.heap.size < w2.heap.size) := Lib.hid HC2.out.lt
  clear hba hbb
  go_upto_region 6 with fail
  obtain ⟨w3, hw3⟩ : ∃ w3, (w2.alloc (.cells #[.slice Av lv cv, .slice Ag lg cg, .slice Ay ly cy, .slice none 0 0, .slice none 0 0, .slice none 0 0, .int .i64 0] 69)).alloc (.cells #[.slice none 0 0, .slice As ls cs, .slice Ap lp cp, .slice Ar lr cr] 89) = w3 := ⟨_, rfl⟩
  obtain ⟨p, hp⟩ : ∃ p, w2.heap.size = p := ⟨_, rfl⟩
  rw [hw3] at HB3 HC3 HM3 HL3
  rw [hp] at HM3 HL3 HPF
  rw [hw3, hp]
  clear hw3 hp HB2 HC2 HI2 n0 n1 n2 i0 i1 i2 hlc hli
  have n0 := HC3.out.at 0 _ rfl
  have HMK0 : Hid (Mk 3 w.heap.size p (.slice Av lv cv) (.slice Ag lg cg) (.slice Ay ly cy) (.slice none 0 0) (.slice none 0 0) [] w3 (.slice none 0 0) ⟨[], [], 0⟩) := Lib.hid ⟨Nat.le_of_lt HPF.out, HM3.out, World.ownsRow_nil _ _ _ _, World.ownsRow_nil _ _ _ _, World.ownsRow_nil _ _ _ _, by simp [apart, Value.ownBlock], by simp [apart, Value.ownBlock], by simp [apart, Value.ownBlock], .inl rfl, .inl rfl, .inl rfl⟩
  have HST0 : Hid (Step1 w w3 (p + 1) w.heap.size p [.slice Av lv cv, .slice Ag lg cg, .slice Ay ly cy] ⟨S, P, R⟩) := Lib.hid ⟨⟨_, _, _, _, _, _, _, _, _, HL3.out, HZS.out, HZP.out, HZR.out⟩, HC3.out, HB3.out⟩
  have HAP0 : Hid (apart (.slice none 0 0) (p + 1) ∧ apart (.slice none 0 0) w.heap.size) := Lib.hid ⟨by simp [apart, Value.ownBlock], by simp [apart, Value.ownBlock]⟩
  obtain ⟨res, hres⟩ : ∃ z, startS vs ⟨S, P, R⟩ [] false = z := ⟨_, rfl⟩
  have HRES := Lib.hid hres
  have HSS0 : Hid (startS (vs.drop 0) ⟨S, P, R⟩ [] false = res) := hres
  have HVD0 : Hid (([] : List Int).length = 0) := rfl
  clear HB3 HC3 HM3 HL3 hres HZS HZP HZR
  go_upto_region 8 with fail
  clear n0
  go_loopw [9, 35] (fun u i wr => ∃ (k : Nat) (vl : List Int) (o : Bool) (L : Lf) (Ax : Option Addr) (cx : Nat), k ≤ lv ∧ i = .int .i64 k ∧ u = .bool o ∧ Hid (startS (vs.drop k) L vl o = res) ∧ Hid (vl.length = k) ∧ Hid (Mk 3 w.heap.size p (.slice Av lv cv) (.slice Ag lg cg) (.slice Ay ly cy) (.slice Ax k cx) (.slice none 0 0) [] wr (.slice none 0 0) ⟨vl, [], 0⟩) ∧ Hid (Step1 w wr (p + 1) w.heap.size p [.slice Av lv cv, .slice Ag lg cg, .slice Ay ly cy] L) ∧ Hid (apart (.slice Ax k cx) (p + 1) ∧ apart (.slice Ax k cx) w.heap.size)) (fun _ i _ => lv - (intOf i).toNat)
  case atStart => exact ⟨0, [], false, ⟨S, P, R⟩, none, 0, by omega, rfl, rfl, HSS0, HVD0, HMK0, HST0, HAP0⟩
  case round =>
    clear HSS0 HVD0 HMK0 HST0 HAP0
    obtain ⟨k, vl, o, L, Ax, cx, hk, rfl, rfl, HSS, HVD, HMK, HST, HAP⟩ := hrel
    by_cases hlt : k < lv
    · obtain ⟨nm, kd, lo, hi, ii, gv, fv, hx, hsz, hA, hgv, k0, k1, k2, k3, k4⟩ := (HV.out.below HST.out.low).at k hlt
      subst hA
      have hxl := (List.getElem?_eq_some_iff.1 hx).1
      have hdr : vs.drop k = ⟨nm, kd, lo, hi, ii⟩ :: vs.drop (k + 1) := by
        rw [List.drop_eq_getElem_cons hxl, (List.getElem?_eq_some_iff.1 hx).2]
      have hkd := (varsC_init HVC.out.1 _ (List.mem_of_getElem? hx)).1
      simp only at hkd
      have HDR := Lib.hid hdr
      have hlt' : (k : Int) < (lv : Int) := by omega
      have hba := (Below.refl wr.heap.size wr).alloc (Nat.le_refl _) (.cells #[.string nm, .int .i64 kd, .int .i64 lo, .int .i64 hi, .int .i64 ii] 48)
      have HMK3 := Lib.hid (HMK.out.below hba)
      have HST3 : Hid (Step1 w (wr.alloc (.cells #[.string nm, .int .i64 kd, .int .i64 lo, .int .i64 hi, .int .i64 ii] 48)) (p + 1) w.heap.size p [.slice (some ⟨gv, fv, none⟩) lv cv, .slice Ag lg cg, .slice Ay ly cy] L) := Lib.hid ⟨HST.out.lf.map (fun _ h => h.next hba), HST.out.fb.next hba, HST.out.low.trans (hba.mono HST.out.low.size)⟩
      have HQ3 := Lib.hid (Cs.new wr #[.string nm, .int .i64 kd, .int .i64 lo, .int .i64 hi, .int .i64 ii] 48)
      have HQN : Hid (p < wr.heap.size ∧ p + 1 < wr.heap.size) := Lib.hid ⟨HMK.out.cs.lt, by obtain ⟨_, _, _, _, _, _, _, _, _, h, _⟩ := HST.out.lf; exact h.lt⟩
      clear hx hsz hxl hdr hba HMK HST
      go_upto_region 10 with fail
      obtain ⟨w4, hw4⟩ : ∃ w4, wr.alloc (.cells #[.string nm, .int .i64 kd, .int .i64 lo, .int .i64 hi, .int .i64 ii] 48) = w4 := ⟨_, rfl⟩
      obtain ⟨q, hq⟩ : ∃ q, wr.heap.size = q := ⟨_, rfl⟩
      rw [hw4] at HMK3 HST3 HQ3
      rw [hq] at HQ3 HQN
      rw [hw4, hq]
      clear hw4 hq k0 k1 k2 k3 k4
      have m1 := HQ3.out.at 1 _ rfl
      have m2 := HQ3.out.at 2 _ rfl
      have m3 := HQ3.out.at 3 _ rfl
      have m4 := HQ3.out.at 4 _ rfl
      go_upto_if 43 with fail
      go_cut [9, 12] from 44 to 76 (fun u x wc => ∃ (n : Int) (o2 : Bool) (L2 : Lf), u = .bool o2 ∧ x = .int .i64 n ∧ Hid (startS (vs.drop (k + 1)) L2 (vl ++ [n]) o2 = res) ∧ Hid (Mk 3 w.heap.size p (.slice (some ⟨gv, fv, none⟩) lv cv) (.slice Ag lg cg) (.slice Ay ly cy) (.slice Ax k cx) (.slice none 0 0) [] wc (.slice none 0 0) ⟨vl, [], 0⟩) ∧ Hid (Step1 w wc (p + 1) w.heap.size p [.slice (some ⟨gv, fv, none⟩) lv cv, .slice Ag lg cg, .slice Ay ly cy] L2))
      case first =>
        obtain rfl | rfl | rfl | rfl : kd = 0 ∨ kd = 1 ∨ kd = 2 ∨ kd = 3 := by omega
        · have HSS2 : Hid (startS (vs.drop (k + 1)) L (vl ++ [ii]) o = res) := by
            show _ = _
            have := HSS.out
            rw [HDR.out, startS_loc rfl] at this
            exact this
          clear HSS
          go_wp2_with fail
          go_meet
          case rel => exact ⟨ii, o, L, rfl, rfl, HSS2, HMK3, HST3⟩
        · have hk0 : (((1 : Int)) != 0) = true := rfl
          obtain ⟨A1, l1, c1, A2, l2, c2, A3, l3, c3, hcs, hz1, hz2, hz3⟩ := HST3.out.lf
          have HCS := Lib.hid hcs
          have HZ1 := Lib.hid hz1
          have HZ2 := Lib.hid hz2
          have HZ3 := Lib.hid hz3
          have e1 := hcs.at 1 _ rfl
          have ef1 := hcs.free 1
          have hpl := hcs.lt
          clear hcs hz1 hz2 hz3
          by_cases hle : l1 = 0
          · subst hle
            have hg0 : L.get 1 = [] := by have := HZ1.out.len; cases hq : L.get 1 with
              | nil => rfl
              | cons a b => have h2 : (L.get 1).length = 0 := this; rw [hq] at h2; cases h2
            have hnone : res = none := by rw [← HSS.out, HDR.out, startS_none (show ((1 : Int)) ≠ 0 by decide) hg0]
            have hr : r = 1 := by have := HSP.out; unfold startP at this; rw [HRES.out, hnone] at this; injection this with h1 h2; exact h1.symm
            subst hr
            go_wp2_with fail
            go_ret2
            exact ⟨HST3.out.low, .inl ⟨by decide, rfl⟩⟩
          obtain ⟨l0, hl0⟩ : ∃ z, l1 = z + 1 := ⟨l1 - 1, by omega⟩
          subst hl0
          obtain ⟨c0, hc0⟩ : ∃ z, c1 = z + 1 := ⟨c1 - 1, by have := HZ1.out.cap; omega⟩
          subst hc0
          obtain ⟨gz, fz, hAz, hgz, hcz⟩ := HZ1.out.mem (by omega)
          subst hAz
          obtain ⟨n0, rest, hg0⟩ : ∃ n rest, L.get 1 = n :: rest := by
            have := HZ1.out.len
            cases hq : L.get 1 with
            | nil => have h2 : (L.get 1).length = l0 + 1 := this; rw [hq] at h2; cases h2
            | cons a b => exact ⟨a, b, rfl⟩
          have HG0 := Lib.hid hg0
          have hcell : w4.cell? ⟨gz, fz, none⟩ = some (.int .i64 n0) := by
            have := hcz 0 (by omega)
            have h3 : (L.get 1).getD 0 0 = n0 := by rw [hg0]; rfl
            rw [Nat.add_zero] at this
            rw [HST3.out.low.cell (p := ⟨gz, fz, none⟩) hgz, this, ← h3]; rfl
          have hlm : l0 + 1 ≤ c0 + 1 := HZ1.out.cap
          have hcm : c0 + 1 ≤ 9223372036854775807 := by have := HZ1.out.big; unfold maxLen at this; omega
          have hle1 : (1 : Int) ≤ ((l0 + 1 : Nat) : Int) := by omega
          have hlen0 : ((l0 + 1 : Nat) : Int) ≠ 0 := by omega
          clear hcz hle hg0
          have HSS2 : Hid (startS (vs.drop (k + 1)) (L.put 1 rest) (vl ++ [n0]) (o || (decide (n0 < lo) || decide (hi < n0))) = res) := by
            show _ = _
            have := HSS.out
            rw [HDR.out, startS_some (show ((1 : Int)) ≠ 0 by decide) HG0.out] at this
            exact this
          go_upto_region 15 with fail
          by_cases hc1 : c0 = 0
          · subst hc1
            obtain rfl : l0 = 0 := by omega
            refine wp_region_still_tail 8 (by kernel_rfl) (by kernel_rfl) ?_
            simp only [List.take_succ_cons, List.take_zero, List.drop_succ_cons, List.drop_zero]
            repeat still_step
            refine wpStill_nil ?_
            change wpList _ _ _ _ _ w4.drew
            go_upto_region 16 with fail
            have HMK5 := Lib.hid ((Mk.other HMK3.out (p := ⟨p + 1, 1, none⟩) (by simp) HAP.out.1 (.slice (some ⟨gz, fz, none⟩) 0 0)).below (Below.refl _ _).drew)
            have HST5 : Hid (Step1 w ((w4.setCell ⟨p + 1, 1, none⟩ (.slice (some ⟨gz, fz, none⟩) 0 0)).drew) (p + 1) w.heap.size p [.slice (some ⟨gv, fv, none⟩) lv cv, .slice Ag lg cg, .slice Ay ly cy] (L.put 1 rest)) := Lib.hid ⟨⟨_, _, _, _, _, _, _, _, _, (HCS.out.set 1 (.slice (some ⟨gz, fz, none⟩) 0 0) (by simp)).drew, (by have h := HZ1.out; have h2 : Zs w _ 1 1 (L.get 1) := h; rw [HG0.out] at h2; exact h2.tail0), HZ2.out, HZ3.out⟩, (HST3.out.fb.other (p := ⟨p + 1, 1, none⟩) (by simp only [ne_eq]; have := HPF.out; omega) _).drew, (HST3.out.low.setCell (p := ⟨p + 1, 1, none⟩) (by simp only; have := HPF.out; omega) _).drew⟩
            have HQ5 := Lib.hid ((HQ3.out.other (p := ⟨p + 1, 1, none⟩) (by simp only [ne_eq]; have := HQN.out; omega) (.slice (some ⟨gz, fz, none⟩) 0 0)).drew)
            obtain ⟨w5, hw5⟩ : ∃ w5, (w4.setCell ⟨p + 1, 1, none⟩ (.slice (some ⟨gz, fz, none⟩) 0 0)).drew = w5 := ⟨_, rfl⟩
            rw [hw5] at HMK5 HST5 HQ5
            rw [hw5]
            clear hw5 m1 m2 m3 m4 e1 ef1 hcell hpl HCS
            have m2 := HQ5.out.at 2 _ rfl
            have m3 := HQ5.out.at 3 _ rfl
            cases o with
            | true =>
              have HSS3 : Hid (startS (vs.drop (k + 1)) (L.put 1 rest) (vl ++ [n0]) true = res) := by show _ = _; rw [← HSS2.out]; simp
              clear HSS HSS2
              go_wp2_with fail
              go_meet
              case rel => exact ⟨n0, true, _, rfl, rfl, HSS3, HMK5, HST5⟩
            | false =>
              by_cases ha : n0 < lo
              · have had : decide (n0 < lo) = true := decide_eq_true ha
                have HSS3 : Hid (startS (vs.drop (k + 1)) (L.put 1 rest) (vl ++ [n0]) true = res) := by show _ = _; rw [← HSS2.out, had]; simp
                clear HSS HSS2
                go_wp2_with fail
                go_meet
                case rel => exact ⟨n0, true, _, rfl, rfl, HSS3, HMK5, HST5⟩
              · have had : decide (n0 < lo) = false := decide_eq_false ha
                by_cases hb : hi < n0
                · have hbd : decide (hi < n0) = true := decide_eq_true hb
                  have HSS3 : Hid (startS (vs.drop (k + 1)) (L.put 1 rest) (vl ++ [n0]) true = res) := by show _ = _; rw [← HSS2.out, had, hbd]; simp
                  clear HSS HSS2
                  go_wp2_with fail
                  go_meet
                  case rel => exact ⟨n0, true, _, rfl, rfl, HSS3, HMK5, HST5⟩
                · have hbd : decide (hi < n0) = false := decide_eq_false hb
                  have HSS3 : Hid (startS (vs.drop (k + 1)) (L.put 1 rest) (vl ++ [n0]) false = res) := by show _ = _; rw [← HSS2.out, had, hbd]; simp
                  clear HSS HSS2
                  go_wp2_with fail
                  go_meet
                  case rel => exact ⟨n0, false, _, rfl, rfl, HSS3, HMK5, HST5⟩
          · have hsl : ∀ wx : World, (Instr.slice 27 (.slice (some ⟨gz, fz, none⟩) (l0 + 1) (c0 + 1)) (some (.int .i64 1)) none none).run Tryz.prog wx = .ok (.slice (some ⟨gz, fz + 1, none⟩) l0 c0) wx := by
              intro wx
              have h1 := run_slice_l (P := Tryz.prog) (w := wx) 27 (some ⟨gz, fz, none⟩) (l0 + 1) (c0 + 1) (by kernel_rfl) .i64 1 (by omega) (by omega)
              rw [h1]
              simp [sliced, hc1, go_sem, Addr.add]
            refine wp_region_still_tail 8 (by kernel_rfl) (by kernel_rfl) ?_
            simp only [List.take_succ_cons, List.take_zero, List.drop_succ_cons, List.drop_zero]
            repeat still_step
            refine wpStill_nil ?_
            change wpList _ _ _ _ _ w4.drew
            go_upto_region 16 with fail
            have HMK5 := Lib.hid ((Mk.other HMK3.out (p := ⟨p + 1, 1, none⟩) (by simp) HAP.out.1 (.slice (some ⟨gz, fz + 1, none⟩) l0 c0)).below (Below.refl _ _).drew)
            have HST5 : Hid (Step1 w ((w4.setCell ⟨p + 1, 1, none⟩ (.slice (some ⟨gz, fz + 1, none⟩) l0 c0)).drew) (p + 1) w.heap.size p [.slice (some ⟨gv, fv, none⟩) lv cv, .slice Ag lg cg, .slice Ay ly cy] (L.put 1 rest)) := Lib.hid ⟨⟨_, _, _, _, _, _, _, _, _, (HCS.out.set 1 (.slice (some ⟨gz, fz + 1, none⟩) l0 c0) (by simp)).drew, (by have h := HZ1.out; have h2 : Zs w _ (l0 + 1) (c0 + 1) (L.get 1) := h; rw [HG0.out] at h2; exact h2.tail), HZ2.out, HZ3.out⟩, (HST3.out.fb.other (p := ⟨p + 1, 1, none⟩) (by simp only [ne_eq]; have := HPF.out; omega) _).drew, (HST3.out.low.setCell (p := ⟨p + 1, 1, none⟩) (by simp only; have := HPF.out; omega) _).drew⟩
            have HQ5 := Lib.hid ((HQ3.out.other (p := ⟨p + 1, 1, none⟩) (by simp only [ne_eq]; have := HQN.out; omega) (.slice (some ⟨gz, fz + 1, none⟩) l0 c0)).drew)
            obtain ⟨w5, hw5⟩ : ∃ w5, (w4.setCell ⟨p + 1, 1, none⟩ (.slice (some ⟨gz, fz + 1, none⟩) l0 c0)).drew = w5 := ⟨_, rfl⟩
            rw [hw5] at HMK5 HST5 HQ5
            rw [hw5]
            clear hw5 m1 m2 m3 m4 e1 ef1 hcell hpl HCS
            have m2 := HQ5.out.at 2 _ rfl
            have m3 := HQ5.out.at 3 _ rfl
            cases o with
            | true =>
              have HSS3 : Hid (startS (vs.drop (k + 1)) (L.put 1 rest) (vl ++ [n0]) true = res) := by show _ = _; rw [← HSS2.out]; simp
              clear HSS HSS2
              go_wp2_with fail
              go_meet
              case rel => exact ⟨n0, true, _, rfl, rfl, HSS3, HMK5, HST5⟩
            | false =>
              by_cases ha : n0 < lo
              · have had : decide (n0 < lo) = true := decide_eq_true ha
                have HSS3 : Hid (startS (vs.drop (k + 1)) (L.put 1 rest) (vl ++ [n0]) true = res) := by show _ = _; rw [← HSS2.out, had]; simp
                clear HSS HSS2
                go_wp2_with fail
                go_meet
                case rel => exact ⟨n0, true, _, rfl, rfl, HSS3, HMK5, HST5⟩
              · have had : decide (n0 < lo) = false := decide_eq_false ha
                by_cases hb : hi < n0
                · have hbd : decide (hi < n0) = true := decide_eq_true hb
                  have HSS3 : Hid (startS (vs.drop (k + 1)) (L.put 1 rest) (vl ++ [n0]) true = res) := by show _ = _; rw [← HSS2.out, had, hbd]; simp
                  clear HSS HSS2
                  go_wp2_with fail
                  go_meet
                  case rel => exact ⟨n0, true, _, rfl, rfl, HSS3, HMK5, HST5⟩
                · have hbd : decide (hi < n0) = false := decide_eq_false hb
                  have HSS3 : Hid (startS (vs.drop (k + 1)) (L.put 1 rest) (vl ++ [n0]) false = res) := by show _ = _; rw [← HSS2.out, had, hbd]; simp
                  clear HSS HSS2
                  go_wp2_with fail
                  go_meet
                  case rel => exact ⟨n0, false, _, rfl, rfl, HSS3, HMK5, HST5⟩
        · have hk0 : (((2 : Int)) != 0) = true := rfl
          obtain ⟨A1, l1, c1, A2, l2, c2, A3, l3, c3, hcs, hz1, hz2, hz3⟩ := HST3.out.lf
          have HCS := Lib.hid hcs
          have HZ1 := Lib.hid hz1
          have HZ2 := Lib.hid hz2
          have HZ3 := Lib.hid hz3
          have e2 := hcs.at 2 _ rfl
          have ef2 := hcs.free 2
          have hpl := hcs.lt
          clear hcs hz1 hz2 hz3
          by_cases hle : l2 = 0
          · subst hle
            have hg0 : L.get 2 = [] := by have := HZ2.out.len; cases hq : L.get 2 with
              | nil => rfl
              | cons a b => have h2 : (L.get 2).length = 0 := this; rw [hq] at h2; cases h2
            have hnone : res = none := by rw [← HSS.out, HDR.out, startS_none (show ((2 : Int)) ≠ 0 by decide) hg0]
            have hr : r = 1 := by have := HSP.out; unfold startP at this; rw [HRES.out, hnone] at this; injection this with h1 h2; exact h1.symm
            subst hr
            go_wp2_with fail
            go_ret2
            exact ⟨HST3.out.low, .inl ⟨by decide, rfl⟩⟩
          obtain ⟨l0, hl0⟩ : ∃ z, l2 = z + 1 := ⟨l2 - 1, by omega⟩
          subst hl0
          obtain ⟨c0, hc0⟩ : ∃ z, c2 = z + 1 := ⟨c2 - 1, by have := HZ2.out.cap; omega⟩
          subst hc0
          obtain ⟨gz, fz, hAz, hgz, hcz⟩ := HZ2.out.mem (by omega)
          subst hAz
          obtain ⟨n0, rest, hg0⟩ : ∃ n rest, L.get 2 = n :: rest := by
            have := HZ2.out.len
            cases hq : L.get 2 with
            | nil => have h2 : (L.get 2).length = l0 + 1 := this; rw [hq] at h2; cases h2
            | cons a b => exact ⟨a, b, rfl⟩
          have HG0 := Lib.hid hg0
          have hcell : w4.cell? ⟨gz, fz, none⟩ = some (.int .i64 n0) := by
            have := hcz 0 (by omega)
            have h3 : (L.get 2).getD 0 0 = n0 := by rw [hg0]; rfl
            rw [Nat.add_zero] at this
            rw [HST3.out.low.cell (p := ⟨gz, fz, none⟩) hgz, this, ← h3]; rfl
          have hlm : l0 + 1 ≤ c0 + 1 := HZ2.out.cap
          have hcm : c0 + 1 ≤ 9223372036854775807 := by have := HZ2.out.big; unfold maxLen at this; omega
          have hle1 : (1 : Int) ≤ ((l0 + 1 : Nat) : Int) := by omega
          have hlen0 : ((l0 + 1 : Nat) : Int) ≠ 0 := by omega
          clear hcz hle hg0
          have HSS2 : Hid (startS (vs.drop (k + 1)) (L.put 2 rest) (vl ++ [n0]) (o || (decide (n0 < lo) || decide (hi < n0))) = res) := by
            show _ = _
            have := HSS.out
            rw [HDR.out, startS_some (show ((2 : Int)) ≠ 0 by decide) HG0.out] at this
            exact this
          go_upto_region 15 with fail
          by_cases hc1 : c0 = 0
          · subst hc1
            obtain rfl : l0 = 0 := by omega
            refine wp_region_still_tail 8 (by kernel_rfl) (by kernel_rfl) ?_
            simp only [List.take_succ_cons, List.take_zero, List.drop_succ_cons, List.drop_zero]
            repeat still_step
            refine wpStill_nil ?_
            change wpList _ _ _ _ _ w4.drew
            go_upto_region 16 with fail
            have HMK5 := Lib.hid ((Mk.other HMK3.out (p := ⟨p + 1, 2, none⟩) (by simp) HAP.out.1 (.slice (some ⟨gz, fz, none⟩) 0 0)).below (Below.refl _ _).drew)
            have HST5 : Hid (Step1 w ((w4.setCell ⟨p + 1, 2, none⟩ (.slice (some ⟨gz, fz, none⟩) 0 0)).drew) (p + 1) w.heap.size p [.slice (some ⟨gv, fv, none⟩) lv cv, .slice Ag lg cg, .slice Ay ly cy] (L.put 2 rest)) := Lib.hid ⟨⟨_, _, _, _, _, _, _, _, _, (HCS.out.set 2 (.slice (some ⟨gz, fz, none⟩) 0 0) (by simp)).drew, HZ1.out, (by have h := HZ2.out; have h2 : Zs w _ 1 1 (L.get 2) := h; rw [HG0.out] at h2; exact h2.tail0), HZ3.out⟩, (HST3.out.fb.other (p := ⟨p + 1, 2, none⟩) (by simp only [ne_eq]; have := HPF.out; omega) _).drew, (HST3.out.low.setCell (p := ⟨p + 1, 2, none⟩) (by simp only; have := HPF.out; omega) _).drew⟩
            have HQ5 := Lib.hid ((HQ3.out.other (p := ⟨p + 1, 2, none⟩) (by simp only [ne_eq]; have := HQN.out; omega) (.slice (some ⟨gz, fz, none⟩) 0 0)).drew)
            obtain ⟨w5, hw5⟩ : ∃ w5, (w4.setCell ⟨p + 1, 2, none⟩ (.slice (some ⟨gz, fz, none⟩) 0 0)).drew = w5 := ⟨_, rfl⟩
            rw [hw5] at HMK5 HST5 HQ5
            rw [hw5]
            clear hw5 m1 m2 m3 m4 e2 ef2 hcell hpl HCS
            have m2 := HQ5.out.at 2 _ rfl
            have m3 := HQ5.out.at 3 _ rfl
            cases o with
            | true =>
              have HSS3 : Hid (startS (vs.drop (k + 1)) (L.put 2 rest) (vl ++ [n0]) true = res) := by show _ = _; rw [← HSS2.out]; simp
              clear HSS HSS2
              go_wp2_with fail
              go_meet
              case rel => exact ⟨n0, true, _, rfl, rfl, HSS3, HMK5, HST5⟩
            | false =>
              by_cases ha : n0 < lo
              · have had : decide (n0 < lo) = true := decide_eq_true ha
                have HSS3 : Hid (startS (vs.drop (k + 1)) (L.put 2 rest) (vl ++ [n0]) true = res) := by show _ = _; rw [← HSS2.out, had]; simp
                clear HSS HSS2
                go_wp2_with fail
                go_meet
                case rel => exact ⟨n0, true, _, rfl, rfl, HSS3, HMK5, HST5⟩
              · have had : decide (n0 < lo) = false := decide_eq_false ha
                by_cases hb : hi < n0
                · have hbd : decide (hi < n0) = true := decide_eq_true hb
                  have HSS3 : Hid (startS (vs.drop (k + 1)) (L.put 2 rest) (vl ++ [n0]) true = res) := by show _ = _; rw [← HSS2.out, had, hbd]; simp
                  clear HSS HSS2
                  go_wp2_with fail
                  go_meet
                  case rel => exact ⟨n0, true, _, rfl, rfl, HSS3, HMK5, HST5⟩
                · have hbd : decide (hi < n0) = false := decide_eq_false hb
                  have HSS3 : Hid (startS (vs.drop (k + 1)) (L.put 2 rest) (vl ++ [n0]) false = res) := by show _ = _; rw [← HSS2.out, had, hbd]; simp
                  clear HSS HSS2
                  go_wp2_with fail
                  go_meet
                  case rel => exact ⟨n0, false, _, rfl, rfl, HSS3, HMK5, HST5⟩
          · have hsl : ∀ wx : World, (Instr.slice 27 (.slice (some ⟨gz, fz, none⟩) (l0 + 1) (c0 + 1)) (some (.int .i64 1)) none none).run Tryz.prog wx = .ok (.slice (some ⟨gz, fz + 1, none⟩) l0 c0) wx := by
              intro wx
              have h1 := run_slice_l (P := Tryz.prog) (w := wx) 27 (some ⟨gz, fz, none⟩) (l0 + 1) (c0 + 1) (by kernel_rfl) .i64 1 (by omega) (by omega)
              rw [h1]
              simp [sliced, hc1, go_sem, Addr.add]
            refine wp_region_still_tail 8 (by kernel_rfl) (by kernel_rfl) ?_
            simp only [List.take_succ_cons, List.take_zero, List.drop_succ_cons, List.drop_zero]
            repeat still_step
            refine wpStill_nil ?_
            change wpList _ _ _ _ _ w4.drew
            go_upto_region 16 with fail
            have HMK5 := Lib.hid ((Mk.other HMK3.out (p := ⟨p + 1, 2, none⟩) (by simp) HAP.out.1 (.slice (some ⟨gz, fz + 1, none⟩) l0 c0)).below (Below.refl _ _).drew)
            have HST5 : Hid (Step1 w ((w4.setCell ⟨p + 1, 2, none⟩ (.slice (some ⟨gz, fz + 1, none⟩) l0 c0)).drew) (p + 1) w.heap.size p [.slice (some ⟨gv, fv, none⟩) lv cv, .slice Ag lg cg, .slice Ay ly cy] (L.put 2 rest)) := Lib.hid ⟨⟨_, _, _, _, _, _, _, _, _, (HCS.out.set 2 (.slice (some ⟨gz, fz + 1, none⟩) l0 c0) (by simp)).drew, HZ1.out, (by have h := HZ2.out; have h2 : Zs w _ (l0 + 1) (c0 + 1) (L.get 2) := h; rw [HG0.out] at h2; exact h2.tail), HZ3.out⟩, (HST3.out.fb.other (p := ⟨p + 1, 2, none⟩) (by simp only [ne_eq]; have := HPF.out; omega) _).drew, (HST3.out.low.setCell (p := ⟨p + 1, 2, none⟩) (by simp only; have := HPF.out; omega) _).drew⟩
            have HQ5 := Lib.hid ((HQ3.out.other (p := ⟨p + 1, 2, none⟩) (by simp only [ne_eq]; have := HQN.out; omega) (.slice (some ⟨gz, fz + 1, none⟩) l0 c0)).drew)
            obtain ⟨w5, hw5⟩ : ∃ w5, (w4.setCell ⟨p + 1, 2, none⟩ (.slice (some ⟨gz, fz + 1, none⟩) l0 c0)).drew = w5 := ⟨_, rfl⟩
            rw [hw5] at HMK5 HST5 HQ5
            rw [hw5]
            clear hw5 m1 m2 m3 m4 e2 ef2 hcell hpl HCS
            have m2 := HQ5.out.at 2 _ rfl
            have m3 := HQ5.out.at 3 _ rfl
            cases o with
            | true =>
              have HSS3 : Hid (startS (vs.drop (k + 1)) (L.put 2 rest) (vl ++ [n0]) true = res) := by show _ = _; rw [← HSS2.out]; simp
              clear HSS HSS2
              go_wp2_with fail
              go_meet
              case rel => exact ⟨n0, true, _, rfl, rfl, HSS3, HMK5, HST5⟩
            | false =>
              by_cases ha : n0 < lo
              · have had : decide (n0 < lo) = true := decide_eq_true ha
                have HSS3 : Hid (startS (vs.drop (k + 1)) (L.put 2 rest) (vl ++ [n0]) true = res) := by show _ = _; rw [← HSS2.out, had]; simp
                clear HSS HSS2
                go_wp2_with fail
                go_meet
                case rel => exact ⟨n0, true, _, rfl, rfl, HSS3, HMK5, HST5⟩
              · have had : decide (n0 < lo) = false := decide_eq_false ha
                by_cases hb : hi < n0
                · have hbd : decide (hi < n0) = true := decide_eq_true hb
                  have HSS3 : Hid (startS (vs.drop (k + 1)) (L.put 2 rest) (vl ++ [n0]) true = res) := by show _ = _; rw [← HSS2.out, had, hbd]; simp
                  clear HSS HSS2
                  go_wp2_with fail
                  go_meet
                  case rel => exact ⟨n0, true, _, rfl, rfl, HSS3, HMK5, HST5⟩
                · have hbd : decide (hi < n0) = false := decide_eq_false hb
                  have HSS3 : Hid (startS (vs.drop (k + 1)) (L.put 2 rest) (vl ++ [n0]) false = res) := by show _ = _; rw [← HSS2.out, had, hbd]; simp
                  clear HSS HSS2
                  go_wp2_with fail
                  go_meet
                  case rel => exact ⟨n0, false, _, rfl, rfl, HSS3, HMK5, HST5⟩
        · have hk0 : (((3 : Int)) != 0) = true := rfl
          obtain ⟨A1, l1, c1, A2, l2, c2, A3, l3, c3, hcs, hz1, hz2, hz3⟩ := HST3.out.lf
          have HCS := Lib.hid hcs
          have HZ1 := Lib.hid hz1
          have HZ2 := Lib.hid hz2
          have HZ3 := Lib.hid hz3
          have e3 := hcs.at 3 _ rfl
          have ef3 := hcs.free 3
          have hpl := hcs.lt
          clear hcs hz1 hz2 hz3
          by_cases hle : l3 = 0
          · subst hle
            have hg0 : L.get 3 = [] := by have := HZ3.out.len; cases hq : L.get 3 with
              | nil => rfl
              | cons a b => have h2 : (L.get 3).length = 0 := this; rw [hq] at h2; cases h2
            have hnone : res = none := by rw [← HSS.out, HDR.out, startS_none (show ((3 : Int)) ≠ 0 by decide) hg0]
            have hr : r = 1 := by have := HSP.out; unfold startP at this; rw [HRES.out, hnone] at this; injection this with h1 h2; exact h1.symm
            subst hr
            go_wp2_with fail
            go_ret2
            exact ⟨HST3.out.low, .inl ⟨by decide, rfl⟩⟩
          obtain ⟨l0, hl0⟩ : ∃ z, l3 = z + 1 := ⟨l3 - 1, by omega⟩
          subst hl0
          obtain ⟨c0, hc0⟩ : ∃ z, c3 = z + 1 := ⟨c3 - 1, by have := HZ3.out.cap; omega⟩
          subst hc0
          obtain ⟨gz, fz, hAz, hgz, hcz⟩ := HZ3.out.mem (by omega)
          subst hAz
          obtain ⟨n0, rest, hg0⟩ : ∃ n rest, L.get 3 = n :: rest := by
            have := HZ3.out.len
            cases hq : L.get 3 with
            | nil => have h2 : (L.get 3).length = l0 + 1 := this; rw [hq] at h2; cases h2
            | cons a b => exact ⟨a, b, rfl⟩
          have HG0 := Lib.hid hg0
          have hcell : w4.cell? ⟨gz, fz, none⟩ = some (.int .i64 n0) := by
            have := hcz 0 (by omega)
            have h3 : (L.get 3).getD 0 0 = n0 := by rw [hg0]; rfl
            rw [Nat.add_zero] at this
            rw [HST3.out.low.cell (p := ⟨gz, fz, none⟩) hgz, this, ← h3]; rfl
          have hlm : l0 + 1 ≤ c0 + 1 := HZ3.out.cap
          have hcm : c0 + 1 ≤ 9223372036854775807 := by have := HZ3.out.big; unfold maxLen at this; omega
          have hle1 : (1 : Int) ≤ ((l0 + 1 : Nat) : Int) := by omega
          have hlen0 : ((l0 + 1 : Nat) : Int) ≠ 0 := by omega
          clear hcz hle hg0
          have HSS2 : Hid (startS (vs.drop (k + 1)) (L.put 3 rest) (vl ++ [n0]) (o || (decide (n0 < lo) || decide (hi < n0))) = res) := by
            show _ = _
            have := HSS.out
            rw [HDR.out, startS_some (show ((3 : Int)) ≠ 0 by decide) HG0.out] at this
            exact this
          go_upto_region 15 with fail
          by_cases hc1 : c0 = 0
          · subst hc1
            obtain rfl : l0 = 0 := by omega
            refine wp_region_still_tail 8 (by kernel_rfl) (by kernel_rfl) ?_
            simp only [List.take_succ_cons, List.take_zero, List.drop_succ_cons, List.drop_zero]
            repeat still_step
            refine wpStill_nil ?_
            change wpList _ _ _ _ _ w4.drew
            go_upto_region 16 with fail
            have HMK5 := Lib.hid ((Mk.other HMK3.out (p := ⟨p + 1, 3, none⟩) (by simp) HAP.out.1 (.slice (some ⟨gz, fz, none⟩) 0 0)).below (Below.refl _ _).drew)
            have HST5 : Hid (Step1 w ((w4.setCell ⟨p + 1, 3, none⟩ (.slice (some ⟨gz, fz, none⟩) 0 0)).drew) (p + 1) w.heap.size p [.slice (some ⟨gv, fv, none⟩) lv cv, .slice Ag lg cg, .slice Ay ly cy] (L.put 3 rest)) := Lib.hid ⟨⟨_, _, _, _, _, _, _, _, _, (HCS.out.set 3 (.slice (some ⟨gz, fz, none⟩) 0 0) (by simp)).drew, HZ1.out, HZ2.out, (by have h := HZ3.out; have h2 : Zs w _ 1 1 (L.get 3) := h; rw [HG0.out] at h2; exact h2.tail0)⟩, (HST3.out.fb.other (p := ⟨p + 1, 3, none⟩) (by simp only [ne_eq]; have := HPF.out; omega) _).drew, (HST3.out.low.setCell (p := ⟨p + 1, 3, none⟩) (by simp only; have := HPF.out; omega) _).drew⟩
            have HQ5 := Lib.hid ((HQ3.out.other (p := ⟨p + 1, 3, none⟩) (by simp only [ne_eq]; have := HQN.out; omega) (.slice (some ⟨gz, fz, none⟩) 0 0)).drew)
            obtain ⟨w5, hw5⟩ : ∃ w5, (w4.setCell ⟨p + 1, 3, none⟩ (.slice (some ⟨gz, fz, none⟩) 0 0)).drew = w5 := ⟨_, rfl⟩
            rw [hw5] at HMK5 HST5 HQ5
            rw [hw5]
            clear hw5 m1 m2 m3 m4 e3 ef3 hcell hpl HCS
            have m2 := HQ5.out.at 2 _ rfl
            have m3 := HQ5.out.at 3 _ rfl
            cases o with
            | true =>
              have HSS3 : Hid (startS (vs.drop (k + 1)) (L.put 3 rest) (vl ++ [n0]) true = res) := by show _ = _; rw [← HSS2.out]; simp
              clear HSS HSS2
              go_wp2_with fail
              go_meet
              case rel => exact ⟨n0, true, _, rfl, rfl, HSS3, HMK5, HST5⟩
            | false =>
              by_cases ha : n0 < lo
              · have had : decide (n0 < lo) = true := decide_eq_true ha
                have HSS3 : Hid (startS (vs.drop (k + 1)) (L.put 3 rest) (vl ++ [n0]) true = res) := by show _ = _; rw [← HSS2.out, had]; simp
                clear HSS HSS2
                go_wp2_with fail
                go_meet
                case rel => exact ⟨n0, true, _, rfl, rfl, HSS3, HMK5, HST5⟩
              · have had : decide (n0 < lo) = false := decide_eq_false ha
                by_cases hb : hi < n0
                · have hbd : decide (hi < n0) = true := decide_eq_true hb
                  have HSS3 : Hid (startS (vs.drop (k + 1)) (L.put 3 rest) (vl ++ [n0]) true = res) := by show _ = _; rw [← HSS2.out, had, hbd]; simp
                  clear HSS HSS2
                  go_wp2_with fail
                  go_meet
                  case rel => exact ⟨n0, true, _, rfl, rfl, HSS3, HMK5, HST5⟩
                · have hbd : decide (hi < n0) = false := decide_eq_false hb
                  have HSS3 : Hid (startS (vs.drop (k + 1)) (L.put 3 rest) (vl ++ [n0]) false = res) := by show _ = _; rw [← HSS2.out, had, hbd]; simp
                  clear HSS HSS2
                  go_wp2_with fail
                  go_meet
                  case rel => exact ⟨n0, false, _, rfl, rfl, HSS3, HMK5, HST5⟩
          · have hsl : ∀ wx : World, (Instr.slice 27 (.slice (some ⟨gz, fz, none⟩) (l0 + 1) (c0 + 1)) (some (.int .i64 1)) none none).run Tryz.prog wx = .ok (.slice (some ⟨gz, fz + 1, none⟩) l0 c0) wx := by
              intro wx
              have h1 := run_slice_l (P := Tryz.prog) (w := wx) 27 (some ⟨gz, fz, none⟩) (l0 + 1) (c0 + 1) (by kernel_rfl) .i64 1 (by omega) (by omega)
              rw [h1]
              simp [sliced, hc1, go_sem, Addr.add]
            refine wp_region_still_tail 8 (by kernel_rfl) (by kernel_rfl) ?_
            simp only [List.take_succ_cons, List.take_zero, List.drop_succ_cons, List.drop_zero]
            repeat still_step
            refine wpStill_nil ?_
            change wpList _ _ _ _ _ w4.drew
            go_upto_region 16 with fail
            have HMK5 := Lib.hid ((Mk.other HMK3.out (p := ⟨p + 1, 3, none⟩) (by simp) HAP.out.1 (.slice (some ⟨gz, fz + 1, none⟩) l0 c0)).below (Below.refl _ _).drew)
            have HST5 : Hid (Step1 w ((w4.setCell ⟨p + 1, 3, none⟩ (.slice (some ⟨gz, fz + 1, none⟩) l0 c0)).drew) (p + 1) w.heap.size p [.slice (some ⟨gv, fv, none⟩) lv cv, .slice Ag lg cg, .slice Ay ly cy] (L.put 3 rest)) := Lib.hid ⟨⟨_, _, _, _, _, _, _, _, _, (HCS.out.set 3 (.slice (some ⟨gz, fz + 1, none⟩) l0 c0) (by simp)).drew, HZ1.out, HZ2.out, (by have h := HZ3.out; have h2 : Zs w _ (l0 + 1) (c0 + 1) (L.get 3) := h; rw [HG0.out] at h2; exact h2.tail)⟩, (HST3.out.fb.other (p := ⟨p + 1, 3, none⟩) (by simp only [ne_eq]; have := HPF.out; omega) _).drew, (HST3.out.low.setCell (p := ⟨p + 1, 3, none⟩) (by simp only; have := HPF.out; omega) _).drew⟩
            have HQ5 := Lib.hid ((HQ3.out.other (p := ⟨p + 1, 3, none⟩) (by simp only [ne_eq]; have := HQN.out; omega) (.slice (some ⟨gz, fz + 1, none⟩) l0 c0)).drew)
            obtain ⟨w5, hw5⟩ : ∃ w5, (w4.setCell ⟨p + 1, 3, none⟩ (.slice (some ⟨gz, fz + 1, none⟩) l0 c0)).drew = w5 := ⟨_, rfl⟩
            rw [hw5] at HMK5 HST5 HQ5
            rw [hw5]
            clear hw5 m1 m2 m3 m4 e3 ef3 hcell hpl HCS
            have m2 := HQ5.out.at 2 _ rfl
            have m3 := HQ5.out.at 3 _ rfl
            cases o with
            | true =>
              have HSS3 : Hid (startS (vs.drop (k + 1)) (L.put 3 rest) (vl ++ [n0]) true = res) := by show _ = _; rw [← HSS2.out]; simp
              clear HSS HSS2
              go_wp2_with fail
              go_meet
              case rel => exact ⟨n0, true, _, rfl, rfl, HSS3, HMK5, HST5⟩
            | false =>
              by_cases ha : n0 < lo
              · have had : decide (n0 < lo) = true := decide_eq_true ha
                have HSS3 : Hid (startS (vs.drop (k + 1)) (L.put 3 rest) (vl ++ [n0]) true = res) := by show _ = _; rw [← HSS2.out, had]; simp
                clear HSS HSS2
                go_wp2_with fail
                go_meet
                case rel => exact ⟨n0, true, _, rfl, rfl, HSS3, HMK5, HST5⟩
              · have had : decide (n0 < lo) = false := decide_eq_false ha
                by_cases hb : hi < n0
                · have hbd : decide (hi < n0) = true := decide_eq_true hb
                  have HSS3 : Hid (startS (vs.drop (k + 1)) (L.put 3 rest) (vl ++ [n0]) true = res) := by show _ = _; rw [← HSS2.out, had, hbd]; simp
                  clear HSS HSS2
                  go_wp2_with fail
                  go_meet
                  case rel => exact ⟨n0, true, _, rfl, rfl, HSS3, HMK5, HST5⟩
                · have hbd : decide (hi < n0) = false := decide_eq_false hb
                  have HSS3 : Hid (startS (vs.drop (k + 1)) (L.put 3 rest) (vl ++ [n0]) false = res) := by show _ = _; rw [← HSS2.out, had, hbd]; simp
                  clear HSS HSS2
                  go_wp2_with fail
                  go_meet
                  case rel => exact ⟨n0, false, _, rfl, rfl, HSS3, HMK5, HST5⟩
      case rest =>
        clear HMK3 HST3 HQ3 HSS m1 m2 m3 m4
        obtain ⟨n, o2, L2, rfl, rfl, HSS2, HMK5, HST5⟩ := hcut
        obtain ⟨i0, hi0, hz0, hzz1, hz2⟩ := info_parts infoI
        have HIN := Lib.hid (And.intro hi0 (And.intro hz0 (And.intro hzz1 hz2)))
        have p3 := HMK5.out.cs.at 3 _ rfl
        have pf3 := HMK5.out.cs.free 3
        have hpl := HMK5.out.cs.lt
        have HWA := Lib.hid ((Below.refl wc.heap.size wc).alloc (Nat.le_refl _) (.cells #[.int .i64 n] 3))
        have HMK6 := Lib.hid (HMK5.out.below HWA.out)
        have HRW : Hid ((wc.alloc (.cells #[.int .i64 n] 3)).ownsRow w.heap.size 3 1 (.slice Ax k cx) k (iv vl)) := by
          show World.ownsRow _ _ _ _ _ _ _
          have := HMK6.out.v
          rw [HVD.out] at this
          exact this
        clear hi0 hz0 hzz1 hz2
        go_wp2_with (at_builtin; (refine wpList_append_lies _ rfl _ _ 27 rfl w.heap.size 3 i0 (.int .i64 0) 1 8 Tryz.underlying27 HIN.out.1 HIN.out.2.1 HIN.out.2.2.1 HIN.out.2.2.2 rfl (by decide) _ k (iv vl) rfl HRW.out ⟨wc.heap.size, 0, none⟩ 1 1 [.int .i64 n] rfl rfl (World.news_of_block (cs := #[.int .i64 n]) (t := 3) (fr := (0, 0)) (heap_alloc_new wc _)) (by simp [Value.oneCell']) (by decide) (by unfold maxLen; omega) (by omega) HMK6.out.B_le (wc.heap.size + 1) (by simp) ?_; intro gg cap w6 hown hgrow hat hlt6; have HHA : Hid ((Value.slice Ax k cx).ownBlock = some gg ∨ gg = wc.heap.size + 1) := hat; have HGR : Hid ((wc.alloc (.cells #[.int .i64 n] 3)).grownBy w6 (Value.slice Ax k cx).ownBlock) := hgrow; have hfr := Fr.of_grown HGR.out; have hc6 := HMK6.out.cs.fr hfr HMK6.out.vp; have p3x := hc6.at 3 _ rfl; have pf3x := hc6.free 3; have hplx := hc6.lt; have HFR := Lib.hid hfr; have HOW := Lib.hid hown; clear hfr hc6 hown hgrow hat p3 pf3 hpl))
        have hob : (.slice (some ⟨gg, 0, none⟩) (k + 1) cap : Value).ownBlock = (.slice Ax k cx : Value).ownBlock ∨ (.slice (some ⟨gg, 0, none⟩) (k + 1) cap : Value).ownBlock = some (wc.alloc (.cells #[.int .i64 n] 3)).heap.size := by
          rcases HHA.out with h | h
          · exact .inl (by rw [h]; rfl)
          · exact .inr (by rw [h]; simp [Value.ownBlock])
        have HMK7 := Lib.hid (HMK6.out.vapp (n := n) (by rw [HVD.out]; exact HOW.out) HGR.out hob)
        have hsl : p + 1 < wc.heap.size := by obtain ⟨_, _, _, _, _, _, _, _, _, h, _⟩ := HST5.out.lf; exact h.lt
        have HAP7 : Hid (apart (.slice (some ⟨gg, 0, none⟩) (k + 1) cap) (p + 1) ∧ apart (.slice (some ⟨gg, 0, none⟩) (k + 1) cap) w.heap.size) := by
          have hpf := HPF.out
          have key : ∀ b, b < wc.heap.size → apart (.slice Ax k cx) b → apart (.slice (some ⟨gg, 0, none⟩) (k + 1) cap) b := fun b hb ha e => by
            rcases hob with h | h
            · exact ha (h ▸ e)
            · rw [h] at e; injection e with e; simp at e; omega
          exact ⟨key _ hsl HAP.out.1, key _ (by omega) HAP.out.2⟩
        have HST7 : Hid (Step1 w (w6.setCell ⟨p, 3, none⟩ (.slice (some ⟨gg, 0, none⟩) (k + 1) cap)) (p + 1) w.heap.size p [.slice (some ⟨gv, fv, none⟩) lv cv, .slice Ag lg cg, .slice Ay ly cy] L2) := Lib.hid ⟨HST5.out.lf.map (fun _ h => ((h.next HWA.out).fr HFR.out HAP.out.1).other (p := ⟨p, 3, none⟩) (by simp) _), ((HST5.out.fb.next HWA.out).fr HFR.out HAP.out.2).other (p := ⟨p, 3, none⟩) (by simp only [ne_eq]; have := HPF.out; omega) _, (HFR.out.below (HST5.out.low.trans (HWA.out.mono HST5.out.low.size)) (fun b hb => (HRW.out.lt b hb).1) (by have := HST5.out.low.size; simp; omega)).setCell (p := ⟨p, 3, none⟩) (by simp only; have := HPF.out; omega) _⟩
        have HVD7 : Hid ((vl ++ [n]).length = k + 1) := by show _ = _; rw [List.length_append, HVD.out]; rfl
        clear hob hsl HMK5 HMK6 HST5 HWA HRW HAP HFR HHA HOW HGR HVD
        go_wp2_with fail
        go_roundw
        case rel => exact ⟨k + 1, vl ++ [n], o2, L2, some ⟨gg, 0, none⟩, cap, by omega, by go_num, rfl, HSS2, HVD7, HMK7, HST7, HAP7⟩
        case measure => simp [intOf]; omega
    · obtain rfl : k = lv := by omega
      have hres : res = some (L, vl, o) := by rw [← HSS.out, List.drop_of_length_le (by rw [HVL.out]; exact Nat.le_refl _), startS]
      have HEND : Hid ((if L.s ≠ [] ∨ L.p ≠ [] ∨ L.r ≠ [] then ((1, []) : Int × List Int) else if o = true then (3, []) else (0, vl)) = (r, vals)) := by
        show _ = _
        have := HSP.out
        unfold startP at this
        rw [HRES.out, hres] at this
        exact this
      obtain ⟨A1, l1, c1, A2, l2, c2, A3, l3, c3, hcs, hz1, hz2, hz3⟩ := HST.out.lf
      have HZ1 := Lib.hid hz1
      have HZ2 := Lib.hid hz2
      have HZ3 := Lib.hid hz3
      have e0 := hcs.at 0 _ rfl
      have e1 := hcs.at 1 _ rfl
      have e2 := hcs.at 2 _ rfl
      have e3 := hcs.at 3 _ rfl
      have ix0 : ∀ wx : World, (Instr.index 89 (.agg #[.slice none 0 0, .slice A1 l1 c1, .slice A2 l2 c2, .slice A3 l3 c3]) (.int .i64 0)).run Tryz.prog wx = .ok (.slice none 0 0) wx := fun _ => by kernel_rfl
      have ix1 : ∀ wx : World, (Instr.index 89 (.agg #[.slice none 0 0, .slice A1 l1 c1, .slice A2 l2 c2, .slice A3 l3 c3]) (.int .i64 1)).run Tryz.prog wx = .ok (.slice A1 l1 c1) wx := fun _ => by kernel_rfl
      have ix2 : ∀ wx : World, (Instr.index 89 (.agg #[.slice none 0 0, .slice A1 l1 c1, .slice A2 l2 c2, .slice A3 l3 c3]) (.int .i64 2)).run Tryz.prog wx = .ok (.slice A2 l2 c2) wx := fun _ => by kernel_rfl
      have ix3 : ∀ wx : World, (Instr.index 89 (.agg #[.slice none 0 0, .slice A1 l1 c1, .slice A2 l2 c2, .slice A3 l3 c3]) (.int .i64 3)).run Tryz.prog wx = .ok (.slice A3 l3 c3) wx := fun _ => by kernel_rfl
      have HRS2 := Lib.hid hres
      clear hcs hz1 hz2 hz3 hres HSS HSP
      go_upto_region 20 with fail
      clear e0 e1 e2 e3
      obtain ⟨wo, rfl⟩ : ∃ wo : World, wo = wr := ⟨_, rfl⟩
      go_loopw [89] (fun v wx => ∃ j : Nat, j ≤ 4 ∧ v = .int .i64 j ∧ Hid (wx = wo) ∧ Hid ((1 < j → l1 = 0) ∧ (2 < j → l2 = 0) ∧ (3 < j → l3 = 0))) (fun v _ => 4 - (intOf v).toNat)
      case atStart => exact ⟨0, by omega, rfl, Lib.hid rfl, Lib.hid ⟨fun h => absurd h (by omega), fun h => absurd h (by omega), fun h => absurd h (by omega)⟩⟩
      case round =>
        obtain ⟨j, hj, rfl, HWX, HE⟩ := hrel
        have hww : wr = wo := HWX.out
        subst hww
        clear HWX
        obtain rfl | rfl | rfl | rfl | rfl : j = 0 ∨ j = 1 ∨ j = 2 ∨ j = 3 ∨ j = 4 := by omega
        · clear ix1 ix2 ix3
          go_wp2_with fail
          go_roundw
          case rel => exact ⟨0 + 1, by omega, by go_num, trivial, Lib.hid ⟨fun h => absurd h (by omega), fun h => absurd h (by omega), fun h => absurd h (by omega)⟩⟩
          case measure => simp [intOf]
        · clear ix0 ix2 ix3
          by_cases h0 : l1 = 0
          · have hnp : ¬ 0 < l1 := by omega
            have hnp' : ¬ (0 : Int) < (l1 : Int) := by omega
            have H0 := Lib.hid h0
            clear h0
            go_wp2_with fail
            go_roundw
            case rel => exact ⟨1 + 1, by omega, by go_num, trivial, Lib.hid ⟨fun _ => H0.out, fun h => absurd h (by omega), fun h => absurd h (by omega)⟩⟩
            case measure => simp [intOf]
          · have hpos : 0 < l1 := by omega
            have hpos' : (0 : Int) < (l1 : Int) := by omega
            have hne : L.s ≠ [] := fun e => h0 (by have h1 := HZ1.out.len; rw [e] at h1; exact h1.symm)
            have hr : r = 1 := by have := HEND.out; rw [if_pos (.inl hne)] at this; injection this with h1 h2; exact h1.symm
            subst hr
            clear hne HEND h0
            go_wp2_with fail
            go_ret2
            exact ⟨HST.out.low, .inl ⟨by decide, rfl⟩⟩
        · clear ix0 ix1 ix3
          by_cases h0 : l2 = 0
          · have hnp : ¬ 0 < l2 := by omega
            have hnp' : ¬ (0 : Int) < (l2 : Int) := by omega
            have H0 := Lib.hid h0
            clear h0
            go_wp2_with fail
            go_roundw
            case rel => exact ⟨2 + 1, by omega, by go_num, trivial, Lib.hid ⟨fun _ => HE.out.1 (by omega), fun _ => H0.out, fun h => absurd h (by omega)⟩⟩
            case measure => simp [intOf]
          · have hpos : 0 < l2 := by omega
            have hpos' : (0 : Int) < (l2 : Int) := by omega
            have hne : L.p ≠ [] := fun e => h0 (by have h1 := HZ2.out.len; rw [e] at h1; exact h1.symm)
            have hr : r = 1 := by have := HEND.out; rw [if_pos (.inr <| .inl hne)] at this; injection this with h1 h2; exact h1.symm
            subst hr
            clear hne HEND h0
            go_wp2_with fail
            go_ret2
            exact ⟨HST.out.low, .inl ⟨by decide, rfl⟩⟩
        · clear ix0 ix1 ix2
          by_cases h0 : l3 = 0
          · have hnp : ¬ 0 < l3 := by omega
            have hnp' : ¬ (0 : Int) < (l3 : Int) := by omega
            have H0 := Lib.hid h0
            clear h0
            go_wp2_with fail
            go_roundw
            case rel => exact ⟨3 + 1, by omega, by go_num, trivial, Lib.hid ⟨fun _ => HE.out.1 (by omega), fun _ => HE.out.2.1 (by omega), fun _ => H0.out⟩⟩
            case measure => simp [intOf]
          · have hpos : 0 < l3 := by omega
            have hpos' : (0 : Int) < (l3 : Int) := by omega
            have hne : L.r ≠ [] := fun e => h0 (by have h1 := HZ3.out.len; rw [e] at h1; exact h1.symm)
            have hr : r = 1 := by have := HEND.out; rw [if_pos (.inr <| .inr hne)] at this; injection this with h1 h2; exact h1.symm
            subst hr
            clear hne HEND h0
            go_wp2_with fail
            go_ret2
            exact ⟨HST.out.low, .inl ⟨by decide, rfl⟩⟩
        · clear ix0 ix1 ix2 ix3
          rw [show ((4 : Nat) : Int) = 4 from rfl]
          have hl1 : L.s = [] := by have h1 := HZ1.out.len; rw [HE.out.1 (by omega)] at h1; exact List.length_eq_zero_iff.1 h1
          have hl2 : L.p = [] := by have h1 := HZ2.out.len; rw [HE.out.2.1 (by omega)] at h1; exact List.length_eq_zero_iff.1 h1
          have hl3 : L.r = [] := by have h1 := HZ3.out.len; rw [HE.out.2.2 (by omega)] at h1; exact List.length_eq_zero_iff.1 h1
          have HEN2 : Hid ((if o = true then ((3, []) : Int × List Int) else (0, vl)) = (r, vals)) := by
            show _ = _
            have := HEND.out
            rwa [if_neg (by rintro (h | h | h); exact h hl1; exact h hl2; exact h hl3)] at this
          have HLL := Lib.hid (And.intro hl1 (And.intro hl2 hl3))
          clear HEND hl1 hl2 hl3 HZ1 HZ2 HZ3 HE
          cases o with
          | true =>
            have hr : r = 3 := by have := HEN2.out; rw [if_pos rfl] at this; injection this with h1 h2; exact h1.symm
            subst hr
            clear HEN2
            go_wp2_with fail
            go_ret2
            exact ⟨HST.out.low, .inl ⟨by decide, rfl⟩⟩
          | false =>
            have hrv : r = 0 ∧ vl = vals := by have := HEN2.out; rw [if_neg (by decide)] at this; injection this with h1 h2; exact ⟨h1.symm, h2⟩
            obtain ⟨rfl, rfl⟩ := hrv
            have HOK : Hid (valOk vs vl) := Lib.hid (startP_ok HVC.out.1 (by unfold startP; rw [HRES.out, HRS2.out]; simp only; rw [if_neg (by rintro (h | h | h); exact h HLL.out.1; exact h HLL.out.2.1; exact h HLL.out.2.2), if_neg (by decide)]))
            clear HEN2
            have n1 := HST.out.fb.at 1 _ rfl
            have HMK0 : Hid (Mk 3 w.heap.size p (.slice Av k cv) (.slice Ag lg cg) (.slice Ay ly cy) (.slice Ax k cx) (.slice none 0 0) (hatV vl (hs.take 0)) wr (.slice none 0 0) ⟨vl, [], 0⟩) := Lib.hid (by rw [List.take_zero]; exact HMK.out)
            have HLOW0 := Lib.hid HST.out.low
            go_upto_region 28 with fail
            clear n1
            obtain ⟨wu, rfl⟩ : ∃ wu : World, wu = wr := ⟨_, rfl⟩
            go_loopw [100] (fun v wr => ∃ (k3 : Nat) (Ah : Option Addr) (ch : Nat), k3 ≤ lg ∧ v = .int .i64 k3 ∧ Hid (Mk 3 w.heap.size p (.slice Av k cv) (.slice Ag lg cg) (.slice Ay ly cy) (.slice Ax k cx) (.slice Ah k3 ch) (hatV vl (hs.take k3)) wr (.slice none 0 0) ⟨vl, [], 0⟩) ∧ Hid (Below w.heap.size w wr)) (fun v _ => lg - (intOf v).toNat)
            case atStart => exact ⟨0, none, 0, by omega, rfl, HMK0, HLOW0⟩
            case round =>
              clear HMK0 HLOW0 HMK HST
              obtain ⟨k3, Ah, ch, hk3, rfl, HMK, HLOW⟩ := hrel
              by_cases hlt3 : k3 < lg
              · obtain ⟨hs_, lo, hi, o, n, kk, gh, fh, At, ct, hx, hsz, hA, hgh, k0, k1, k2, k4, k5, k6, htk⟩ := (HHS.out.below HLOW.out).at k3 hlt3
                subst hA
                obtain ⟨lt, hlt1⟩ : ∃ l, kk.length = l := ⟨_, rfl⟩
                rw [hlt1] at k6
                have hfz := hatsC_zero HVC.out.2 hx
                have hht := hatV_take vl hx
                simp only at hfz hht
                obtain ⟨v1, hv1⟩ : ∃ z, valueP vl (.mk o n kk) = z := ⟨_, rfl⟩
                obtain ⟨v2, hv2⟩ : ∃ z, clampP v1 lo hi = z := ⟨_, rfl⟩
                rw [hv1, hv2] at hht
                have HHT := Lib.hid hht
                have HV1 := Lib.hid hv1
                have HV2 := Lib.hid hv2
                have HFM := Lib.hid hfz.1
                have HRG := Lib.hid hfz.2
                have HLT1 := Lib.hid hlt1
                have hlt3' : (k3 : Int) < (lg : Int) := by omega
                have hba := (Below.refl wr.heap.size wr).alloc (Nat.le_refl _) (.cells #[.string hs_, .int .i64 lo, .int .i64 hi, .int .i64 o, .int .i64 n, .slice At lt ct] 62)
                have HMK3 := Lib.hid (HMK.out.below hba)
                have HLOW3 := Lib.hid (HLOW.out.trans (hba.mono HLOW.out.size))
                have HTK := Lib.hid (htk.below hba)
                have HQ3 := Lib.hid (Cs.new wr #[.string hs_, .int .i64 lo, .int .i64 hi, .int .i64 o, .int .i64 n, .slice At lt ct] 62)
                have QN : apart (.slice Ah k3 ch) wr.heap.size := row_apart HMK.out.h (.inr (Nat.le_refl _))
                clear hx hsz hlt1 hfz hht hv1 hv2 htk hba HMK HLOW
                go_upto_region 30 with fail
                obtain ⟨w4, hw4⟩ : ∃ w4, wr.alloc (.cells #[.string hs_, .int .i64 lo, .int .i64 hi, .int .i64 o, .int .i64 n, .slice At lt ct] 62) = w4 := ⟨_, rfl⟩
                obtain ⟨q, hq⟩ : ∃ q, wr.heap.size = q := ⟨_, rfl⟩
                rw [hw4] at HMK3 HLOW3 HTK HQ3
                rw [hq] at HQ3 QN
                rw [hw4, hq]
                clear hw4 hq k0 k1 k2 k4 k5 k6
                obtain ⟨i0, hi0, hz0, hzz1, hz2⟩ := info_parts infoI
                have HIN := Lib.hid (And.intro hi0 (And.intro hz0 (And.intro hzz1 hz2)))
                clear hi0 hz0 hzz1 hz2
                have KP : Hid (∀ W, Below w4.heap.size w4 W → (W.cell? ⟨p, 4, none⟩ = some (.slice Ah k3 ch) ∧ W.cell? ⟨p, 3, none⟩ = some (.slice Ax k cx) ∧ W.cell? ⟨q, 1, none⟩ = some (.int .i64 lo) ∧ W.cell? ⟨q, 2, none⟩ = some (.int .i64 hi) ∧ W.cell? ⟨q, 3, none⟩ = some (.int .i64 o) ∧ W.cell? ⟨q, 4, none⟩ = some (.int .i64 n) ∧ W.cell? ⟨q, 5, none⟩ = some (.slice At lt ct))) := fun W h => ⟨(HMK3.out.cs.next h).at 4 _ rfl, (HMK3.out.cs.next h).at 3 _ rfl, (HQ3.out.next h).at 1 _ rfl, (HQ3.out.next h).at 2 _ rfl, (HQ3.out.next h).at 3 _ rfl, (HQ3.out.next h).at 4 _ rfl, (HQ3.out.next h).at 5 _ rfl⟩
                have HD0 := Lib.hid (Below.refl w4.heap.size w4).drew
                have HS0 := KP.out _ HD0.out
                have HZV : Hid (Zs w4 Ax k cx vl) := Lib.hid (Zs.of_row HMK3.out.v)
                have HKL : Hid ((hatV vl (hs.take k3)).length = k3) := Lib.hid (by rw [hatV, List.length_map, List.length_take, HHL.out]; omega)
                refine wp_region_x (fun W => W.cell? ⟨p, 4, none⟩ = some (.slice Ah k3 ch) ∧ W.cell? ⟨p, 3, none⟩ = some (.slice Ax k cx) ∧ W.cell? ⟨q, 1, none⟩ = some (.int .i64 lo) ∧ W.cell? ⟨q, 2, none⟩ = some (.int .i64 hi) ∧ W.cell? ⟨q, 3, none⟩ = some (.int .i64 o) ∧ W.cell? ⟨q, 4, none⟩ = some (.int .i64 n) ∧ W.cell? ⟨q, 5, none⟩ = some (.slice At lt ct)) 19 (by kernel_rfl) ?_
                refine wpAnyX_take 0 (v := ?v0) rfl (by kernel_rfl) (by kernel_rfl) (by kernel_rfl) (by kernel_rfl) (fun _ _ _ h => h) HS0 (Or.inl ⟨by rfl, ?y0⟩) ?r0
                case y0 =>
                  intro wq hSq
                  obtain ⟨s1, s2, s3, s4, s5, s6, s7⟩ := hSq
                  go_simp
                  try with_reducible rfl
                try simp only [Act.put, List.setIfInBounds_toArray]
                refine wpAnyX_take 1 (v := ?v1) rfl (by kernel_rfl) (by kernel_rfl) (by kernel_rfl) (by kernel_rfl) (fun _ _ _ h => h) HS0 (Or.inl ⟨by rfl, ?y1⟩) ?r1
                case y1 =>
                  intro wq hSq
                  obtain ⟨s1, s2, s3, s4, s5, s6, s7⟩ := hSq
                  go_simp
                  try with_reducible rfl
                try simp only [Act.put]
                refine wpAnyX_take 2 (v := ?v2) rfl (by kernel_rfl) (by kernel_rfl) (by kernel_rfl) (by kernel_rfl) (fun _ _ _ h => h) HS0 (Or.inl ⟨by rfl, ?y2⟩) ?r2
                case y2 =>
                  intro wq hSq
                  obtain ⟨s1, s2, s3, s4, s5, s6, s7⟩ := hSq
                  go_simp
                  try with_reducible rfl
                try simp only [Act.put]
                refine wpAnyX_take 3 (v := ?v3) rfl (by kernel_rfl) (by kernel_rfl) (by kernel_rfl) (by kernel_rfl) (fun _ _ _ h => h) HS0 (Or.inl ⟨by rfl, ?y3⟩) ?r3
                case y3 =>
                  intro wq hSq
                  obtain ⟨s1, s2, s3, s4, s5, s6, s7⟩ := hSq
                  go_simp
                  try with_reducible rfl
                try simp only [Act.put]
                refine wpAnyX_take 4 (v := ?v4) rfl (by kernel_rfl) (by kernel_rfl) (by kernel_rfl) (by kernel_rfl) (fun _ _ _ h => h) HS0 (Or.inl ⟨by rfl, ?y4⟩) ?r4
                case y4 =>
                  intro wq hSq
                  obtain ⟨s1, s2, s3, s4, s5, s6, s7⟩ := hSq
                  go_simp
                  try with_reducible rfl
                try simp only [Act.put]
                refine wpAnyX_take 5 (v := ?v5) rfl (by kernel_rfl) (by kernel_rfl) (by kernel_rfl) (by kernel_rfl) (fun _ _ _ h => h) HS0 (Or.inl ⟨by rfl, ?y5⟩) ?r5
                case y5 =>
                  intro wq hSq
                  obtain ⟨s1, s2, s3, s4, s5, s6, s7⟩ := hSq
                  go_simp
                  try with_reducible rfl
                try simp only [Act.put]
                refine wpAnyX_take 6 (v := ?v6) rfl (by kernel_rfl) (by kernel_rfl) (by kernel_rfl) (by kernel_rfl) (fun _ _ _ h => h) HS0 (Or.inl ⟨by rfl, ?y6⟩) ?r6
                case y6 =>
                  intro wq hSq
                  obtain ⟨s1, s2, s3, s4, s5, s6, s7⟩ := hSq
                  go_simp
                  try with_reducible rfl
                try simp only [Act.put]
                refine wpAnyX_take 7 (v := ?v7) rfl (by kernel_rfl) (by kernel_rfl) (by kernel_rfl) (by kernel_rfl) (fun _ _ _ h => h) HS0 (Or.inl ⟨by rfl, ?y7⟩) ?r7
                case y7 =>
                  intro wq hSq
                  obtain ⟨s1, s2, s3, s4, s5, s6, s7⟩ := hSq
                  go_simp
                  try with_reducible rfl
                try simp only [Act.put]
                refine wpAnyX_take 8 (v := ?v8) rfl (by kernel_rfl) (by kernel_rfl) (by kernel_rfl) (by kernel_rfl) (fun _ _ _ h => h) HS0 (Or.inl ⟨by rfl, ?y8⟩) ?r8
                case y8 =>
                  intro wq hSq
                  obtain ⟨s1, s2, s3, s4, s5, s6, s7⟩ := hSq
                  go_simp
                  try with_reducible rfl
                try simp only [Act.put]
                refine wpAnyX_take 9 (v := ?v9) rfl (by kernel_rfl) (by kernel_rfl) (by kernel_rfl) (by kernel_rfl) (fun _ _ _ h => h) HS0 (Or.inl ⟨by rfl, ?y9⟩) ?r9
                case y9 =>
                  intro wq hSq
                  obtain ⟨s1, s2, s3, s4, s5, s6, s7⟩ := hSq
                  go_simp
                  try with_reducible rfl
                try simp only [Act.put]
                refine wpAnyX_take 10 (v := ?v10) rfl (by kernel_rfl) (by kernel_rfl) (by kernel_rfl) (by kernel_rfl) (fun _ _ _ h => h) HS0 (Or.inl ⟨by rfl, ?y10⟩) ?r10
                case y10 =>
                  intro wq hSq
                  obtain ⟨s1, s2, s3, s4, s5, s6, s7⟩ := hSq
                  go_simp
                  try with_reducible rfl
                try simp only [Act.put]
                refine wpAnyX_take 12 (v := ?v12) rfl (by kernel_rfl) (by kernel_rfl) (by kernel_rfl) (by kernel_rfl) (fun _ _ _ h => h) HS0 (Or.inl ⟨by rfl, ?y12⟩) ?r12
                case y12 =>
                  intro wq hSq
                  obtain ⟨s1, s2, s3, s4, s5, s6, s7⟩ := hSq
                  go_simp
                  try with_reducible rfl
                try simp only [Act.put]
                refine wpAnyX_take 13 (v := ?v13) rfl (by kernel_rfl) (by kernel_rfl) (by kernel_rfl) (by kernel_rfl) (fun _ _ _ h => h) HS0 (Or.inl ⟨by rfl, ?y13⟩) ?r13
                case y13 =>
                  intro wq hSq
                  obtain ⟨s1, s2, s3, s4, s5, s6, s7⟩ := hSq
                  go_simp
                  try with_reducible rfl
                try simp only [Act.put]
                refine wpAnyX_take 14 (v := ?v14) rfl (by kernel_rfl) (by kernel_rfl) (by kernel_rfl) (by kernel_rfl) (fun _ _ _ h => h) HS0 (Or.inl ⟨by rfl, ?y14⟩) ?r14
                case y14 =>
                  intro wq hSq
                  obtain ⟨s1, s2, s3, s4, s5, s6, s7⟩ := hSq
                  go_simp
                  try with_reducible rfl
                try simp only [Act.put]
                refine wpAnyX_take 15 (v := ?v15) rfl (by kernel_rfl) (by kernel_rfl) (by kernel_rfl) (by kernel_rfl) (fun _ _ _ h => h) HS0 (Or.inl ⟨by rfl, ?y15⟩) ?r15
                case y15 =>
                  intro wq hSq
                  obtain ⟨s1, s2, s3, s4, s5, s6, s7⟩ := hSq
                  go_simp
                  try with_reducible rfl
                try simp only [Act.put]
                clear HS0
                refine wpAnyX_one 11 (by kernel_rfl) rfl (fun K hK => ?_)
                go_simp
                go_at_call 41
                refine (value_any vs (varsC_B HVC.out.1) true vl HOK.out Ax k cx (Tm.cnt (.mk o n kk)) o n kk lt At ct _ v1 HLT1.out (Nat.le_refl _) (HTK.out.below (Below.refl _ _).drew) (HZV.out.below (Below.refl _ _).drew) HFM HRG HV1).mono ?_
                rintro e w5 ⟨rfl, hb1⟩
                have HD1 := Lib.hid (HD0.out.trans (hb1.mono HD0.out.size))
                clear hb1
                refine hK _ _ (fun _ => KP.out _ HD1.out) ?_
                clear hK K HD0
                try simp only [Act.put]
                refine wpAnyX_one 16 (by kernel_rfl) rfl (fun K hK => ?_)
                go_simp
                go_at_call 40
                refine (clamp_b v1 lo hi v2 HV2 _).mono ?_
                rintro e w6 ⟨rfl, rfl⟩
                refine hK _ _ (fun _ => KP.out _ HD1.out) ?_
                clear hK K
                try simp only [Act.put]
                refine wpAnyX_one 17 (by kernel_rfl) rfl (fun K hK => ?_)
                go_simp
                have HD2 := Lib.hid (HD1.out.alloc HD1.out.size (.cells #[.int .i64 v2] 3))
                refine hK _ _ (fun _ => KP.out _ HD2.out) ?_
                clear hK K
                try simp only [Act.put]
                have HMK6 := Lib.hid (HMK3.out.below HD2.out)
                have HRW : Hid ((w5.alloc (.cells #[.int .i64 v2] 3)).ownsRow w.heap.size 3 1 (.slice Ah k3 ch) k3 (iv (hatV vl (hs.take k3)))) := by
                  show World.ownsRow _ _ _ _ _ _ _
                  have := HMK6.out.h
                  rw [HKL.out] at this
                  exact this
                refine wpAnyX_one 18 (by kernel_rfl) rfl (fun K hK => ?_)
                refine step_append_lies _ (by rfl) _ _ _ (by rfl) w.heap.size 3 i0 (.int .i64 0) 1 8 Tryz.underlying27 HIN.out.1 HIN.out.2.1 HIN.out.2.2.1 HIN.out.2.2.2 rfl (by decide) (.slice Ah k3 ch) k3 (iv (hatV vl (hs.take k3))) (by rfl) HRW.out ⟨w5.heap.size, 0, none⟩ 1 1 [.int .i64 v2] (by rfl) (by rfl) (World.news_of_block (cs := #[.int .i64 v2]) (t := 3) (fr := (0, 0)) (heap_alloc_new w5 _)) (by simp [Value.oneCell']) (by decide) (by unfold maxLen; omega) (by omega) HMK6.out.B_le (w5.heap.size + 1) (by simp) ?_
                intro gg cap w7 hown hgrow hat hlt7
                have hfr := Fr.of_grown hgrow
                have hc7 := HMK6.out.cs.fr hfr HMK6.out.hp
                have hq7 := (HQ3.out.next HD2.out).fr hfr (fun e => QN e)
                refine hK _ _ (fun _ => ⟨hc7.at 4 _ rfl, hc7.at 3 _ rfl, hq7.at 1 _ rfl, hq7.at 2 _ rfl, hq7.at 3 _ rfl, hq7.at 4 _ rfl, hq7.at 5 _ rfl⟩) ?_
                clear hK K
                try simp only [Act.put]
                refine wpAnyX_one 19 (by kernel_rfl) rfl (fun K hK => ?_)
                go_simp
                refine hK _ _ (fun h => absurd h (by decide)) ?_
                clear hK K
                try simp only [Act.put]
                refine wpAnyX_one 20 (by kernel_rfl) rfl (fun K hK => ?_)
                go_simp
                refine hK _ _ (fun h => absurd h (by decide)) ?_
                clear hK K
                try simp only [Act.put]
                have p4 := hc7.at 4 _ rfl
                have pf4 := hc7.free 4
                refine wpAnyX_one 21 (by kernel_rfl) rfl (fun K hK => ?_)
                go_simp
                refine hK _ _ (fun h => absurd h (by decide)) ?_
                clear hK K
                refine wpAnyX_done (by kernel_rfl) ?_ _
                have hob : (.slice (some ⟨gg, 0, none⟩) (k3 + 1) cap : Value).ownBlock = (.slice Ah k3 ch : Value).ownBlock ∨ (.slice (some ⟨gg, 0, none⟩) (k3 + 1) cap : Value).ownBlock = some (w5.alloc (.cells #[.int .i64 v2] 3)).heap.size := by
                  rcases hat with h | h
                  · exact .inl (by rw [h]; rfl)
                  · exact .inr (by rw [h]; simp [Value.ownBlock])
                have HMK8 : Hid (Mk 3 w.heap.size p (.slice Av k cv) (.slice (some ⟨gh, fh, none⟩) lg cg) (.slice Ay ly cy) (.slice Ax k cx) (.slice (some ⟨gg, 0, none⟩) (k3 + 1) cap) (hatV vl (hs.take (k3 + 1))) (w7.setCell ⟨p, 4, none⟩ (.slice (some ⟨gg, 0, none⟩) (k3 + 1) cap)) (.slice none 0 0) ⟨vl, [], 0⟩) := by
                  show Mk _ _ _ _ _ _ _ _ _ _ _ _
                  have := HMK6.out.happ (n := v2) (by rw [HKL.out]; exact hown) hgrow hob
                  rw [← HHT.out] at this
                  exact this
                have HLOW8 : Hid (Below w.heap.size w (w7.setCell ⟨p, 4, none⟩ (.slice (some ⟨gg, 0, none⟩) (k3 + 1) cap))) := Lib.hid ((hfr.below (HLOW3.out.trans (HD2.out.mono HLOW3.out.size)) (fun b hb => (HRW.out.lt b hb).1) HMK6.out.B_le).setCell (p := ⟨p, 4, none⟩) (Nat.le_of_lt HPF.out) _)
                clear hown hgrow hat hlt7 hfr hc7 hq7 hob p4 pf4 HMK6 HRW HD1 HD2 HMK3 HLOW3 KP HQ3 HKL HZV
                go_wp2_with fail
                go_roundw
                case rel => exact ⟨k3 + 1, some ⟨gg, 0, none⟩, cap, by omega, by go_num, HMK8, HLOW8⟩
                case measure => simp [intOf]; omega
              · obtain rfl : k3 = lg := by omega
                have HMK9 : Hid (Mk 3 w.heap.size p (.slice Av k cv) (.slice Ag k3 cg) (.slice Ay ly cy) (.slice Ax k cx) (.slice Ah k3 ch) (hatV vl hs) wr (.slice none 0 0) ⟨vl, [], 0⟩) := by
                  show Mk _ _ _ _ _ _ _ _ _ _ _ _
                  have := HMK.out
                  rwa [List.take_of_length_le (by rw [HHL.out]; exact Nat.le_refl _)] at this
                clear HMK
                go_wp2_with fail
                go_ret2
                exact ⟨HLOW.out, .inr ⟨rfl, p, Ax, cx, Ah, ch, rfl, HMK9.out⟩⟩

theorem checkP_zero {vs : List Vr} {hs : List Ht} {ks : List Sp} (h : checkP vs hs ks = 0) : vs.length ≤ 64 ∧ hs.length ≤ 8 ∧ varsC vs = 0 ∧ hatsC vs hs = 0 ∧ stepsC vs hs.length true ks = 0 ∧ upBad (upL ks (0, 0, 0)) = false := by
  unfold checkP at h
  by_cases e0 : 64 < vs.length ∨ 8 < hs.length ∨ overP (hM hs (mS ks 1 (0, false))) = true
  · rw [if_pos e0] at h; cases h
  rw [if_neg e0] at h
  by_cases e1 : varsC vs = 0
  case neg => rw [if_pos e1] at h; exact absurd h e1
  rw [if_neg (by simpa using e1)] at h
  by_cases e2 : hatsC vs hs = 0
  case neg => rw [if_pos e2] at h; exact absurd h e2
  rw [if_neg (by simpa using e2)] at h
  by_cases e3 : stepsC vs hs.length true ks = 0
  case neg => rw [if_pos e3] at h; exact absurd h e3
  rw [if_neg (by simpa using e3)] at h
  refine ⟨by omega, by omega, e1, e2, e3, ?_⟩
  cases hu : upBad (upL ks (0, 0, 0)) with
  | false => rfl
  | true => rw [hu] at h; cases h
theorem startC_zero {vs : List Vr} {hs : List Ht} {ks : List Sp} {L : Lf} {vals : List Int} (h : startC vs hs ks L = (0, vals)) : checkP vs hs ks = 0 ∧ startP vs L = (0, vals) := by
  unfold startC at h
  by_cases e : checkP vs hs ks = 0
  · rw [if_neg (by simpa using e)] at h; exact ⟨e, h⟩
  · rw [if_pos e] at h; injection h with h1 _; exact absurd h1 e
theorem outL_check {vs : List Vr} {hs : List Ht} {ks : List Sp} (h : checkP vs hs ks = 0) : outL ks ≤ 8 := by
  obtain ⟨_, _, _, _, h1, h2⟩ := checkP_zero h
  refine outL_le (stepsC_num ks vs hs.length true h1) ?_
  unfold upBad at h2
  simp only [Bool.or_eq_false_iff, decide_eq_false_iff_not] at h2
  omega
/-- The machine at the end of a run. -/
def endM (vs : List Vr) (hs : List Ht) (ks : List Sp) (vals : List Int) : Ms := runL vs (hatV vals hs) ks ⟨vals, [], 0⟩
/-- What Run hands back. -/
def Ended (w : World) (r : Int) (s : Ms) (e : Ending) (w' : World) : Prop :=
  Below w.heap.size w w' ∧ ((r ≠ 0 ∧ e = .returned (.tuple #[.agg #[.slice none 0 0, .int .i64 0], .int .i64 r])) ∨
    (r = 0 ∧ ∃ (Ao : Option Addr) (co : Nat), e = .returned (.tuple #[.agg #[.slice Ao s.o.length co, .int .i64 s.t], .int .i64 0]) ∧ Zs w' Ao s.o.length co s.o))

set_option maxRecDepth 100000 in
set_option maxHeartbeats 8000000 in
theorem Run_b (vs : List Vr) (hs : List Ht) (ks : List Sp) (Av : Option Addr) (lv cv : Nat) (Ag : Option Addr) (lg cg : Nat) (Ay : Option Addr) (ly cy : Nat) (S P R : List Int) (As : Option Addr) (ls cs : Nat) (Ap : Option Addr) (lp cp : Nat) (Ar : Option Addr) (lr cr : Nat) (w : World) (hv : VOk w Av lv cv vs) (hh : HOk w Ag lg cg hs) (hl : ks.length = ly) (hk : SOk w Ay cy ks) (hlv : lv ≤ 1000) (hbd : hcnt hs + Sp.cntL ks ≤ 90000)
    (hzs : Zs w As ls cs S) (hzp : Zs w Ap lp cp P) (hzr : Zs w Ar lr cr R) (r : Int) (s : Ms) (vals : List Int) (H : Hid (startC vs hs ks ⟨S, P, R⟩ = (r, vals))) (HE : Hid (endM vs hs ks vals = s)) :
    Calls Tryz.prog 7 #[.agg #[.slice Av lv cv, .slice Ag lg cg, .slice Ay ly cy], .agg #[.slice As ls cs, .slice Ap lp cp, .slice Ar lr cr]] w (Ended w r s) := by
  have HV := Lib.hid hv
  have HHS := Lib.hid hh
  have HK := Lib.hid hk
  have HL := Lib.hid hl
  have HHL := Lib.hid hh.len
  have HBD := Lib.hid hbd
  have HZS := Lib.hid hzs
  have HZP := Lib.hid hzp
  have HZR := Lib.hid hzr
  have hb1 := (Below.refl w.heap.size w).alloc (Nat.le_refl _) (.cells #[.slice Av lv cv, .slice Ag lg cg, .slice Ay ly cy] 26)
  have hb2 := hb1.alloc hb1.size (.cells #[.slice As ls cs, .slice Ap lp cp, .slice Ar lr cr] 29)
  have HB := Lib.hid (hb2.alloc hb2.size (.cells #[.slice none 0 0, .int .i64 0] 33))
  have HC := Lib.hid (((Cs.new w #[.slice Av lv cv, .slice Ag lg cg, .slice Ay ly cy] 26).alloc (.cells #[.slice As ls cs, .slice Ap lp cp, .slice Ar lr cr] 29)).alloc (.cells #[.slice none 0 0, .int .i64 0] 33))
  have HI := Lib.hid ((Cs.new1 w (.cells #[.slice Av lv cv, .slice Ag lg cg, .slice Ay ly cy] 26) #[.slice As ls cs, .slice Ap lp cp, .slice Ar lr cr] 29).alloc (.cells #[.slice none 0 0, .int .i64 0] 33))
  have HO : Hid (Cs (((w.alloc (.cells #[.slice Av lv cv, .slice Ag lg cg, .slice Ay ly cy] 26)).alloc (.cells #[.slice As ls cs, .slice Ap lp cp, .slice Ar lr cr] 29)).alloc (.cells #[.slice none 0 0, .int .i64 0] 33)) (w.heap.size + 1 + 1) [.slice none 0 0, .int .i64 0]) := by
    have h := Cs.new ((w.alloc (.cells #[.slice Av lv cv, .slice Ag lg cg, .slice Ay ly cy] 26)).alloc (.cells #[.slice As ls cs, .slice Ap lp cp, .slice Ar lr cr] 29)) #[.slice none 0 0, .int .i64 0] 33
    simp only [World.size_alloc] at h
    exact h
  clear hv hh hk hl hbd hzs hzp hzr hb1 hb2
  go_enter Tryz.func7, Tryz.ntmps7
  go_upto_region 1 with fail
  obtain ⟨w1, hw1⟩ : ∃ w1, ((w.alloc (.cells #[.slice Av lv cv, .slice Ag lg cg, .slice Ay ly cy] 26)).alloc (.cells #[.slice As ls cs, .slice Ap lp cp, .slice Ar lr cr] 29)).alloc (.cells #[.slice none 0 0, .int .i64 0] 33) = w1 := ⟨_, rfl⟩
  rw [hw1] at HB HC HI HO
  rw [hw1]
  clear hw1
  have n0 := HC.out.at 0 _ rfl
  have n1 := HC.out.at 1 _ rfl
  have n2 := HC.out.at 2 _ rfl
  have i0 := HI.out.at 0 _ rfl
  have i1 := HI.out.at 1 _ rfl
  have i2 := HI.out.at 2 _ rfl
  go_wp2_with fail
  go_at_call 20
  refine (start_b vs hs ks Av lv cv Ag lg cg Ay ly cy S P R As ls cs Ap lp cp Ar lr cr w1 (HV.out.below HB.out) (HHS.out.below HB.out) HL.out (HK.out.below HB.out) hlv HBD.out (HZS.out.below HB.out) (HZP.out.below HB.out) (HZR.out.below HB.out) r vals H).mono ?_
  rintro e w2 ⟨hb, hor⟩
  have HB2 := Lib.hid (HB.out.trans (hb.mono HB.out.size))
  have HC2 := Lib.hid (HC.out.next hb)
  have HO2 := Lib.hid (HO.out.next hb)
  have HBB := Lib.hid hb
  have HOL := Lib.hid HO.out.lt
  clear hb n0 n1 n2 i0 i1 i2 HC HI HO
  have o0 := HO2.out.at 0 _ rfl
  have o1 := HO2.out.at 1 _ rfl
  have of0 := HO2.out.free 0
  have of1 := HO2.out.free 1
  have hol := HO2.out.lt
  rcases hor with ⟨hr, rfl⟩ | ⟨rfl, p, Ax, cx, Ah, ch, rfl, hmk⟩
  · have hbn := bne_of hr
    have HR := Lib.hid hr
    clear hr
    go_wp2_with fail
    have HF := (HO2.out.set 0 (.slice none 0 0) (by simp)).set 1 (.int .i64 0) (by simp)
    have z0 := HF.at 0 _ rfl
    have z1 := HF.at 1 _ rfl
    refine bodyPost_ret (v := .tuple #[.agg #[.slice none 0 0, .int .i64 0], .int .i64 r]) (by simp [results, Tryz.results7, go_sem, z0, z1]) rfl ?_
    exact ⟨(HB2.out.setCell (p := ⟨w.heap.size + 1 + 1, 0, none⟩) (by simp only; omega) _).setCell (p := ⟨w.heap.size + 1 + 1, 1, none⟩) (by simp only; omega) _, .inl ⟨HR.out, rfl⟩⟩
  obtain ⟨hck, hsp⟩ := startC_zero H.out
  obtain ⟨_, _, hvc, _, hst, _⟩ := checkP_zero hck
  have HMK := Lib.hid hmk
  have HVB := varsC_B hvc
  have HOC := outL_check hck
  have HVK := startP_ok hvc hsp
  rw [HHL.out] at hst
  have n2 := HC2.out.at 2 _ rfl
  clear hmk hck hsp
  go_wp2_with fail
  go_at_call 21
  refine (run_any vs HVB Av lv cv Ag lg cg Ay ly cy Ax cx Ah lg ch (hatV vals hs) (by rw [hatV, List.length_map, HHL.out]) p w1 (HV.out.below HB.out) (Sp.cntL ks) ks ly Ay cy w2 (.slice none 0 0) ⟨vals, [], 0⟩ 0 s true HL.out (Nat.le_refl _) (HK.out.below HB.out) HBB.out HMK.out hst ⟨HVK, Nat.le_refl _⟩ (by omega) HE).mono ?_
  rintro e w3 ⟨rfl, O', hw3⟩
  obtain ⟨sv, so, st⟩ := s
  have HW3 := Lib.hid hw3
  have hlow := hw3.low HMK.out HBB.out HBB.out.size
  have HB3 := Lib.hid (HB.out.trans (hlow.mono HB.out.size))
  have HO3 := Lib.hid (hw3.keep HO2.out (fun e => by
    have hol' := HOL.out
    rcases e with e | e | e
    · have := HMK.out.lo; omega
    · have := (HMK.out.v.lt _ e).1; omega
    · simp [Value.ownBlock] at e))
  obtain ⟨Ao, lo', co, hO⟩ : ∃ A l c, O' = .slice A l c := by
    rcases Joins.ownsRow_forms hw3.st.o with ⟨h, _⟩ | ⟨g, cap, h⟩
    · exact ⟨_, _, _, h⟩
    · exact ⟨_, _, _, h⟩
  subst hO
  have hlo : lo' = so.length := by
    rcases Joins.ownsRow_forms hw3.st.o with ⟨h, h0⟩ | ⟨g, cap, h⟩
    · injection h with _ h1 _; rw [h1]; exact h0.symm
    · injection h with _ h1 _
  subst hlo
  have HRO := Lib.hid hw3.st.o
  have p5 := hw3.st.cs.at 5 _ rfl
  have p6 := hw3.st.cs.at 6 _ rfl
  clear hw3 hlow o0 o1 of0 of1 hol n2 HVB HOC HVK hvc hst
  have o0 := HO3.out.at 0 _ rfl
  have o1 := HO3.out.at 1 _ rfl
  have of0 := HO3.out.free 0
  have of1 := HO3.out.free 1
  have hol := HO3.out.lt
  go_upto_region 5 with fail
  go_region
  all_goals
    go_wp2_with fail
    have HF := (((HO3.out.set 0 (.slice Ao so.length co) (by simp)).set 1 (.int .i64 st) (by simp)).drew)
    have z0 := HF.at 0 _ rfl
    have z1 := HF.at 1 _ rfl
    refine bodyPost_ret (v := .tuple #[.agg #[.slice Ao so.length co, .int .i64 st], .int .i64 0]) (by simp [results, Tryz.results7, go_sem, z0, z1]) rfl ?_
    have hap : apart (.slice Ao so.length co) (w.heap.size + 1 + 1) := row_apart HRO.out (.inl HOL.out)
    exact ⟨((HB3.out.setCell (p := ⟨w.heap.size + 1 + 1, 0, none⟩) (by simp only; omega) _).setCell (p := ⟨w.heap.size + 1 + 1, 1, none⟩) (by simp only; omega) _).drew, .inr ⟨rfl, Ao, co, rfl, (Zs.of_row (ownsRow_setCell_other (a := ⟨w.heap.size + 1 + 1, 1, none⟩) (ownsRow_setCell_other (a := ⟨w.heap.size + 1 + 1, 0, none⟩) HRO.out hap _) hap _)).below (Below.refl _ _).drew⟩⟩
end Go.Proofs.YtjpjmoejdkmglaaGreat
