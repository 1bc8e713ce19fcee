/-
  The walk over stepsCode.
-/
import Derived.Test.YtjpjmoejdkmglaaGreatFlV
import Derived.Test.YtjpjmoejdkmglaaGreatFlYa
namespace Go.Proofs.YtjpjmoejdkmglaaGreat
open Go.RowKit

set_option maxRecDepth 100000 in
set_option maxHeartbeats 8000000 in
theorem stepsCode_any (vs : List Vr) (hvb : vB vs) (Av : Option Addr) (lv cv : Nat) (Ag : Option Addr) (lg cg : Nat) (hlg : lg ≤ maxLen) (Ay : Option Addr) (ly cy : Nat) (m : Nat) : ∀ (ks : List Sp) (l : Nat) (A : Option Addr) (c : Nat) (top : Bool) (w : World) (r : Int), ks.length = l → Sp.cntL ks ≤ m → SOk w A c ks → VOk w Av lv cv vs → Hid (stepsC vs lg top ks = r) →
    Calls Tryz.prog 31 #[.agg #[.slice Av lv cv, .slice Ag lg cg, .slice Ay ly cy], .slice A l c, .bool top] w fun e w' => e = .returned (.int .i64 r) ∧ Below w.heap.size w w' := by
  induction m with
  | zero =>
    intro ks l A c top w r hl hm ht hv H
    have hk : ks = [] := by
      cases ks with
      | nil => rfl
      | cons k ks => have := Sp.cnt_pos k; simp only [Sp.cntL] at hm; omega
    subst hk
    have hl0 : l = 0 := hl.symm
    subst hl0
    have hr : r = 0 := by rw [← H.out, stepsC]
    subst hr
    have HB := Lib.hid ((Below.refl w.heap.size w).alloc (Nat.le_refl _) (.cells #[.slice Av lv cv, .slice Ag lg cg, .slice Ay ly cy] 26))
    clear ht hv H hlg
    go_enter Tryz.func31, Tryz.ntmps31
    go_upto_region 1 with fail
    obtain ⟨w1, hw1⟩ : ∃ w1, w.alloc (.cells #[.slice Av lv cv, .slice Ag lg cg, .slice Ay ly cy] 26) = w1 := ⟨_, rfl⟩
    rw [hw1] at HB
    rw [hw1]
    clear hw1
    go_upto_region 2 with fail
    go_loopw [15] (fun v wr => v = .int .i64 0 ∧ wr = w1) (fun _ _ => 0)
    case atStart => exact ⟨rfl, rfl⟩
    case round =>
      obtain ⟨rfl, rfl⟩ := hrel
      go_wp2_with fail
      go_ret
      exact ⟨rfl, HB.out⟩
  | succ m ih =>
    intro ks l A c top w r hl hm ht hv H
    have IH := Lib.hid ih
    have HM := Lib.hid hm
    have HL := Lib.hid hl
    have HT := Lib.hid ht
    have HV := Lib.hid hv
    have HVB := Lib.hid hvb
    have HLG := Lib.hid hlg
    have HH : Hid (stepsC vs lg top (ks.drop 0) = r) := H
    have hlm : l ≤ 9223372036854775807 := by have h1 := ht.1; have h2 := ht.2.1; unfold maxLen at h2; omega
    have HB := Lib.hid ((Below.refl w.heap.size w).alloc (Nat.le_refl _) (.cells #[.slice Av lv cv, .slice Ag lg cg, .slice Ay ly cy] 26))
    have HC := Lib.hid (Cs.new w #[.slice Av lv cv, .slice Ag lg cg, .slice Ay ly cy] 26)
    clear ih hm hl ht hv H hvb hlg
    go_enter Tryz.func31, Tryz.ntmps31
    go_upto_region 1 with fail
    obtain ⟨w1, hw1⟩ : ∃ w1, w.alloc (.cells #[.slice Av lv cv, .slice Ag lg cg, .slice Ay ly cy] 26) = w1 := ⟨_, rfl⟩
    obtain ⟨p, hp⟩ : ∃ p, w.heap.size = p := ⟨_, rfl⟩
    have HBp : Hid (Below w.heap.size w w1) := by show Below _ _ _; rw [← hw1]; exact HB.out
    rw [hw1, hp] at HC
    have HV := Lib.hid (show VOk w Av lv cv vs from HV.out)
    rw [hw1, hp]
    have HP := Lib.hid hp
    clear hw1 hp HB
    go_upto_region 2 with fail
    go_loopw [15] (fun v wr => ∃ k : Nat, k ≤ l ∧ v = .int .i64 k ∧ Hid (stepsC vs lg top (ks.drop k) = r) ∧ Hid (Below w.heap.size w wr) ∧ Hid (Cs wr p [.slice Av lv cv, .slice Ag lg cg, .slice Ay ly cy])) (fun v _ => l - (intOf v).toNat)
    case atStart => exact ⟨0, by omega, rfl, HH, HBp, HC⟩
    case round =>
      clear HBp HC HH
      obtain ⟨k, hk, rfl, HS, HBw, HC⟩ := hrel
      by_cases hlt : k < l
      · have hkl : k < ks.length := by rw [HL.out]; exact hlt
        obtain ⟨d, x1, v, n, o, tn, tk, th, el, bs, g, f, At, ct, Ah, ch, Ae, ce, Ab, cb, hkid, hA, hg, hsc, htok, hth, hel, hbs⟩ := (HT.out.below HBw.out).step k hkl
        subst hA
        obtain ⟨lt, hlt1⟩ : ∃ l, tk.length = l := ⟨_, rfl⟩
        obtain ⟨lh, hlh⟩ : ∃ l, th.length = l := ⟨_, rfl⟩
        obtain ⟨le, hle⟩ : ∃ l, el.length = l := ⟨_, rfl⟩
        obtain ⟨lb, hlb⟩ : ∃ l, bs.length = l := ⟨_, rfl⟩
        rw [hlt1, hlh, hle, hlb] at hsc
        rw [hlb] at hbs
        have hdr : ks.drop k = .mk d x1 v n (.mk o tn tk) th el bs :: ks.drop (k + 1) := by rw [List.drop_eq_getElem_cons hkl, hkid]
        have hcm : Sp.cntL th ≤ m ∧ Sp.cntL el ≤ m := by
          have := Sp.cntL_get ks k hkl
          rw [hkid] at this
          simp only [Sp.cnt] at this
          have := HM.out
          omega
        have HCM := Lib.hid hcm
        have hlhm : lh ≤ maxLen := by rw [← hlh]; exact Nat.le_trans hth.1 hth.2.1
        have hlem : le ≤ maxLen := by rw [← hle]; exact Nat.le_trans hel.1 hel.2.1
        have HLHM := Lib.hid hlhm
        have HLEM := Lib.hid hlem
        have HLT := Lib.hid hlt1
        have HLH := Lib.hid hlh
        have HLE := Lib.hid hle
        have HLB := Lib.hid hlb
        have hlt' : (k : Int) < (l : Int) := by omega
        have hba := (Below.refl wr.heap.size wr).alloc (Nat.le_refl _) (.cells #[.int .i64 d, .int .i64 x1, .int .i64 v, .int .i64 n, .int .i64 o, .int .i64 tn, .slice At lt ct, .slice Ah lh ch, .slice Ae le ce, .slice Ab lb cb] 56)
        have HBw4 := Lib.hid (HBw.out.trans (hba.mono HBw.out.size))
        have HC4 := Lib.hid (HC.out.next hba)
        have HN4 := Lib.hid (Cs.new wr #[.int .i64 d, .int .i64 x1, .int .i64 v, .int .i64 n, .int .i64 o, .int .i64 tn, .slice At lt ct, .slice Ah lh ch, .slice Ae le ce, .slice Ab lb cb] 56)
        have HHT := Lib.hid (htok.below hba)
        have HHH := Lib.hid (hth.below hba)
        have HHE := Lib.hid (hel.below hba)
        have HBS := Lib.hid (hbs.below hba)
        obtain ⟨c0, c1, c2, c3, c4, c5, c6, c7, c8, c9⟩ := hsc
        have hem : (l = k + 1 → (ks.drop (k + 1)).isEmpty = true) ∧ (l ≠ k + 1 → (ks.drop (k + 1)).isEmpty = false) := by
          refine ⟨fun h => ?_, fun h => ?_⟩
          · rw [List.drop_of_length_le (by rw [HL.out]; omega)]; rfl
          · have : (ks.drop (k + 1)).length ≠ 0 := by rw [List.length_drop, HL.out]; omega
            cases hd : ks.drop (k + 1) with
            | nil => rw [hd] at this; exact absurd rfl this
            | cons a b => rfl
        obtain ⟨la, hla⟩ : ∃ la, (top && (ks.drop (k + 1)).isEmpty) = la := ⟨_, rfl⟩
        obtain ⟨rest, hrest⟩ : ∃ z, stepsC vs lg top (ks.drop (k + 1)) = z := ⟨_, rfl⟩
        obtain ⟨b1, hb1⟩ : ∃ z, shapedB vs lg la d v n (zeroB o tn lt) lh le bs = z := ⟨_, rfl⟩
        obtain ⟨b2, hb2⟩ : ∃ z, numberedB d x1 n bs = z := ⟨_, rfl⟩
        obtain ⟨tc, htc⟩ : ∃ z, termC vs false (.mk o tn tk) = z := ⟨_, rfl⟩
        obtain ⟨ra, hra⟩ : ∃ z, stepsC vs lg false th = z := ⟨_, rfl⟩
        obtain ⟨rb, hrb⟩ : ∃ z, stepsC vs lg false el = z := ⟨_, rfl⟩
        have hsum : (if b1 = false then 1 else if b2 = false then 3 else if tc ≠ 0 then tc else innerC ra rb rest 0) = r := by
          have := HS.out
          rw [hdr, stepsC, hla, hrest, stepC, hlt1, hlh, hle, hb1, hb2, htc, hra, hrb] at this
          rw [← this, innerC]
          by_cases e1 : b1 = false
          · simp [e1]
          by_cases e2 : b2 = false
          · simp [e1, e2]
          by_cases e3 : tc = 0
          · by_cases e4 : ra = 0
            · by_cases e5 : rb = 0 <;> simp [e1, e2, e3, e4, e5]
            · simp [e1, e2, e3, e4]
          · simp [e1, e2, e3]
        have HLA := Lib.hid hla
        have HREST := Lib.hid hrest
        have HB1 := Lib.hid hb1
        have HB2 := Lib.hid hb2
        have HTC := Lib.hid htc
        have HRA := Lib.hid hra
        have HRB := Lib.hid hrb
        have HSUM := Lib.hid hsum
        have HEM := Lib.hid hem
        clear hkid hdr hcm htok hth hel hbs hlt1 hlh hle hlb hla hrest hb1 hb2 htc hra hrb hsum hba hlhm hlem HS HBw HC hem
        go_upto_region 4 with fail
        obtain ⟨w4, hw4⟩ : ∃ w4, wr.alloc (.cells #[.int .i64 d, .int .i64 x1, .int .i64 v, .int .i64 n, .int .i64 o, .int .i64 tn, .slice At lt ct, .slice Ah lh ch, .slice Ae le ce, .slice Ab lb cb] 56) = w4 := ⟨_, rfl⟩
        obtain ⟨q, hq⟩ : ∃ q, wr.heap.size = q := ⟨_, rfl⟩
        rw [hw4] at HBw4 HN4 HC4 HHT HHH HHE HBS
        rw [hq] at HN4
        rw [hw4, hq]
        clear hw4 hq c0 c1 c2 c3 c4 c5 c6 c7 c8 c9
        have n0 := HN4.out.at 0 _ rfl
        have n1 := HN4.out.at 1 _ rfl
        have n2 := HN4.out.at 2 _ rfl
        have n3 := HN4.out.at 3 _ rfl
        have n4 := HN4.out.at 4 _ rfl
        have n5 := HN4.out.at 5 _ rfl
        have n6 := HN4.out.at 6 _ rfl
        have n7 := HN4.out.at 7 _ rfl
        have n8 := HN4.out.at 8 _ rfl
        have n9 := HN4.out.at 9 _ rfl
        have f0 := HC4.out.at 0 _ rfl
        have f1 := HC4.out.at 1 _ rfl
        have f2 := HC4.out.at 2 _ rfl
        have HHT4 := HHT
        have HHH4 := HHH
        have HHE4 := HHE
        have HBS4 := HBS
        clear HHT HHH HHE HBS
        obtain ⟨j1, hj1⟩ : ∃ j1, l = j1 + 1 := ⟨l - 1, by omega⟩
        have hwl : IntKind.i64.wrap ((l : Int) - 1) = (j1 : Int) := by rw [show (l : Int) - 1 = (j1 : Int) by omega]; exact IntWalk.i64_in _ (by omega)
        cases top with
        | false =>
          have HLAV : Hid (la = false) := by show _ = _; rw [← HLA.out]; rfl
          clear hj1 hwl
          have hla : la = false := HLAV.out
          subst hla
          clear HLAV
          go_wp2_with fail
          go_at_call 66
          refine (shaped_b vs Av lv cv Ag lg cg Ay ly cy d x1 v n o tn At lt ct Ah lh ch Ae le ce Ab lb cb bs false b1 HB1 _ (HV.out.below HBw4.out) HBS4.out HLG.out HLHM.out HLEM.out).mono ?_
          rintro e w5 ⟨rfl, hb5⟩
          have HN5 := Lib.hid (HN4.out.next hb5)
          have HC5 := Lib.hid (HC4.out.next hb5)
          have HBw5 := Lib.hid (HBw4.out.trans (hb5.mono HBw4.out.size))
          have HHT5 := Lib.hid (HHT4.out.below hb5)
          have HHH5 := Lib.hid (HHH4.out.below hb5)
          have HHE5 := Lib.hid (HHE4.out.below hb5)
          have HBS5 := Lib.hid (HBS4.out.below hb5)
          clear hb5 HN4 HC4 HBw4 HHT4 HHH4 HHE4 HBS4
          clear n0 n1 n2 n3 n4 n5 n6 n7 n8 n9 f0 f1 f2
          have n0 := HN5.out.at 0 _ rfl
          have n1 := HN5.out.at 1 _ rfl
          have n2 := HN5.out.at 2 _ rfl
          have n3 := HN5.out.at 3 _ rfl
          have n4 := HN5.out.at 4 _ rfl
          have n5 := HN5.out.at 5 _ rfl
          have n6 := HN5.out.at 6 _ rfl
          have n7 := HN5.out.at 7 _ rfl
          have n8 := HN5.out.at 8 _ rfl
          have n9 := HN5.out.at 9 _ rfl
          have f0 := HC5.out.at 0 _ rfl
          have f1 := HC5.out.at 1 _ rfl
          have f2 := HC5.out.at 2 _ rfl
          cases b1
          case false =>
            have hr : r = 1 := by have := HSUM.out; simpa using this.symm
            subst hr
            clear HSUM
            go_wp2_with fail
            go_ret
            exact ⟨rfl, HBw5.out⟩
          go_wp2_with fail
          go_at_call 67
          refine (numbered_b d x1 v n o tn At lt ct Ah lh ch Ae le ce Ab lb cb bs b2 HB2 _ HBS5.out (fun h6 => by
            have := HB1.out
            subst h6
            by_cases h0 : lb = 0
            · have hbl : bs.length = 0 := by rw [HLB.out]; exact h0
              simp [shapedB, riseB, hbl] at this
            · omega)).mono ?_
          rintro e w6 ⟨rfl, hb6⟩
          have HN6 := Lib.hid (HN5.out.next hb6)
          have HC6 := Lib.hid (HC5.out.next hb6)
          have HBw6 := Lib.hid (HBw5.out.trans (hb6.mono HBw5.out.size))
          have HHT6 := Lib.hid (HHT5.out.below hb6)
          have HHH6 := Lib.hid (HHH5.out.below hb6)
          have HHE6 := Lib.hid (HHE5.out.below hb6)
          have HBS6 := Lib.hid (HBS5.out.below hb6)
          clear hb6 HN5 HC5 HBw5 HHT5 HHH5 HHE5 HBS5
          clear n0 n1 n2 n3 n4 n5 n6 n7 n8 n9 f0 f1 f2
          have n0 := HN6.out.at 0 _ rfl
          have n1 := HN6.out.at 1 _ rfl
          have n2 := HN6.out.at 2 _ rfl
          have n3 := HN6.out.at 3 _ rfl
          have n4 := HN6.out.at 4 _ rfl
          have n5 := HN6.out.at 5 _ rfl
          have n6 := HN6.out.at 6 _ rfl
          have n7 := HN6.out.at 7 _ rfl
          have n8 := HN6.out.at 8 _ rfl
          have n9 := HN6.out.at 9 _ rfl
          have f0 := HC6.out.at 0 _ rfl
          have f1 := HC6.out.at 1 _ rfl
          have f2 := HC6.out.at 2 _ rfl
          cases b2
          case false =>
            have hr : r = 3 := by have := HSUM.out; simpa using this.symm
            subst hr
            clear HSUM
            go_wp2_with fail
            go_ret
            exact ⟨rfl, HBw6.out⟩
          go_wp2_with fail
          go_at_call 65
          refine (termCode_b vs HVB.out Av lv cv false o tn tk lt At ct _ tc HLT.out HHT6.out (HV.out.below HBw6.out) HTC).mono ?_
          rintro e w7 ⟨rfl, hb7⟩
          have HN7 := Lib.hid (HN6.out.next hb7)
          have HC7 := Lib.hid (HC6.out.next hb7)
          have HBw7 := Lib.hid (HBw6.out.trans (hb7.mono HBw6.out.size))
          have HHT7 := Lib.hid (HHT6.out.below hb7)
          have HHH7 := Lib.hid (HHH6.out.below hb7)
          have HHE7 := Lib.hid (HHE6.out.below hb7)
          have HBS7 := Lib.hid (HBS6.out.below hb7)
          clear hb7 HN6 HC6 HBw6 HHT6 HHH6 HHE6 HBS6
          clear n0 n1 n2 n3 n4 n5 n6 n7 n8 n9 f0 f1 f2
          have n0 := HN7.out.at 0 _ rfl
          have n1 := HN7.out.at 1 _ rfl
          have n2 := HN7.out.at 2 _ rfl
          have n3 := HN7.out.at 3 _ rfl
          have n4 := HN7.out.at 4 _ rfl
          have n5 := HN7.out.at 5 _ rfl
          have n6 := HN7.out.at 6 _ rfl
          have n7 := HN7.out.at 7 _ rfl
          have n8 := HN7.out.at 8 _ rfl
          have n9 := HN7.out.at 9 _ rfl
          have f0 := HC7.out.at 0 _ rfl
          have f1 := HC7.out.at 1 _ rfl
          have f2 := HC7.out.at 2 _ rfl
          by_cases htc0 : tc = 0
          case neg =>
            have hbn := bne_of htc0
            have hr : r = tc := by have := HSUM.out; simp [htc0] at this; exact this.symm
            subst hr
            clear HSUM
            go_wp2_with fail
            go_ret
            exact ⟨rfl, HBw7.out⟩
          have HIN : Hid (innerC ra rb rest 0 = r) := by show _ = _; have := HSUM.out; simpa [htc0] using this
          have hbn : (tc != 0) = false := by rw [htc0]; rfl
          clear HSUM htc0
          go_upto_region 12 with fail
          have hba := (Below.refl w7.heap.size w7).alloc (Nat.le_refl _) (.cells #[.slice Ah lh ch, .slice Ae le ce] 24)
          have HI8 := Lib.hid (Cs.new w7 #[.slice Ah lh ch, .slice Ae le ce] 24)
          have HC8 := Lib.hid (HC7.out.next hba)
          have HBw8 := Lib.hid (HBw7.out.trans (hba.mono HBw7.out.size))
          have HHW := Lib.hid (And.intro HHH7.out HHE7.out)
          have HBq : Hid (Below w7.heap.size w7 (w7.alloc (.cells #[.slice Ah lh ch, .slice Ae le ce] 24))) := hba
          obtain ⟨w8, hw8⟩ : ∃ w8, w7.alloc (.cells #[.slice Ah lh ch, .slice Ae le ce] 24) = w8 := ⟨_, rfl⟩
          obtain ⟨y, hy⟩ : ∃ y, w7.heap.size = y := ⟨_, rfl⟩
          rw [hw8] at HC8 HBw8 HI8 HBq
          rw [hy] at HI8
          rw [hw8, hy]
          clear hba hw8 hy HN7 HC7 HBw7 HHT7 HHH7 HHE7 HBS7
          clear n0 n1 n2 n3 n4 n5 n6 n7 n8 n9 f0 f1 f2
          obtain ⟨wz, hwz⟩ : ∃ wz, wz = wr := ⟨_, rfl⟩
          try rw [← hwz]
          clear hwz
          go_loopw [49] (fun v w8 => ∃ j : Nat, j ≤ 2 ∧ v = .int .i64 j ∧ Hid (innerC ra rb rest j = r) ∧ Hid (Below w.heap.size w w8) ∧ Hid (Below w7.heap.size w7 w8) ∧ Hid (Cs w8 p [.slice Av lv cv, .slice Ag lg cg, .slice Ay ly cy]) ∧ Hid (Cs w8 y [.slice Ah lh ch, .slice Ae le ce])) (fun v _ => 2 - (intOf v).toNat)
          case atStart => exact ⟨0, by omega, rfl, HIN, HBw8, HBq, HC8, HI8⟩
          case round =>
            clear HIN HBw8 HBq HC8 HI8
            obtain ⟨j, hj, rfl, HIN, HBw8, HBq, HC8, HI8⟩ := hrel
            obtain rfl | rfl | rfl : j = 0 ∨ j = 1 ∨ j = 2 := by omega
            · skip
              
              have f0 := HC8.out.at 0 _ rfl
              have f1 := HC8.out.at 1 _ rfl
              have f2 := HC8.out.at 2 _ rfl
              have s0 := HI8.out.at 0 _ rfl
              have s1 := HI8.out.at 1 _ rfl
              go_wp2_with fail
              go_at_call 31
              refine (IH.out th lh Ah ch false _ ra HLH.out HCM.out.1 (HHW.out.1.below HBq.out) (HV.out.below HBw8.out) HRA).mono ?_
              rintro e w9 ⟨rfl, hb9⟩
              have HC9 := Lib.hid (HC8.out.next hb9)
              have HI9 := Lib.hid (HI8.out.next hb9)
              have HBw9 := Lib.hid (HBw8.out.trans (hb9.mono HBw8.out.size))
              have HBq9 := Lib.hid (HBq.out.trans (hb9.mono HBq.out.size))
              clear hb9 HC8 HI8 HBw8 HBq f0 f1 f2 s0 s1
              by_cases hr0 : ra = 0
              case neg =>
                have hbn := bne_of hr0
                have hr : r = ra := by have := HIN.out; simp [innerC, hr0] at this; exact this.symm
                subst hr
                clear HIN
                go_wp2_with fail
                go_ret
                exact ⟨rfl, HBw9.out⟩
              have HIN' : Hid (innerC ra rb rest (0 + 1) = r) := by show _ = _; have := HIN.out; simp [innerC, hr0] at this; simpa [innerC] using this
              have hbn : (ra != 0) = false := by rw [hr0]; rfl
              clear HIN hr0
              go_wp2_with fail
              go_roundw
              case rel => exact ⟨0 + 1, by omega, by go_num, HIN', HBw9, HBq9, HC9, HI9⟩
              case measure => simp [intOf]
            · skip
              
              have f0 := HC8.out.at 0 _ rfl
              have f1 := HC8.out.at 1 _ rfl
              have f2 := HC8.out.at 2 _ rfl
              have s0 := HI8.out.at 0 _ rfl
              have s1 := HI8.out.at 1 _ rfl
              go_wp2_with fail
              go_at_call 31
              refine (IH.out el le Ae ce false _ rb HLE.out HCM.out.2 (HHW.out.2.below HBq.out) (HV.out.below HBw8.out) HRB).mono ?_
              rintro e w9 ⟨rfl, hb9⟩
              have HC9 := Lib.hid (HC8.out.next hb9)
              have HI9 := Lib.hid (HI8.out.next hb9)
              have HBw9 := Lib.hid (HBw8.out.trans (hb9.mono HBw8.out.size))
              have HBq9 := Lib.hid (HBq.out.trans (hb9.mono HBq.out.size))
              clear hb9 HC8 HI8 HBw8 HBq f0 f1 f2 s0 s1
              by_cases hr0 : rb = 0
              case neg =>
                have hbn := bne_of hr0
                have hr : r = rb := by have := HIN.out; simp [innerC, hr0] at this; exact this.symm
                subst hr
                clear HIN
                go_wp2_with fail
                go_ret
                exact ⟨rfl, HBw9.out⟩
              have HIN' : Hid (innerC ra rb rest (1 + 1) = r) := by show _ = _; have := HIN.out; simp [innerC, hr0] at this; simpa [innerC] using this
              have hbn : (rb != 0) = false := by rw [hr0]; rfl
              clear HIN hr0
              go_wp2_with fail
              go_roundw
              case rel => exact ⟨1 + 1, by omega, by go_num, HIN', HBw9, HBq9, HC9, HI9⟩
              case measure => simp [intOf]
            · have HS' : Hid (stepsC vs lg false (ks.drop (k + 1)) = r) := by show _ = _; rw [HREST.out]; exact HIN.out
              clear HIN
              go_wp2_with fail
              go_roundw
              case rel => exact ⟨k + 1, by omega, by go_num, HS', HBw8, HC8⟩
              case measure => simp [intOf]; omega
        | true =>
          by_cases hkj : k = j1
          · have HLAV : Hid (la = true) := by show _ = _; rw [← HLA.out, HEM.out.1 (by omega)]; rfl
            have hkb : ((k : Int) == (j1 : Int)) = true := by simp [hkj]
            have hkb2 : (k == j1) = true := by simp [hkj]
            clear hkj hj1
            have hla : la = true := HLAV.out
            subst hla
            clear HLAV
            go_wp2_with fail
            go_at_call 66
            refine (shaped_b vs Av lv cv Ag lg cg Ay ly cy d x1 v n o tn At lt ct Ah lh ch Ae le ce Ab lb cb bs true b1 HB1 _ (HV.out.below HBw4.out) HBS4.out HLG.out HLHM.out HLEM.out).mono ?_
            rintro e w5 ⟨rfl, hb5⟩
            have HN5 := Lib.hid (HN4.out.next hb5)
            have HC5 := Lib.hid (HC4.out.next hb5)
            have HBw5 := Lib.hid (HBw4.out.trans (hb5.mono HBw4.out.size))
            have HHT5 := Lib.hid (HHT4.out.below hb5)
            have HHH5 := Lib.hid (HHH4.out.below hb5)
            have HHE5 := Lib.hid (HHE4.out.below hb5)
            have HBS5 := Lib.hid (HBS4.out.below hb5)
            clear hb5 HN4 HC4 HBw4 HHT4 HHH4 HHE4 HBS4
            clear n0 n1 n2 n3 n4 n5 n6 n7 n8 n9 f0 f1 f2
            have n0 := HN5.out.at 0 _ rfl
            have n1 := HN5.out.at 1 _ rfl
            have n2 := HN5.out.at 2 _ rfl
            have n3 := HN5.out.at 3 _ rfl
            have n4 := HN5.out.at 4 _ rfl
            have n5 := HN5.out.at 5 _ rfl
            have n6 := HN5.out.at 6 _ rfl
            have n7 := HN5.out.at 7 _ rfl
            have n8 := HN5.out.at 8 _ rfl
            have n9 := HN5.out.at 9 _ rfl
            have f0 := HC5.out.at 0 _ rfl
            have f1 := HC5.out.at 1 _ rfl
            have f2 := HC5.out.at 2 _ rfl
            cases b1
            case false =>
              have hr : r = 1 := by have := HSUM.out; simpa using this.symm
              subst hr
              clear HSUM
              go_wp2_with fail
              go_ret
              exact ⟨rfl, HBw5.out⟩
            go_wp2_with fail
            go_at_call 67
            refine (numbered_b d x1 v n o tn At lt ct Ah lh ch Ae le ce Ab lb cb bs b2 HB2 _ HBS5.out (fun h6 => by
              have := HB1.out
              subst h6
              by_cases h0 : lb = 0
              · have hbl : bs.length = 0 := by rw [HLB.out]; exact h0
                simp [shapedB, riseB, hbl] at this
              · omega)).mono ?_
            rintro e w6 ⟨rfl, hb6⟩
            have HN6 := Lib.hid (HN5.out.next hb6)
            have HC6 := Lib.hid (HC5.out.next hb6)
            have HBw6 := Lib.hid (HBw5.out.trans (hb6.mono HBw5.out.size))
            have HHT6 := Lib.hid (HHT5.out.below hb6)
            have HHH6 := Lib.hid (HHH5.out.below hb6)
            have HHE6 := Lib.hid (HHE5.out.below hb6)
            have HBS6 := Lib.hid (HBS5.out.below hb6)
            clear hb6 HN5 HC5 HBw5 HHT5 HHH5 HHE5 HBS5
            clear n0 n1 n2 n3 n4 n5 n6 n7 n8 n9 f0 f1 f2
            have n0 := HN6.out.at 0 _ rfl
            have n1 := HN6.out.at 1 _ rfl
            have n2 := HN6.out.at 2 _ rfl
            have n3 := HN6.out.at 3 _ rfl
            have n4 := HN6.out.at 4 _ rfl
            have n5 := HN6.out.at 5 _ rfl
            have n6 := HN6.out.at 6 _ rfl
            have n7 := HN6.out.at 7 _ rfl
            have n8 := HN6.out.at 8 _ rfl
            have n9 := HN6.out.at 9 _ rfl
            have f0 := HC6.out.at 0 _ rfl
            have f1 := HC6.out.at 1 _ rfl
            have f2 := HC6.out.at 2 _ rfl
            cases b2
            case false =>
              have hr : r = 3 := by have := HSUM.out; simpa using this.symm
              subst hr
              clear HSUM
              go_wp2_with fail
              go_ret
              exact ⟨rfl, HBw6.out⟩
            go_wp2_with fail
            go_at_call 65
            refine (termCode_b vs HVB.out Av lv cv false o tn tk lt At ct _ tc HLT.out HHT6.out (HV.out.below HBw6.out) HTC).mono ?_
            rintro e w7 ⟨rfl, hb7⟩
            have HN7 := Lib.hid (HN6.out.next hb7)
            have HC7 := Lib.hid (HC6.out.next hb7)
            have HBw7 := Lib.hid (HBw6.out.trans (hb7.mono HBw6.out.size))
            have HHT7 := Lib.hid (HHT6.out.below hb7)
            have HHH7 := Lib.hid (HHH6.out.below hb7)
            have HHE7 := Lib.hid (HHE6.out.below hb7)
            have HBS7 := Lib.hid (HBS6.out.below hb7)
            clear hb7 HN6 HC6 HBw6 HHT6 HHH6 HHE6 HBS6
            clear n0 n1 n2 n3 n4 n5 n6 n7 n8 n9 f0 f1 f2
            have n0 := HN7.out.at 0 _ rfl
            have n1 := HN7.out.at 1 _ rfl
            have n2 := HN7.out.at 2 _ rfl
            have n3 := HN7.out.at 3 _ rfl
            have n4 := HN7.out.at 4 _ rfl
            have n5 := HN7.out.at 5 _ rfl
            have n6 := HN7.out.at 6 _ rfl
            have n7 := HN7.out.at 7 _ rfl
            have n8 := HN7.out.at 8 _ rfl
            have n9 := HN7.out.at 9 _ rfl
            have f0 := HC7.out.at 0 _ rfl
            have f1 := HC7.out.at 1 _ rfl
            have f2 := HC7.out.at 2 _ rfl
            by_cases htc0 : tc = 0
            case neg =>
              have hbn := bne_of htc0
              have hr : r = tc := by have := HSUM.out; simp [htc0] at this; exact this.symm
              subst hr
              clear HSUM
              go_wp2_with fail
              go_ret
              exact ⟨rfl, HBw7.out⟩
            have HIN : Hid (innerC ra rb rest 0 = r) := by show _ = _; have := HSUM.out; simpa [htc0] using this
            have hbn : (tc != 0) = false := by rw [htc0]; rfl
            clear HSUM htc0
            go_upto_region 12 with fail
            have hba := (Below.refl w7.heap.size w7).alloc (Nat.le_refl _) (.cells #[.slice Ah lh ch, .slice Ae le ce] 24)
            have HI8 := Lib.hid (Cs.new w7 #[.slice Ah lh ch, .slice Ae le ce] 24)
            have HC8 := Lib.hid (HC7.out.next hba)
            have HBw8 := Lib.hid (HBw7.out.trans (hba.mono HBw7.out.size))
            have HHW := Lib.hid (And.intro HHH7.out HHE7.out)
            have HBq : Hid (Below w7.heap.size w7 (w7.alloc (.cells #[.slice Ah lh ch, .slice Ae le ce] 24))) := hba
            obtain ⟨w8, hw8⟩ : ∃ w8, w7.alloc (.cells #[.slice Ah lh ch, .slice Ae le ce] 24) = w8 := ⟨_, rfl⟩
            obtain ⟨y, hy⟩ : ∃ y, w7.heap.size = y := ⟨_, rfl⟩
            rw [hw8] at HC8 HBw8 HI8 HBq
            rw [hy] at HI8
            rw [hw8, hy]
            clear hba hw8 hy HN7 HC7 HBw7 HHT7 HHH7 HHE7 HBS7
            clear n0 n1 n2 n3 n4 n5 n6 n7 n8 n9 f0 f1 f2
            obtain ⟨wz, hwz⟩ : ∃ wz, wz = wr := ⟨_, rfl⟩
            try rw [← hwz]
            clear hwz
            go_loopw [49] (fun v w8 => ∃ j : Nat, j ≤ 2 ∧ v = .int .i64 j ∧ Hid (innerC ra rb rest j = r) ∧ Hid (Below w.heap.size w w8) ∧ Hid (Below w7.heap.size w7 w8) ∧ Hid (Cs w8 p [.slice Av lv cv, .slice Ag lg cg, .slice Ay ly cy]) ∧ Hid (Cs w8 y [.slice Ah lh ch, .slice Ae le ce])) (fun v _ => 2 - (intOf v).toNat)
            case atStart => exact ⟨0, by omega, rfl, HIN, HBw8, HBq, HC8, HI8⟩
            case round =>
              clear HIN HBw8 HBq HC8 HI8
              obtain ⟨j, hj, rfl, HIN, HBw8, HBq, HC8, HI8⟩ := hrel
              obtain rfl | rfl | rfl : j = 0 ∨ j = 1 ∨ j = 2 := by omega
              · skip
                
                have f0 := HC8.out.at 0 _ rfl
                have f1 := HC8.out.at 1 _ rfl
                have f2 := HC8.out.at 2 _ rfl
                have s0 := HI8.out.at 0 _ rfl
                have s1 := HI8.out.at 1 _ rfl
                go_wp2_with fail
                go_at_call 31
                refine (IH.out th lh Ah ch false _ ra HLH.out HCM.out.1 (HHW.out.1.below HBq.out) (HV.out.below HBw8.out) HRA).mono ?_
                rintro e w9 ⟨rfl, hb9⟩
                have HC9 := Lib.hid (HC8.out.next hb9)
                have HI9 := Lib.hid (HI8.out.next hb9)
                have HBw9 := Lib.hid (HBw8.out.trans (hb9.mono HBw8.out.size))
                have HBq9 := Lib.hid (HBq.out.trans (hb9.mono HBq.out.size))
                clear hb9 HC8 HI8 HBw8 HBq f0 f1 f2 s0 s1
                by_cases hr0 : ra = 0
                case neg =>
                  have hbn := bne_of hr0
                  have hr : r = ra := by have := HIN.out; simp [innerC, hr0] at this; exact this.symm
                  subst hr
                  clear HIN
                  go_wp2_with fail
                  go_ret
                  exact ⟨rfl, HBw9.out⟩
                have HIN' : Hid (innerC ra rb rest (0 + 1) = r) := by show _ = _; have := HIN.out; simp [innerC, hr0] at this; simpa [innerC] using this
                have hbn : (ra != 0) = false := by rw [hr0]; rfl
                clear HIN hr0
                go_wp2_with fail
                go_roundw
                case rel => exact ⟨0 + 1, by omega, by go_num, HIN', HBw9, HBq9, HC9, HI9⟩
                case measure => simp [intOf]
              · skip
                
                have f0 := HC8.out.at 0 _ rfl
                have f1 := HC8.out.at 1 _ rfl
                have f2 := HC8.out.at 2 _ rfl
                have s0 := HI8.out.at 0 _ rfl
                have s1 := HI8.out.at 1 _ rfl
                go_wp2_with fail
                go_at_call 31
                refine (IH.out el le Ae ce false _ rb HLE.out HCM.out.2 (HHW.out.2.below HBq.out) (HV.out.below HBw8.out) HRB).mono ?_
                rintro e w9 ⟨rfl, hb9⟩
                have HC9 := Lib.hid (HC8.out.next hb9)
                have HI9 := Lib.hid (HI8.out.next hb9)
                have HBw9 := Lib.hid (HBw8.out.trans (hb9.mono HBw8.out.size))
                have HBq9 := Lib.hid (HBq.out.trans (hb9.mono HBq.out.size))
                clear hb9 HC8 HI8 HBw8 HBq f0 f1 f2 s0 s1
                by_cases hr0 : rb = 0
                case neg =>
                  have hbn := bne_of hr0
                  have hr : r = rb := by have := HIN.out; simp [innerC, hr0] at this; exact this.symm
                  subst hr
                  clear HIN
                  go_wp2_with fail
                  go_ret
                  exact ⟨rfl, HBw9.out⟩
                have HIN' : Hid (innerC ra rb rest (1 + 1) = r) := by show _ = _; have := HIN.out; simp [innerC, hr0] at this; simpa [innerC] using this
                have hbn : (rb != 0) = false := by rw [hr0]; rfl
                clear HIN hr0
                go_wp2_with fail
                go_roundw
                case rel => exact ⟨1 + 1, by omega, by go_num, HIN', HBw9, HBq9, HC9, HI9⟩
                case measure => simp [intOf]
              · have HS' : Hid (stepsC vs lg true (ks.drop (k + 1)) = r) := by show _ = _; rw [HREST.out]; exact HIN.out
                clear HIN
                go_wp2_with fail
                go_roundw
                case rel => exact ⟨k + 1, by omega, by go_num, HS', HBw8, HC8⟩
                case measure => simp [intOf]; omega
          · have HLAV : Hid (la = false) := by show _ = _; rw [← HLA.out, HEM.out.2 (by omega)]; rfl
            have hkb : ((k : Int) == (j1 : Int)) = false := beq_of (by omega)
            have hkb2 : (k == j1) = false := by simp [hkj]
            clear hkj hj1
            have hla : la = false := HLAV.out
            subst hla
            clear HLAV
            go_wp2_with fail
            go_at_call 66
            refine (shaped_b vs Av lv cv Ag lg cg Ay ly cy d x1 v n o tn At lt ct Ah lh ch Ae le ce Ab lb cb bs false b1 HB1 _ (HV.out.below HBw4.out) HBS4.out HLG.out HLHM.out HLEM.out).mono ?_
            rintro e w5 ⟨rfl, hb5⟩
            have HN5 := Lib.hid (HN4.out.next hb5)
            have HC5 := Lib.hid (HC4.out.next hb5)
            have HBw5 := Lib.hid (HBw4.out.trans (hb5.mono HBw4.out.size))
            have HHT5 := Lib.hid (HHT4.out.below hb5)
            have HHH5 := Lib.hid (HHH4.out.below hb5)
            have HHE5 := Lib.hid (HHE4.out.below hb5)
            have HBS5 := Lib.hid (HBS4.out.below hb5)
            clear hb5 HN4 HC4 HBw4 HHT4 HHH4 HHE4 HBS4
            clear n0 n1 n2 n3 n4 n5 n6 n7 n8 n9 f0 f1 f2
            have n0 := HN5.out.at 0 _ rfl
            have n1 := HN5.out.at 1 _ rfl
            have n2 := HN5.out.at 2 _ rfl
            have n3 := HN5.out.at 3 _ rfl
            have n4 := HN5.out.at 4 _ rfl
            have n5 := HN5.out.at 5 _ rfl
            have n6 := HN5.out.at 6 _ rfl
            have n7 := HN5.out.at 7 _ rfl
            have n8 := HN5.out.at 8 _ rfl
            have n9 := HN5.out.at 9 _ rfl
            have f0 := HC5.out.at 0 _ rfl
            have f1 := HC5.out.at 1 _ rfl
            have f2 := HC5.out.at 2 _ rfl
            cases b1
            case false =>
              have hr : r = 1 := by have := HSUM.out; simpa using this.symm
              subst hr
              clear HSUM
              go_wp2_with fail
              go_ret
              exact ⟨rfl, HBw5.out⟩
            go_wp2_with fail
            go_at_call 67
            refine (numbered_b d x1 v n o tn At lt ct Ah lh ch Ae le ce Ab lb cb bs b2 HB2 _ HBS5.out (fun h6 => by
              have := HB1.out
              subst h6
              by_cases h0 : lb = 0
              · have hbl : bs.length = 0 := by rw [HLB.out]; exact h0
                simp [shapedB, riseB, hbl] at this
              · omega)).mono ?_
            rintro e w6 ⟨rfl, hb6⟩
            have HN6 := Lib.hid (HN5.out.next hb6)
            have HC6 := Lib.hid (HC5.out.next hb6)
            have HBw6 := Lib.hid (HBw5.out.trans (hb6.mono HBw5.out.size))
            have HHT6 := Lib.hid (HHT5.out.below hb6)
            have HHH6 := Lib.hid (HHH5.out.below hb6)
            have HHE6 := Lib.hid (HHE5.out.below hb6)
            have HBS6 := Lib.hid (HBS5.out.below hb6)
            clear hb6 HN5 HC5 HBw5 HHT5 HHH5 HHE5 HBS5
            clear n0 n1 n2 n3 n4 n5 n6 n7 n8 n9 f0 f1 f2
            have n0 := HN6.out.at 0 _ rfl
            have n1 := HN6.out.at 1 _ rfl
            have n2 := HN6.out.at 2 _ rfl
            have n3 := HN6.out.at 3 _ rfl
            have n4 := HN6.out.at 4 _ rfl
            have n5 := HN6.out.at 5 _ rfl
            have n6 := HN6.out.at 6 _ rfl
            have n7 := HN6.out.at 7 _ rfl
            have n8 := HN6.out.at 8 _ rfl
            have n9 := HN6.out.at 9 _ rfl
            have f0 := HC6.out.at 0 _ rfl
            have f1 := HC6.out.at 1 _ rfl
            have f2 := HC6.out.at 2 _ rfl
            cases b2
            case false =>
              have hr : r = 3 := by have := HSUM.out; simpa using this.symm
              subst hr
              clear HSUM
              go_wp2_with fail
              go_ret
              exact ⟨rfl, HBw6.out⟩
            go_wp2_with fail
            go_at_call 65
            refine (termCode_b vs HVB.out Av lv cv false o tn tk lt At ct _ tc HLT.out HHT6.out (HV.out.below HBw6.out) HTC).mono ?_
            rintro e w7 ⟨rfl, hb7⟩
            have HN7 := Lib.hid (HN6.out.next hb7)
            have HC7 := Lib.hid (HC6.out.next hb7)
            have HBw7 := Lib.hid (HBw6.out.trans (hb7.mono HBw6.out.size))
            have HHT7 := Lib.hid (HHT6.out.below hb7)
            have HHH7 := Lib.hid (HHH6.out.below hb7)
            have HHE7 := Lib.hid (HHE6.out.below hb7)
            have HBS7 := Lib.hid (HBS6.out.below hb7)
            clear hb7 HN6 HC6 HBw6 HHT6 HHH6 HHE6 HBS6
            clear n0 n1 n2 n3 n4 n5 n6 n7 n8 n9 f0 f1 f2
            have n0 := HN7.out.at 0 _ rfl
            have n1 := HN7.out.at 1 _ rfl
            have n2 := HN7.out.at 2 _ rfl
            have n3 := HN7.out.at 3 _ rfl
            have n4 := HN7.out.at 4 _ rfl
            have n5 := HN7.out.at 5 _ rfl
            have n6 := HN7.out.at 6 _ rfl
            have n7 := HN7.out.at 7 _ rfl
            have n8 := HN7.out.at 8 _ rfl
            have n9 := HN7.out.at 9 _ rfl
            have f0 := HC7.out.at 0 _ rfl
            have f1 := HC7.out.at 1 _ rfl
            have f2 := HC7.out.at 2 _ rfl
            by_cases htc0 : tc = 0
            case neg =>
              have hbn := bne_of htc0
              have hr : r = tc := by have := HSUM.out; simp [htc0] at this; exact this.symm
              subst hr
              clear HSUM
              go_wp2_with fail
              go_ret
              exact ⟨rfl, HBw7.out⟩
            have HIN : Hid (innerC ra rb rest 0 = r) := by show _ = _; have := HSUM.out; simpa [htc0] using this
            have hbn : (tc != 0) = false := by rw [htc0]; rfl
            clear HSUM htc0
            go_upto_region 12 with fail
            have hba := (Below.refl w7.heap.size w7).alloc (Nat.le_refl _) (.cells #[.slice Ah lh ch, .slice Ae le ce] 24)
            have HI8 := Lib.hid (Cs.new w7 #[.slice Ah lh ch, .slice Ae le ce] 24)
            have HC8 := Lib.hid (HC7.out.next hba)
            have HBw8 := Lib.hid (HBw7.out.trans (hba.mono HBw7.out.size))
            have HHW := Lib.hid (And.intro HHH7.out HHE7.out)
            have HBq : Hid (Below w7.heap.size w7 (w7.alloc (.cells #[.slice Ah lh ch, .slice Ae le ce] 24))) := hba
            obtain ⟨w8, hw8⟩ : ∃ w8, w7.alloc (.cells #[.slice Ah lh ch, .slice Ae le ce] 24) = w8 := ⟨_, rfl⟩
            obtain ⟨y, hy⟩ : ∃ y, w7.heap.size = y := ⟨_, rfl⟩
            rw [hw8] at HC8 HBw8 HI8 HBq
            rw [hy] at HI8
            rw [hw8, hy]
            clear hba hw8 hy HN7 HC7 HBw7 HHT7 HHH7 HHE7 HBS7
            clear n0 n1 n2 n3 n4 n5 n6 n7 n8 n9 f0 f1 f2
            obtain ⟨wz, hwz⟩ : ∃ wz, wz = wr := ⟨_, rfl⟩
            try rw [← hwz]
            clear hwz
            go_loopw [49] (fun v w8 => ∃ j : Nat, j ≤ 2 ∧ v = .int .i64 j ∧ Hid (innerC ra rb rest j = r) ∧ Hid (Below w.heap.size w w8) ∧ Hid (Below w7.heap.size w7 w8) ∧ Hid (Cs w8 p [.slice Av lv cv, .slice Ag lg cg, .slice Ay ly cy]) ∧ Hid (Cs w8 y [.slice Ah lh ch, .slice Ae le ce])) (fun v _ => 2 - (intOf v).toNat)
            case atStart => exact ⟨0, by omega, rfl, HIN, HBw8, HBq, HC8, HI8⟩
            case round =>
              clear HIN HBw8 HBq HC8 HI8
              obtain ⟨j, hj, rfl, HIN, HBw8, HBq, HC8, HI8⟩ := hrel
              obtain rfl | rfl | rfl : j = 0 ∨ j = 1 ∨ j = 2 := by omega
              · skip
                
                have f0 := HC8.out.at 0 _ rfl
                have f1 := HC8.out.at 1 _ rfl
                have f2 := HC8.out.at 2 _ rfl
                have s0 := HI8.out.at 0 _ rfl
                have s1 := HI8.out.at 1 _ rfl
                go_wp2_with fail
                go_at_call 31
                refine (IH.out th lh Ah ch false _ ra HLH.out HCM.out.1 (HHW.out.1.below HBq.out) (HV.out.below HBw8.out) HRA).mono ?_
                rintro e w9 ⟨rfl, hb9⟩
                have HC9 := Lib.hid (HC8.out.next hb9)
                have HI9 := Lib.hid (HI8.out.next hb9)
                have HBw9 := Lib.hid (HBw8.out.trans (hb9.mono HBw8.out.size))
                have HBq9 := Lib.hid (HBq.out.trans (hb9.mono HBq.out.size))
                clear hb9 HC8 HI8 HBw8 HBq f0 f1 f2 s0 s1
                by_cases hr0 : ra = 0
                case neg =>
                  have hbn := bne_of hr0
                  have hr : r = ra := by have := HIN.out; simp [innerC, hr0] at this; exact this.symm
                  subst hr
                  clear HIN
                  go_wp2_with fail
                  go_ret
                  exact ⟨rfl, HBw9.out⟩
                have HIN' : Hid (innerC ra rb rest (0 + 1) = r) := by show _ = _; have := HIN.out; simp [innerC, hr0] at this; simpa [innerC] using this
                have hbn : (ra != 0) = false := by rw [hr0]; rfl
                clear HIN hr0
                go_wp2_with fail
                go_roundw
                case rel => exact ⟨0 + 1, by omega, by go_num, HIN', HBw9, HBq9, HC9, HI9⟩
                case measure => simp [intOf]
              · skip
                
                have f0 := HC8.out.at 0 _ rfl
                have f1 := HC8.out.at 1 _ rfl
                have f2 := HC8.out.at 2 _ rfl
                have s0 := HI8.out.at 0 _ rfl
                have s1 := HI8.out.at 1 _ rfl
                go_wp2_with fail
                go_at_call 31
                refine (IH.out el le Ae ce false _ rb HLE.out HCM.out.2 (HHW.out.2.below HBq.out) (HV.out.below HBw8.out) HRB).mono ?_
                rintro e w9 ⟨rfl, hb9⟩
                have HC9 := Lib.hid (HC8.out.next hb9)
                have HI9 := Lib.hid (HI8.out.next hb9)
                have HBw9 := Lib.hid (HBw8.out.trans (hb9.mono HBw8.out.size))
                have HBq9 := Lib.hid (HBq.out.trans (hb9.mono HBq.out.size))
                clear hb9 HC8 HI8 HBw8 HBq f0 f1 f2 s0 s1
                by_cases hr0 : rb = 0
                case neg =>
                  have hbn := bne_of hr0
                  have hr : r = rb := by have := HIN.out; simp [innerC, hr0] at this; exact this.symm
                  subst hr
                  clear HIN
                  go_wp2_with fail
                  go_ret
                  exact ⟨rfl, HBw9.out⟩
                have HIN' : Hid (innerC ra rb rest (1 + 1) = r) := by show _ = _; have := HIN.out; simp [innerC, hr0] at this; simpa [innerC] using this
                have hbn : (rb != 0) = false := by rw [hr0]; rfl
                clear HIN hr0
                go_wp2_with fail
                go_roundw
                case rel => exact ⟨1 + 1, by omega, by go_num, HIN', HBw9, HBq9, HC9, HI9⟩
                case measure => simp [intOf]
              · have HS' : Hid (stepsC vs lg true (ks.drop (k + 1)) = r) := by show _ = _; rw [HREST.out]; exact HIN.out
                clear HIN
                go_wp2_with fail
                go_roundw
                case rel => exact ⟨k + 1, by omega, by go_num, HS', HBw8, HC8⟩
                case measure => simp [intOf]; omega
      · obtain rfl : k = l := by omega
        have hr : r = 0 := by rw [← HS.out, List.drop_of_length_le (by rw [HL.out]; exact Nat.le_refl _), stepsC]
        subst hr
        clear HS
        go_wp2_with fail
        go_ret
        exact ⟨rfl, HBw.out⟩
end Go.Proofs.YtjpjmoejdkmglaaGreat
