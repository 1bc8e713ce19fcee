/-
  The walks over size and Size.
-/
import Derived.Test.YtjpjmoejdkmglaaFlB
import Derived.Test.YtjpjmoejdkmglaaFlEp
namespace Go.Proofs.Ytjpjmoejdkmglaa
open Go.RowKit

set_option maxRecDepth 100000 in
set_option maxHeartbeats 4000000 in
theorem size_any (m : Nat) : ∀ (ks : List Sp) (l : Nat) (A : Option Addr) (c : Nat) (w : World) (r : Nat), ks.length = l → Sp.cntL ks ≤ m → Sp.cntL ks ≤ 1000000 → SOk w A c ks → Hid (sizeL ks = r) →
    Calls Try.prog 64 #[.slice A l c] w fun e w' => e = .returned (.int .i64 (r : Nat)) ∧ Below w.heap.size w w' := by
  induction m with
  | zero =>
    intro ks l A c w r hl hm hm' ht H
    have hk : ks = [] := by
      cases ks with
      | nil => rfl
      | cons k ks => have := Sp.cnt_pos k; simp only [Sp.cntL] at hm; omega
    subst hk
    have hl0 : l = 0 := hl.symm
    subst hl0
    have hr : r = 0 := by rw [← H.out, sizeL]
    subst hr
    clear ht H
    go_enter Try.func64, Try.ntmps64
    go_wp2_with fail
    go_loopw [3, 10] (fun u v wr => u = .int .i64 0 ∧ v = .int .i64 0 ∧ wr = w) (fun _ _ _ => 0)
    case atStart => exact ⟨rfl, rfl, rfl⟩
    case round =>
      obtain ⟨rfl, rfl, rfl⟩ := hrel
      go_wp2_with fail
      go_ret
      exact ⟨rfl, Below.refl _ _⟩
  | succ m ih =>
    intro ks l A c w r hl hm hm' ht H
    have IH := Lib.hid ih
    have HM := Lib.hid hm
    have HM' := Lib.hid hm'
    have HL := Lib.hid hl
    have HT := Lib.hid ht
    have hlm : l ≤ 1000000 := by have := Sp.len_cntL ks; omega
    have HRM : Hid (r ≤ 1000000) := Lib.hid (by rw [← H.out]; exact Nat.le_trans (sizeL_cnt ks) hm')
    have HS0 : Hid (l + sizeX (ks.drop 0) = r) := by show _ = _; rw [← H.out, List.drop_zero, sizeL_x, hl]
    clear ih hm hm' hl ht H
    go_enter Try.func64, Try.ntmps64
    go_wp2_with fail
    go_loopw [3, 10] (fun u v wr => ∃ k s : Nat, k ≤ l ∧ v = .int .i64 k ∧ u = .int .i64 (s : Nat) ∧ Hid (s + sizeX (ks.drop k) = r) ∧ Hid (Below w.heap.size w wr)) (fun _ v _ => l - (intOf v).toNat)
    case atStart => exact ⟨0, l, by omega, rfl, rfl, HS0, Lib.hid (Below.refl _ _)⟩
    case round =>
      clear HS0
      obtain ⟨k, s, hk, rfl, rfl, HS, HB⟩ := hrel
      by_cases hlt : k < l
      · have hkl : k < ks.length := by rw [HL.out]; exact hlt
        obtain ⟨d, x1, v, n, o, tn, tk, th, el, bs, g, f, At, ct, Ah, ch, Ae, ce, Ab, cb, hkid, hA, hg, hsc, htok, hth, hel, hbs⟩ := (HT.out.below HB.out).step k hkl
        subst hA
        obtain ⟨lt, hlt1⟩ : ∃ l, tk.length = l := ⟨_, rfl⟩
        obtain ⟨lh, hlh⟩ : ∃ l, th.length = l := ⟨_, rfl⟩
        obtain ⟨le, hle⟩ : ∃ l, el.length = l := ⟨_, rfl⟩
        obtain ⟨lb, hlb⟩ : ∃ l, bs.length = l := ⟨_, rfl⟩
        rw [hlt1, hlh, hle, hlb] at hsc
        rw [hlb] at hbs
        have hdr : ks.drop k = .mk d x1 v n (.mk o tn tk) th el bs :: ks.drop (k + 1) := by rw [List.drop_eq_getElem_cons hkl, hkid]
        have hcm : 1 + Tm.cnt (.mk o tn tk) + Sp.cntL th + Sp.cntL el ≤ m + 1 := by
          have := Sp.cntL_get ks k hkl
          rw [hkid] at this
          simp only [Sp.cnt] at this
          have := HM.out
          omega
        have HLT := Lib.hid hlt1
        have HLH := Lib.hid hlh
        have HLE := Lib.hid hle
        have HLB := Lib.hid hlb
        have HCM := Lib.hid hcm
        obtain ⟨c0, c1, c2, c3, c4, c5, c6, c7, c8, c9⟩ := hsc
        have hrm : r ≤ 1000000 := HRM.out
        obtain ⟨ra, hra⟩ : ∃ z, sizeL th = z := ⟨_, rfl⟩
        obtain ⟨rb, hrb⟩ : ∃ z, sizeL el = z := ⟨_, rfl⟩
        have HS2 : Hid (s + (ra + rb) + sizeX (ks.drop (k + 1)) = r) := by
          show _ = _
          have := HS.out
          rw [sizeX_drop hkl, hkid, sizeO, hra, hrb] at this
          omega
        have hs0 : s + (ra + rb) ≤ 1000000 := by have := HS2.out; omega
        have HRA := Lib.hid hra
        have HRB := Lib.hid hrb
        have HSM : Hid (Sp.cntL th ≤ 1000000 ∧ Sp.cntL el ≤ 1000000) := Lib.hid (by have := HM'.out; have := HM.out; have h3 := Sp.cntL_get ks k hkl; rw [hkid] at h3; simp only [Sp.cnt] at h3; omega)
        have hw1 : IntKind.i64.wrap ((ra : Int) + (rb : Int)) = ((ra + rb : Nat) : Int) := by rw [IntWalk.i64_in _ (by omega)]; omega
        have HW2 : Hid (Value.int .i64 (IntKind.i64.wrap ((s : Int) + ((ra : Int) + (rb : Int)))) = .int .i64 ((s + (ra + rb) : Nat) : Int)) := by show _ = _; rw [IntWalk.i64_in _ (by omega)]; congr 1 <;> omega
        have hlt' : (k : Int) < (l : Int) := by omega
        have HHH := Lib.hid hth
        have HHE := Lib.hid hel
        clear hkid hdr hcm hlt1 hlh hle hlb htok hth hel hbs hra hrb HS hs0
        have hba := (Below.refl wr.heap.size wr).alloc (Nat.le_refl _) (.cells #[.int .i64 d, .int .i64 x1, .int .i64 v, .int .i64 n, .int .i64 o, .int .i64 tn, .slice At lt ct, .slice Ah lh ch, .slice Ae le ce, .slice Ab lb cb] 53)
        have HBx := Lib.hid (HB.out.trans (hba.mono HB.out.size))
        have HHHx := Lib.hid (HHH.out.below hba)
        have HHEx := Lib.hid (HHE.out.below hba)
        have HN := Lib.hid (Cs.new wr #[.int .i64 d, .int .i64 x1, .int .i64 v, .int .i64 n, .int .i64 o, .int .i64 tn, .slice At lt ct, .slice Ah lh ch, .slice Ae le ce, .slice Ab lb cb] 53)
        clear hba HB HHH HHE
        have HB := HBx
        have HHH := HHHx
        have HHE := HHEx
        clear HBx HHHx HHEx
        go_upto_region 5 with fail
        obtain ⟨w4, hwn⟩ : ∃ w4, wr.alloc (.cells #[.int .i64 d, .int .i64 x1, .int .i64 v, .int .i64 n, .int .i64 o, .int .i64 tn, .slice At lt ct, .slice Ah lh ch, .slice Ae le ce, .slice Ab lb cb] 53) = w4 := ⟨_, rfl⟩
        obtain ⟨q, hqn⟩ : ∃ q, wr.heap.size = q := ⟨_, rfl⟩
        rw [hwn] at HN HB HHH HHE
        rw [hqn] at HN
        rw [hwn, hqn]
        clear hwn hqn c0 c1 c2 c3 c4 c5 c6 c7 c8 c9
        have KP : Hid (∀ W, Below w4.heap.size w4 W → (W.cell? ⟨q, 7, none⟩ = some (.slice Ah lh ch) ∧ W.cell? ⟨q, 8, none⟩ = some (.slice Ae le ce))) := fun W h => ⟨(HN.out.next h).at 7 _ rfl, (HN.out.next h).at 8 _ rfl⟩
        go_region_held3 (fun W => W.cell? ⟨q, 7, none⟩ = some (.slice Ah lh ch) ∧ W.cell? ⟨q, 8, none⟩ = some (.slice Ae le ce)) (first | exact KP.out _ (Below.refl _ _).drew | exact KP.out _ HD1.out | exact KP.out _ HD2.out) (first
          | (go_at_call 64; refine (IH.out el le Ae ce _ rb HLE.out (by have := HCM.out; omega) HSM.out.2 (HHE.out.below HD1.out) HRB).mono ?_; rintro e w6 ⟨rfl, hb2⟩; have HD2 := Lib.hid (HD1.out.trans (hb2.mono HD1.out.size)); clear hb2)
          | (go_at_call 64; refine (IH.out th lh Ah ch _ ra HLH.out (by have := HCM.out; omega) HSM.out.1 (HHH.out.below (Below.refl _ _).drew) HRA).mono ?_; rintro e w5 ⟨rfl, hb1⟩; have HD1 := Lib.hid ((Below.refl w4.heap.size w4).drew.trans (hb1.mono (Nat.le_refl _))); clear hb1))
        have HB6 := Lib.hid (HB.out.trans (HD2.out.mono HB.out.size))
        clear HD1 HD2 KP HN HB HHH HHE
        go_wp2_with fail
        go_roundw
        case rel => exact ⟨k + 1, s + (ra + rb), by omega, by go_num, HW2.out, HS2, HB6⟩
        case measure => simp [intOf]; omega
      · obtain rfl : k = l := by omega
        have hr : s = r := by rw [← HS.out, List.drop_of_length_le (by rw [HL.out]; exact Nat.le_refl _)]; rfl
        subst hr
        clear HS
        go_wp2_with fail
        go_ret
        exact ⟨rfl, HB.out⟩
theorem Size_b (Av : Option Addr) (lv cv : Nat) (Ag : Option Addr) (lg cg : Nat) (Ay : Option Addr) (ly cy : Nat) (ks : List Sp) (w : World) (hl : ks.length = ly) (hm : Sp.cntL ks ≤ 1000000) (hk : SOk w Ay cy ks) (r : Nat) (H : Hid (sizeL ks = r)) :
    Calls Try.prog 27 #[.agg #[.slice Av lv cv, .slice Ag lg cg, .slice Ay ly cy]] w fun e w' => e = .returned (.int .i64 (r : Nat)) ∧ Below w.heap.size w w' := by
  have hba := (Below.refl w.heap.size w).alloc (Nat.le_refl _) (.cells #[.slice Av lv cv, .slice Ag lg cg, .slice Ay ly cy] 26)
  have HB := Lib.hid hba
  have HK := Lib.hid (hk.below hba)
  have HL := Lib.hid hl
  have HM := Lib.hid hm
  clear hba hk hl hm
  go_enter Try.func27, Try.ntmps27
  go_wp2_with fail
  go_at_call 64
  refine (size_any (Sp.cntL ks) ks ly Ay cy _ r HL.out (Nat.le_refl _) HM.out HK.out H).mono ?_
  rintro e w2 ⟨rfl, hb⟩
  have HB2 := Lib.hid (HB.out.trans (hb.mono HB.out.size))
  clear hb HB HK
  go_wp2_with fail
  go_ret
  exact ⟨rfl, HB2.out⟩
end Go.Proofs.Ytjpjmoejdkmglaa
