/-
  The walk over hatchesCode.
-/
import Derived.Test.YtjpjmoejdkmglaaGreatFlO
namespace Go.Proofs.YtjpjmoejdkmglaaGreat
open Go.RowKit

/-- The code of a hatch behind others. -/
def hatC (vs : List Vr) (pre : List Ht) (h : Ht) : Int :=
  if nameB h.name = false then 7 else if dupH pre h.name = true then 8 else if boundB h.low h.high = false then 3 else termC vs true h.t
def hatAt (vs : List Vr) (hs : List Ht) (i : Nat) : Int := (hs[i]?.map (hatC vs (hs.take i))).getD 0
def hatsC (vs : List Vr) (hs : List Ht) : Int := fstC hs.length (hatAt vs hs)
theorem HOk.take {w : World} {A : Option Addr} {l c : Nat} {vs : List Ht} (h : HOk w A l c vs) (k : Nat) (hk : k ≤ l) : HOk w A k c (vs.take k) := by
  refine ⟨by rw [List.length_take, h.len]; omega, Nat.le_trans hk h.cap, h.big, fun v hv => h.nm v (List.mem_of_mem_take hv), fun h0 => ?_⟩
  obtain ⟨g, f, h1, h2, h3⟩ := h.mem (by omega)
  refine ⟨g, f, h1, h2, fun j hj => ?_⟩
  rw [List.getElem_take]
  exact h3 j (by rw [List.length_take] at hj; omega)

set_option maxRecDepth 100000 in
set_option maxHeartbeats 4000000 in
theorem hatchesCode_b (vs : List Vr) (hvb : vB vs) (hs : List Ht) (Av : Option Addr) (lv cv : Nat) (Ah : Option Addr) (lh ch : Nat) (Ab : Option Addr) (lb cb : Nat) (w : World) (hv : VOk w Av lv cv vs) (hh : HOk w Ah lh ch hs) (r : Int) (H : Hid (hatsC vs hs = r)) :
    Calls Tryz.prog 30 #[.agg #[.slice Av lv cv, .slice Ah lh ch, .slice Ab lb cb]] w fun e w' => e = .returned (.int .i64 r) ∧ Below w.heap.size w w' := by
  have HV := Lib.hid hv
  have HVB := Lib.hid hvb
  have HH := Lib.hid hh
  have HHL := Lib.hid hh.len
  have hlv : lh ≤ 9223372036854775807 := by have h1 := hh.cap; have h2 := hh.big; unfold maxLen at h2; omega
  have HF0 := Lib.hid (Cs.new w #[.slice Av lv cv, .slice Ah lh ch, .slice Ab lb cb] 26)
  have hbf := (Below.refl w.heap.size w).alloc (Nat.le_refl _) (.cells #[.slice Av lv cv, .slice Ah lh ch, .slice Ab lb cb] 26)
  have HB0 := Lib.hid hbf
  clear hv hvb hh hbf
  go_enter Tryz.func30, Tryz.ntmps30
  go_upto_region 2 with fail
  obtain ⟨w1, hw1⟩ : ∃ w1, w.alloc (.cells #[.slice Av lv cv, .slice Ah lh ch, .slice Ab lb cb] 26) = w1 := ⟨_, rfl⟩
  obtain ⟨p, hp⟩ : ∃ p, w.heap.size = p := ⟨_, rfl⟩
  rw [hw1] at HF0 HB0
  rw [hp] at HF0
  rw [hw1, hp]
  have HP := Lib.hid hp
  clear hw1 hp
  go_loopw [10] (fun v wr => ∃ k : Nat, k ≤ lh ∧ v = .int .i64 k ∧ Hid (∀ j, j < k → hatAt vs hs j = 0) ∧ Hid (Below w.heap.size w wr) ∧ Hid (Cs wr p [.slice Av lv cv, .slice Ah lh ch, .slice Ab lb cb])) (fun v _ => lh - (intOf v).toNat)
  case atStart => exact ⟨0, by omega, rfl, Lib.hid (fun j h => absurd h (by omega)), HB0, HF0⟩
  case round =>
    clear HF0 HB0
    obtain ⟨k, hk, rfl, HK, HB, HF⟩ := hrel
    by_cases hlt : k < lh
    · have hlt' : (k : Int) < (lh : Int) := by omega
      have HVT := Lib.hid ((HH.out.below HB.out).take k (by omega))
      obtain ⟨s, lo, hi, o, n, ks, g, f, A2, c2, hvs, hs', hA, hg, k0, k1, k2, k3, k4, k5, htk⟩ := (HH.out.below HB.out).at k hlt
      subst hA
      obtain ⟨l2, hl2⟩ : ∃ l2, ks.length = l2 := ⟨_, rfl⟩
      rw [hl2] at k5
      have HL2 := Lib.hid hl2
      have hcap := HH.out.cap
      have hbig := HH.out.big
      have hcm : ch ≤ 9223372036854775807 := by unfold maxLen at hbig; omega
      clear hbig hl2
      obtain ⟨y, hy⟩ : ∃ y, hatC vs (hs.take k) ⟨s, lo, hi, .mk o n ks⟩ = y := ⟨_, rfl⟩
      have hat : hatAt vs hs k = y := by unfold hatAt; rw [hvs]; exact hy
      have HAT := Lib.hid hat
      have HR : Hid (y ≠ 0 → r = y) := fun hne => by
        rw [← H.out]
        unfold hatsC
        rw [fstC_hit hs.length k (hatAt vs hs) (by rw [HHL.out]; exact hlt) HK.out (by rw [hat]; exact hne), hat]
      have hba := (Below.refl wr.heap.size wr).alloc (Nat.le_refl _) (.cells #[.string s, .int .i64 lo, .int .i64 hi, .int .i64 o, .int .i64 n, .slice A2 l2 c2] 62)
      have HB4 := Lib.hid (HB.out.trans (hba.mono HB.out.size))
      have HN4 := Lib.hid (Cs.new wr #[.string s, .int .i64 lo, .int .i64 hi, .int .i64 o, .int .i64 n, .slice A2 l2 c2] 62)
      have HF4 := Lib.hid (HF.out.next hba)
      have HVT4 := Lib.hid (HVT.out.below hba)
      have HV4 := Lib.hid ((HV.out.below HB.out).below hba)
      have HTK4 := Lib.hid (htk.below hba)
      have HHS := Lib.hid hs'
      obtain ⟨b1, hb1⟩ : ∃ b, nameB s = b := ⟨_, rfl⟩
      obtain ⟨b2, hb2⟩ : ∃ b, dupH (hs.take k) s = b := ⟨_, rfl⟩
      obtain ⟨b4, hb4⟩ : ∃ b, boundB lo hi = b := ⟨_, rfl⟩
      obtain ⟨t, ht⟩ : ∃ t, termC vs true (.mk o n ks) = t := ⟨_, rfl⟩
      unfold hatC at hy
      simp only [hb1, hb2, hb4, ht] at hy
      have HB1 := Lib.hid hb1
      have HB2 := Lib.hid hb2
      have HBB4 := Lib.hid hb4
      have HT1 := Lib.hid ht
      clear hba hvs hat hs' hb1 hb2 hb4 HVT ht htk
      have m0 := HF.out.at 0 _ rfl
      have m1 := HF.out.at 1 _ rfl
      have m2 := HF.out.at 2 _ rfl
      go_upto_region 4 with fail
      obtain ⟨w4, hw4⟩ : ∃ w4, wr.alloc (.cells #[.string s, .int .i64 lo, .int .i64 hi, .int .i64 o, .int .i64 n, .slice A2 l2 c2] 62) = w4 := ⟨_, rfl⟩
      obtain ⟨b, hb⟩ : ∃ b, wr.heap.size = b := ⟨_, rfl⟩
      rw [hw4] at HB4 HN4 HVT4 HF4 HV4 HTK4
      rw [hb] at HN4
      rw [hw4, hb]
      clear hw4 hb k0 k1 k2 k3 k4 k5 m0 m1 m2 HF
      have n0 := HN4.out.at 0 _ rfl
      have n1 := HN4.out.at 1 _ rfl
      have n2 := HN4.out.at 2 _ rfl
      have n3 := HN4.out.at 3 _ rfl
      have n4 := HN4.out.at 4 _ rfl
      have n5 := HN4.out.at 5 _ rfl
      have m0 := HF4.out.at 0 _ rfl
      have m1 := HF4.out.at 1 _ rfl
      have m2 := HF4.out.at 2 _ rfl
      go_wp2_with fail
      go_at_call 59
      refine (isName_b s b1 HB1 HHS.out _).mono ?_
      rintro e w5 ⟨rfl, rfl⟩
      cases b1 with
      | false =>
        simp only [if_pos] at hy
        have hr := HR.out (by omega)
        rw [← hy] at hr
        subst hr
        clear HR hy
        go_wp2_with fail
        go_ret
        exact ⟨rfl, HB4.out⟩
      | true =>
        rw [if_neg (by decide)] at hy
        go_wp2_with fail
        go_at_call 64
        refine (hcontains_b (hs.take k) s _ k ch b b2 HB2 _ HVT4.out n0 HN4.out.lt).mono ?_
        rintro e w6 ⟨rfl, hb6⟩
        have HN6 := Lib.hid (HN4.out.next hb6)
        have HF6 := Lib.hid (HF4.out.next hb6)
        have HV6 := Lib.hid (HV4.out.below hb6)
        have HTK6 := Lib.hid (HTK4.out.below hb6)
        have HB6 := Lib.hid (HB4.out.trans (hb6.mono HB4.out.size))
        clear hb6 n0 n1 n2 n3 n4 n5 m0 m1 m2 HN4 HB4 HVT4 HF4 HV4 HTK4
        have n0 := HN6.out.at 0 _ rfl
        have n1 := HN6.out.at 1 _ rfl
        have n2 := HN6.out.at 2 _ rfl
        have n3 := HN6.out.at 3 _ rfl
        have n4 := HN6.out.at 4 _ rfl
        have n5 := HN6.out.at 5 _ rfl
        have m0 := HF6.out.at 0 _ rfl
        have m1 := HF6.out.at 1 _ rfl
        have m2 := HF6.out.at 2 _ rfl
        cases b2 with
        | true =>
          simp only [if_pos] at hy
          have hr := HR.out (by omega)
          rw [← hy] at hr
          subst hr
          clear HR hy
          go_wp2_with fail
          go_ret
          exact ⟨rfl, HB6.out⟩
        | false =>
          rw [if_neg (by decide)] at hy
          cases b4 with
          | false =>
            simp only [if_pos] at hy
            go_wp2_with fail
            go_at_call 61
            refine (bounded_b lo hi false HBB4 _).mono ?_
            rintro e w7 ⟨rfl, rfl⟩
            have hr := HR.out (by omega)
            rw [← hy] at hr
            subst hr
            clear HR hy
            go_wp2_with fail
            go_ret
            exact ⟨rfl, HB6.out⟩
          | true =>
            rw [if_neg (by decide)] at hy
            go_wp2_with fail
            go_at_call 61
            refine (bounded_b lo hi true HBB4 _).mono ?_
            rintro e w7 ⟨rfl, rfl⟩
            go_wp2_with fail
            go_at_call 65
            refine (termCode_b vs HVB.out Av lv cv true o n ks l2 A2 c2 _ t HL2.out HTK6.out HV6.out HT1).mono ?_
            rintro e w8 ⟨rfl, hb8⟩
            have HF8 := Lib.hid (HF6.out.next hb8)
            have HB8 := Lib.hid (HB6.out.trans (hb8.mono HB6.out.size))
            clear hb8
            by_cases ht0 : t = 0
            · subst ht0
              have HK' : Hid (∀ j, j < k + 1 → hatAt vs hs j = 0) := fun j hj => by
                by_cases hjk : j = k
                · subst hjk; rw [HAT.out, hy]
                · exact HK.out j (by omega)
              clear HR hy HK
              go_wp2_with fail
              go_roundw
              case rel => exact ⟨k + 1, by omega, by go_num, HK', HB8, HF8⟩
              case measure => simp [intOf]; omega
            · have htb := bne_of ht0
              have hr := HR.out (by omega)
              rw [← hy] at hr
              subst hr
              clear HR hy
              go_wp2_with fail
              go_ret
              exact ⟨rfl, HB8.out⟩
    · obtain rfl : k = lh := by omega
      have hr : r = 0 := by
        rw [← H.out]
        unfold hatsC
        exact fstC_none _ _ fun j hj => HK.out j (by have := HHL.out; omega)
      subst hr
      clear HK H
      go_wp2_with fail
      go_ret
      exact ⟨rfl, HB.out⟩
end Go.Proofs.YtjpjmoejdkmglaaGreat
