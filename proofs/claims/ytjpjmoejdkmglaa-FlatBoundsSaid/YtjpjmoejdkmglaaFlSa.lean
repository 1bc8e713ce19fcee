/-
  The walks over Span, of the program and of the reference, and over the program's Bounds.
-/
import Derived.Test.YtjpjmoejdkmglaaJC
import Derived.Test.YtjpjmoejdkmglaaJH
namespace Go.Proofs.Ytjpjmoejdkmglaa
open Go.RowKit

def onceS (N C : Int) : Int := if 0 < N then C else 0
/-- The least and the greatest time of a step. -/
def spN (d o tn C N : Int) (a b : Int × Int) : Int × Int :=
  if d = 3 then (C + min a.1 b.1, C + max a.2 b.2)
  else if d = 4 then (if o ≠ 0 then (onceS N C, N * (C + a.2)) else if tn ≠ 0 then (N * (C + a.1), N * (C + a.2)) else (onceS N C, onceS N C))
  else (C, C)
def spA (s t : Int × Int) : Int × Int := (min (s.1 + t.1) 67108865, min (s.2 + t.2) 67108865)
mutual
def spO : Sp → Int × Int
  | .mk d c _ n (.mk o tn _) th el _ => spN d o tn (clampP c 0 67108865) (clampP n 0 4096) (spL th (0, 0)) (spL el (0, 0))
def spL : List Sp → Int × Int → Int × Int
  | [], s => s
  | k :: ks, s => spL ks (spA s (spO k))
end
def inSp (s : Int × Int) : Prop := (0 ≤ s.1 ∧ s.1 ≤ 67108865) ∧ (0 ≤ s.2 ∧ s.2 ≤ 67108865)
def inSt (s : Int × Int) : Prop := (0 ≤ s.1 ∧ s.1 ≤ 549755822080) ∧ (0 ≤ s.2 ∧ s.2 ≤ 549755822080)
theorem clamp_in (n lo hi : Int) (h : lo ≤ hi) : lo ≤ clampP n lo hi ∧ clampP n lo hi ≤ hi := by unfold clampP; omega
theorem sp_mul {N C a : Int} (h0 : 0 ≤ N) (h1 : N ≤ 4096) (c0 : 0 ≤ C) (c1 : C ≤ 67108865) (a0 : 0 ≤ a) (a1 : a ≤ 67108865) : 0 ≤ N * (C + a) ∧ N * (C + a) ≤ 549755822080 := by
  refine ⟨Int.mul_nonneg h0 (by omega), ?_⟩
  have := Int.mul_le_mul h1 (show C + a ≤ 134217730 by omega) (by omega) (by omega)
  omega
theorem spN_in {d o tn C N : Int} {a b : Int × Int} (h0 : 0 ≤ N) (h1 : N ≤ 4096) (c0 : 0 ≤ C) (c1 : C ≤ 67108865) (ha : inSp a) (hb : inSp b) : inSt (spN d o tn C N a b) := by
  obtain ⟨⟨p1, p2⟩, ⟨p3, p4⟩⟩ := ha
  obtain ⟨⟨q1, q2⟩, ⟨q3, q4⟩⟩ := hb
  have m1 := sp_mul h0 h1 c0 c1 p1 p2
  have m2 := sp_mul h0 h1 c0 c1 p3 p4
  unfold spN inSt onceS
  by_cases h3 : d = 3
  · rw [if_pos h3]; simp only; omega
  rw [if_neg h3]
  by_cases h4 : d = 4
  · rw [if_pos h4]
    by_cases ho : o = 0
    · rw [if_neg (by simpa using ho)]
      by_cases ht : tn = 0
      · rw [if_neg (by simpa using ht)]; simp only; split <;> omega
      · rw [if_pos ht]; exact ⟨m1, m2⟩
    · rw [if_pos ho]
      refine ⟨?_, m2⟩
      simp only
      split <;> omega
  · rw [if_neg h4]; simp only; omega
theorem spA_in {s t : Int × Int} (hs : inSp s) (ht : inSt t) : inSp (spA s t) := by
  obtain ⟨a1, a2⟩ := hs
  obtain ⟨b1, b2⟩ := ht
  unfold spA inSp
  simp only
  omega
theorem inSp_zero : inSp (0, 0) := by unfold inSp; simp only; omega
mutual
theorem spL_in : ∀ (ks : List Sp) (s : Int × Int), inSp s → inSp (spL ks s)
  | [], s, hs => by rw [spL]; exact hs
  | k :: ks, s, hs => by rw [spL]; exact spL_in ks _ (spA_in hs (spO_in k))
theorem spO_in : ∀ (k : Sp), inSt (spO k)
  | .mk d c _ n (.mk o tn _) th el _ => by
    rw [spO]
    have hc := clamp_in c 0 67108865 (by decide)
    have hn := clamp_in n 0 4096 (by decide)
    exact spN_in hn.1 hn.2 hc.1 hc.2 (spL_in th _ inSp_zero) (spL_in el _ inSp_zero)
end
theorem held_clamp (n lo hi : Int) (h : lo ≤ hi) : (if n < lo then lo else if hi < n then hi else n) = clampP n lo hi := by unfold clampP; split <;> (try split) <;> omega
theorem clamp_same (n lo hi r : Int) (H : Hid (clampP n lo hi = r)) (w : World) : Calls Try.prog 57 #[.int .i64 n, .int .i64 lo, .int .i64 hi] w fun e w' => e = .returned (.int .i64 r) ∧ w' = w := (clamp_b n lo hi r H w).mono fun _ _ h => ⟨h.1, h.2.symm⟩
theorem rheld_same (n lo hi r : Int) (h : lo ≤ hi) (H : Hid (clampP n lo hi = r)) (w : World) : Calls Try.prog 58 #[.int .i64 n, .int .i64 lo, .int .i64 hi] w fun e w' => e = .returned (.int .i64 r) ∧ w' = w := (rheld_b n lo hi r (show _ = _ by rw [held_clamp n lo hi h]; exact H.out) w).mono fun _ _ h => ⟨h.1, h.2.symm⟩

set_option maxRecDepth 100000 in
set_option maxHeartbeats 8000000 in
theorem span_any (m : Nat) : ∀ (ks : List Sp) (l : Nat) (A : Option Addr) (c : Nat) (w : World) (r : Int × Int), ks.length = l → Sp.cntL ks ≤ m → SOk w A c ks → Hid (spL ks (0, 0) = r) →
    Calls Try.prog 20 #[.slice A l c] w fun e w' => e = .returned (.tuple #[.int .i64 r.1, .int .i64 r.2]) ∧ Below w.heap.size w w' := by
  induction m with
  | zero =>
    intro ks l A c w r hl hm ht H
    have hk : ks = [] := by
      cases ks with
      | nil => rfl
      | cons k ks => have := Sp.cnt_pos k; simp only [Sp.cntL] at hm; omega
    subst hk
    have hl0 : l = 0 := hl.symm
    subst hl0
    have hr : r = (0, 0) := by rw [← H.out, spL]
    subst hr
    clear ht H
    go_enter Try.func20, Try.ntmps20
    go_wp2_with fail
    go_loopw [2, 3, 19] (fun u1 u2 v wr => u1 = .int .i64 0 ∧ u2 = .int .i64 0 ∧ v = .int .i64 0 ∧ wr = w) (fun _ _ _ _ => 0)
    case atStart => exact ⟨rfl, rfl, rfl, rfl⟩
    case round =>
      obtain ⟨rfl, rfl, rfl, rfl⟩ := hrel
      go_wp2_with fail
      go_returns
      exact ⟨rfl, Below.refl _ _⟩
  | succ m ih =>
    intro ks l A c w r hl hm ht H
    have IH := Lib.hid ih
    have HM := Lib.hid hm
    have HL := Lib.hid hl
    have HT := Lib.hid ht
    have hlm : l ≤ 9223372036854775807 := by have h1 := ht.1; have h2 := ht.2.1; unfold maxLen at h2; omega
    have HS0 : Hid (spL (ks.drop 0) (0, 0) = r) := H
    clear ih hm hl ht H
    go_enter Try.func20, Try.ntmps20
    go_wp2_with fail
    go_loopw [2, 3, 19] (fun u1 u2 v wr => ∃ (k : Nat) (s1 s2 : Int), k ≤ l ∧ u1 = .int .i64 s1 ∧ u2 = .int .i64 s2 ∧ v = .int .i64 k ∧ (0 ≤ s1 ∧ s1 ≤ 67108865) ∧ (0 ≤ s2 ∧ s2 ≤ 67108865) ∧ Hid (spL (ks.drop k) (s1, s2) = r) ∧ Hid (Below w.heap.size w wr)) (fun _ _ v _ => l - (intOf v).toNat)
    case atStart => exact ⟨0, 0, 0, by omega, rfl, rfl, rfl, by omega, by omega, HS0, Lib.hid (Below.refl _ _)⟩
    case round =>
      clear HS0
      obtain ⟨k, s1, s2, hk, rfl, rfl, rfl, ⟨i1, i2⟩, ⟨i3, i4⟩, HS, HB⟩ := hrel
      by_cases hlt : k < l
      · have hkl : k < ks.length := by rw [HL.out]; exact hlt
        have hlt' : (k : Int) < (l : Int) := by omega
        have hk0 : (0 : Int) ≤ (k : Int) := by omega
        obtain ⟨d, x1, v, n, o, tn, tk, th, el, bs, g, f, At, ct, Ah, ch, Ae, ce, Ab, cb, hkid, hA, hg, hsc, htok, hth, hel, hbs⟩ := (HT.out.below HB.out).step k hkl
        subst hA
        obtain ⟨lt, hlt1⟩ : ∃ l, tk.length = l := ⟨_, rfl⟩
        obtain ⟨lh, hlh⟩ : ∃ l, th.length = l := ⟨_, rfl⟩
        obtain ⟨le, hle⟩ : ∃ l, el.length = l := ⟨_, rfl⟩
        obtain ⟨lb, hlb⟩ : ∃ l, bs.length = l := ⟨_, rfl⟩
        rw [hlt1, hlh, hle, hlb] at hsc
        rw [hlb] at hbs
        have hdr : ks.drop k = .mk d x1 v n (.mk o tn tk) th el bs :: ks.drop (k + 1) := by rw [List.drop_eq_getElem_cons hkl, hkid]
        have hcm : 1 + Tm.cnt (.mk o tn tk) + Sp.cntL th + Sp.cntL el ≤ m + 1 := by
          have := Sp.cntL_get ks k hkl
          rw [hkid] at this
          simp only [Sp.cnt] at this
          have := HM.out
          omega
        have HLT := Lib.hid hlt1
        have HLH := Lib.hid hlh
        have HLE := Lib.hid hle
        have HLB := Lib.hid hlb
        have HCM := Lib.hid hcm
        obtain ⟨c0, c1, c2, c3, c4, c5, c6, c7, c8, c9⟩ := hsc
        have HSM : Hid (Sp.cntL th ≤ m ∧ Sp.cntL el ≤ m) := Lib.hid (by have h4 := Tm.cnt_pos (.mk o tn tk); omega)
        have HHH := Lib.hid hth
        have HHE := Lib.hid hel
        obtain ⟨⟨a1, a2⟩, ha⟩ : ∃ z, spL th (0, 0) = z := ⟨_, rfl⟩
        obtain ⟨⟨b1, b2⟩, hb⟩ : ∃ z, spL el (0, 0) = z := ⟨_, rfl⟩
        have hia := spL_in th _ inSp_zero
        have hib := spL_in el _ inSp_zero
        rw [ha] at hia
        rw [hb] at hib
        unfold inSp at hia hib
        simp only at hia hib
        obtain ⟨⟨p1, p2⟩, ⟨p3, p4⟩⟩ := hia
        obtain ⟨⟨q1, q2⟩, ⟨q3, q4⟩⟩ := hib
        obtain ⟨C, hC⟩ : ∃ z, clampP x1 0 67108865 = z := ⟨_, rfl⟩
        obtain ⟨N, hN⟩ : ∃ z, clampP n 0 4096 = z := ⟨_, rfl⟩
        have hc := clamp_in x1 0 67108865 (by decide)
        have hn := clamp_in n 0 4096 (by decide)
        rw [hC] at hc
        rw [hN] at hn
        obtain ⟨hc0, hc1⟩ := hc
        obtain ⟨hn0, hn1⟩ := hn
        have HS2 : Hid (spL (ks.drop (k + 1)) (spA (s1, s2) (spN d o tn C N (a1, a2) (b1, b2))) = r) := by
          show _ = _
          have := HS.out
          rw [hdr, spL, spO, ha, hb, hC, hN] at this
          exact this
        have HA := Lib.hid ha
        have HBb := Lib.hid hb
        have HCC := Lib.hid hC
        have HNN := Lib.hid hN
        clear hkid hdr hcm hlt1 hlh hle hlb htok hth hel hbs HS ha hb hC hN
        have hba := (Below.refl wr.heap.size wr).alloc (Nat.le_refl _) (.cells #[.int .i64 d, .int .i64 x1, .int .i64 v, .int .i64 n, .int .i64 o, .int .i64 tn, .slice At lt ct, .slice Ah lh ch, .slice Ae le ce, .slice Ab lb cb] 53)
        have HBx := Lib.hid (HB.out.trans (hba.mono HB.out.size))
        have HHHx := Lib.hid (HHH.out.below hba)
        have HHEx := Lib.hid (HHE.out.below hba)
        have HN := Lib.hid (Cs.new wr #[.int .i64 d, .int .i64 x1, .int .i64 v, .int .i64 n, .int .i64 o, .int .i64 tn, .slice At lt ct, .slice Ah lh ch, .slice Ae le ce, .slice Ab lb cb] 53)
        clear hba HB HHH HHE
        have HB := HBx
        have HHH := HHHx
        have HHE := HHEx
        clear HBx HHHx HHEx
        go_upto_region 4 with fail
        obtain ⟨w4, hwn⟩ : ∃ w4, wr.alloc (.cells #[.int .i64 d, .int .i64 x1, .int .i64 v, .int .i64 n, .int .i64 o, .int .i64 tn, .slice At lt ct, .slice Ah lh ch, .slice Ae le ce, .slice Ab lb cb] 53) = w4 := ⟨_, rfl⟩
        obtain ⟨q, hqn⟩ : ∃ q, wr.heap.size = q := ⟨_, rfl⟩
        rw [hwn] at HN HB HHH HHE 
        rw [hqn] at HN
        rw [hwn, hqn]
        clear hwn hqn c0 c1 c2 c3 c4 c5 c6 c7 c8 c9
        have n0 := HN.out.at 0 _ rfl
        have n1 := HN.out.at 1 _ rfl
        have n3 := HN.out.at 3 _ rfl
        have n4 := HN.out.at 4 _ rfl
        have n5 := HN.out.at 5 _ rfl
        have n7 := HN.out.at 7 _ rfl
        have n8 := HN.out.at 8 _ rfl
        go_quiet (first | ((go_at_call 57; exact Calls.quiet_of_same (clamp_same x1 0 67108865 C HCC _))) | ((go_at_call 57; exact Calls.quiet_of_same (clamp_same n 0 4096 N HNN _))))
        by_cases h3 : d = 3
        · have q3 : (d == 3) = true := by rw [h3]; rfl
          have hsp : spN d o tn C N (a1, a2) (b1, b2) = (C + min a1 b1, C + max a2 b2) := by unfold spN; rw [if_pos h3]
          have HSP := Lib.hid hsp
          clear hsp
          clear h3
          go_wp2_with fail
          go_at_call 20
          refine (IH.out th lh Ah ch _ (a1, a2) HLH.out HSM.out.1 (HHH.out.below (below_drewN (Below.refl _ _) _)) HA).mono ?_
          rintro e w5 ⟨rfl, hbx⟩
          have HD5 := Lib.hid ((below_drewN (Below.refl w4.heap.size w4) _).trans (hbx.mono (Nat.le_refl _)))
          have HN5 := Lib.hid (HN.out.next HD5.out)
          clear hbx n0 n1 n3 n4 n5 n7 n8
          have n8 := HN5.out.at 8 _ rfl
          go_wp2_with fail
          go_at_call 20
          refine (IH.out el le Ae ce _ (b1, b2) HLE.out HSM.out.2 (HHE.out.below HD5.out) HBb).mono ?_
          rintro e w6 ⟨rfl, hbx⟩
          have HB6 := Lib.hid (HB.out.trans ((HD5.out.trans (hbx.mono HD5.out.size)).mono HB.out.size))
          clear hbx n8 HD5 HN5
          simp only
          by_cases g1 : b1 < a1 <;> by_cases g2 : a2 < b2
          all_goals
            have HS3 : Hid (spL (ks.drop (k + 1)) (min (s1 + (C + min a1 b1)) 67108865, min (s2 + (C + max a2 b2)) 67108865) = r) := by
              show _ = _
              have := HS2.out
              rw [HSP.out] at this
              exact this
            clear HS2
            go_wp2_with fail
            go_roundw
            case rel => exact ⟨k + 1, min (s1 + (C + min a1 b1)) 67108865, min (s2 + (C + max a2 b2)) 67108865, by omega, by first | rfl | (congr 1; first | omega | (split <;> omega)), by first | rfl | (congr 1; first | omega | (split <;> omega)), by go_num, by omega, by omega, HS3, HB6⟩
            case measure => simp [intOf]; omega
        · have q3 := beq_of h3
          by_cases h4 : d = 4
          · have q4 : (d == 4) = true := by rw [h4]; rfl
            have hsp : spN d o tn C N (a1, a2) (b1, b2) = (if o ≠ 0 then (onceS N C, N * (C + a2)) else if tn ≠ 0 then (N * (C + a1), N * (C + a2)) else (onceS N C, onceS N C)) := by unfold spN; rw [if_neg h3, if_pos h4]
            have HSP := Lib.hid hsp
            clear hsp
            clear h3 h4
            go_wp2_with fail
            go_at_call 20
            refine (IH.out th lh Ah ch _ (a1, a2) HLH.out HSM.out.1 (HHH.out.below (below_drewN (Below.refl _ _) _)) HA).mono ?_
            rintro e w5 ⟨rfl, hbx⟩
            have HD5 := Lib.hid ((below_drewN (Below.refl w4.heap.size w4) _).trans (hbx.mono (Nat.le_refl _)))
            have HN5 := Lib.hid (HN.out.next HD5.out)
            have HB6 := Lib.hid (HB.out.trans (HD5.out.mono HB.out.size))
            clear hbx n0 n1 n3 n4 n5 n7 n8
            have n4 := HN5.out.at 4 _ rfl
            have n5 := HN5.out.at 5 _ rfl
            simp only
            have m1 := sp_mul hn0 hn1 hc0 hc1 p1 p2
            have m2 := sp_mul hn0 hn1 hc0 hc1 p3 p4
            obtain ⟨m10, m11⟩ := m1
            obtain ⟨m20, m21⟩ := m2
            obtain rfl | rfl | hN1 : N = 0 ∨ N = 1 ∨ 1 < N := by omega
            · clear m10 m11 m20 m21
              have hon : onceS 0 C = 0 := rfl
              by_cases ho : o = 0
              · have qo : (o == 0) = true := by rw [ho]; rfl
                have qon : (o != 0) = false := by rw [ho]; rfl
                by_cases ht : tn = 0
                · have qt : (tn == 0) = true := by rw [ht]; rfl
                  have qtn : (tn != 0) = false := by rw [ht]; rfl
                  have HSP2 : Hid (spN d o tn C 0 (a1, a2) (b1, b2) = (0, 0)) := by show _ = _; rw [HSP.out, if_neg (by simpa using ho), if_neg (by simpa using ht), hon]
                  clear HSP hon ho ht
                  have HS3 : Hid (spL (ks.drop (k + 1)) (min (s1 + (0)) 67108865, min (s2 + (0)) 67108865) = r) := by
                    show _ = _
                    have := HS2.out
                    rw [HSP2.out] at this
                    exact this
                  clear HS2
                  go_wp2_with fail
                  go_roundw
                  case rel => exact ⟨k + 1, min (s1 + (0)) 67108865, min (s2 + (0)) 67108865, by omega, by first | rfl | (congr 1; first | omega | (split <;> omega)), by first | rfl | (congr 1; first | omega | (split <;> omega)), by go_num, by omega, by omega, HS3, HB6⟩
                  case measure => simp [intOf]; omega
                · have qt := beq_of ht
                  have qtn := bne_of ht
                  have HSP2 : Hid (spN d o tn C 0 (a1, a2) (b1, b2) = (0, 0)) := by show _ = _; rw [HSP.out, if_neg (by simpa using ho), if_pos ht]; simp only [Int.zero_mul]
                  clear HSP hon ho ht
                  have HS3 : Hid (spL (ks.drop (k + 1)) (min (s1 + (0)) 67108865, min (s2 + (0)) 67108865) = r) := by
                    show _ = _
                    have := HS2.out
                    rw [HSP2.out] at this
                    exact this
                  clear HS2
                  go_wp2_with fail
                  go_roundw
                  case rel => exact ⟨k + 1, min (s1 + (0)) 67108865, min (s2 + (0)) 67108865, by omega, by first | rfl | (congr 1; first | omega | (split <;> omega)), by first | rfl | (congr 1; first | omega | (split <;> omega)), by go_num, by omega, by omega, HS3, HB6⟩
                  case measure => simp [intOf]; omega
              · have qo := beq_of ho
                have qon := bne_of ho
                have HSP2 : Hid (spN d o tn C 0 (a1, a2) (b1, b2) = (0, 0)) := by show _ = _; rw [HSP.out, if_pos ho, hon]; simp only [Int.zero_mul]
                clear HSP hon ho
                have HS3 : Hid (spL (ks.drop (k + 1)) (min (s1 + (0)) 67108865, min (s2 + (0)) 67108865) = r) := by
                  show _ = _
                  have := HS2.out
                  rw [HSP2.out] at this
                  exact this
                clear HS2
                go_wp2_with fail
                go_roundw
                case rel => exact ⟨k + 1, min (s1 + (0)) 67108865, min (s2 + (0)) 67108865, by omega, by first | rfl | (congr 1; first | omega | (split <;> omega)), by first | rfl | (congr 1; first | omega | (split <;> omega)), by go_num, by omega, by omega, HS3, HB6⟩
                case measure => simp [intOf]; omega
            · clear m10 m11 m20 m21
              have hon : onceS 1 C = C := by unfold onceS; rw [if_pos (by decide)]
              by_cases ho : o = 0
              · have qo : (o == 0) = true := by rw [ho]; rfl
                have qon : (o != 0) = false := by rw [ho]; rfl
                by_cases ht : tn = 0
                · have qt : (tn == 0) = true := by rw [ht]; rfl
                  have qtn : (tn != 0) = false := by rw [ht]; rfl
                  have HSP2 : Hid (spN d o tn C 1 (a1, a2) (b1, b2) = (C, C)) := by show _ = _; rw [HSP.out, if_neg (by simpa using ho), if_neg (by simpa using ht), hon]
                  clear HSP hon ho ht
                  have HS3 : Hid (spL (ks.drop (k + 1)) (min (s1 + (C)) 67108865, min (s2 + (C)) 67108865) = r) := by
                    show _ = _
                    have := HS2.out
                    rw [HSP2.out] at this
                    exact this
                  clear HS2
                  go_wp2_with fail
                  go_roundw
                  case rel => exact ⟨k + 1, min (s1 + (C)) 67108865, min (s2 + (C)) 67108865, by omega, by first | rfl | (congr 1; first | omega | (split <;> omega)), by first | rfl | (congr 1; first | omega | (split <;> omega)), by go_num, by omega, by omega, HS3, HB6⟩
                  case measure => simp [intOf]; omega
                · have qt := beq_of ht
                  have qtn := bne_of ht
                  have HSP2 : Hid (spN d o tn C 1 (a1, a2) (b1, b2) = (C + a1, C + a2)) := by show _ = _; rw [HSP.out, if_neg (by simpa using ho), if_pos ht]; simp only [Int.one_mul]
                  clear HSP hon ho ht
                  have HS3 : Hid (spL (ks.drop (k + 1)) (min (s1 + (C + a1)) 67108865, min (s2 + (C + a2)) 67108865) = r) := by
                    show _ = _
                    have := HS2.out
                    rw [HSP2.out] at this
                    exact this
                  clear HS2
                  go_wp2_with fail
                  go_roundw
                  case rel => exact ⟨k + 1, min (s1 + (C + a1)) 67108865, min (s2 + (C + a2)) 67108865, by omega, by first | rfl | (congr 1; first | omega | (split <;> omega)), by first | rfl | (congr 1; first | omega | (split <;> omega)), by go_num, by omega, by omega, HS3, HB6⟩
                  case measure => simp [intOf]; omega
              · have qo := beq_of ho
                have qon := bne_of ho
                have HSP2 : Hid (spN d o tn C 1 (a1, a2) (b1, b2) = (C, C + a2)) := by show _ = _; rw [HSP.out, if_pos ho, hon]; simp only [Int.one_mul]
                clear HSP hon ho
                have HS3 : Hid (spL (ks.drop (k + 1)) (min (s1 + (C)) 67108865, min (s2 + (C + a2)) 67108865) = r) := by
                  show _ = _
                  have := HS2.out
                  rw [HSP2.out] at this
                  exact this
                clear HS2
                go_wp2_with fail
                go_roundw
                case rel => exact ⟨k + 1, min (s1 + (C)) 67108865, min (s2 + (C + a2)) 67108865, by omega, by first | rfl | (congr 1; first | omega | (split <;> omega)), by first | rfl | (congr 1; first | omega | (split <;> omega)), by go_num, by omega, by omega, HS3, HB6⟩
                case measure => simp [intOf]; omega
            · have hN0 : 0 < N := by omega
              have hNd : decide (0 < N) = true := decide_eq_true hN0
              have hw1 : IntKind.i64.wrap (N * (C + a1)) = N * (C + a1) := IntWalk.i64_in _ (by omega)
              have hw2 : IntKind.i64.wrap (N * (C + a2)) = N * (C + a2) := IntWalk.i64_in _ (by omega)
              have hon : onceS N C = C := by unfold onceS; rw [if_pos hN0]
              by_cases ho : o = 0
              · have qo : (o == 0) = true := by rw [ho]; rfl
                have qon : (o != 0) = false := by rw [ho]; rfl
                by_cases ht : tn = 0
                · have qt : (tn == 0) = true := by rw [ht]; rfl
                  have qtn : (tn != 0) = false := by rw [ht]; rfl
                  have HSP2 : Hid (spN d o tn C N (a1, a2) (b1, b2) = (C, C)) := by show _ = _; rw [HSP.out, if_neg (by simpa using ho), if_neg (by simpa using ht), hon]
                  clear HSP hon ho ht
                  have HS3 : Hid (spL (ks.drop (k + 1)) (min (s1 + (C)) 67108865, min (s2 + (C)) 67108865) = r) := by
                    show _ = _
                    have := HS2.out
                    rw [HSP2.out] at this
                    exact this
                  clear HS2
                  go_wp2_with fail
                  go_roundw
                  case rel => exact ⟨k + 1, min (s1 + (C)) 67108865, min (s2 + (C)) 67108865, by omega, by first | rfl | (congr 1; first | omega | (split <;> omega)), by first | rfl | (congr 1; first | omega | (split <;> omega)), by go_num, by omega, by omega, HS3, HB6⟩
                  case measure => simp [intOf]; omega
                · have qt := beq_of ht
                  have qtn := bne_of ht
                  have HSP2 : Hid (spN d o tn C N (a1, a2) (b1, b2) = (N * (C + a1), N * (C + a2))) := by show _ = _; rw [HSP.out, if_neg (by simpa using ho), if_pos ht]
                  clear HSP hon ho ht
                  have HS3 : Hid (spL (ks.drop (k + 1)) (min (s1 + (N * (C + a1))) 67108865, min (s2 + (N * (C + a2))) 67108865) = r) := by
                    show _ = _
                    have := HS2.out
                    rw [HSP2.out] at this
                    exact this
                  clear HS2
                  go_wp2_with fail
                  go_roundw
                  case rel => exact ⟨k + 1, min (s1 + (N * (C + a1))) 67108865, min (s2 + (N * (C + a2))) 67108865, by omega, by first | rfl | (congr 1; first | omega | (split <;> omega)), by first | rfl | (congr 1; first | omega | (split <;> omega)), by go_num, by omega, by omega, HS3, HB6⟩
                  case measure => simp [intOf]; omega
              · have qo := beq_of ho
                have qon := bne_of ho
                have HSP2 : Hid (spN d o tn C N (a1, a2) (b1, b2) = (C, N * (C + a2))) := by show _ = _; rw [HSP.out, if_pos ho, hon]
                clear HSP hon ho
                have HS3 : Hid (spL (ks.drop (k + 1)) (min (s1 + (C)) 67108865, min (s2 + (N * (C + a2))) 67108865) = r) := by
                  show _ = _
                  have := HS2.out
                  rw [HSP2.out] at this
                  exact this
                clear HS2
                go_wp2_with fail
                go_roundw
                case rel => exact ⟨k + 1, min (s1 + (C)) 67108865, min (s2 + (N * (C + a2))) 67108865, by omega, by first | rfl | (congr 1; first | omega | (split <;> omega)), by first | rfl | (congr 1; first | omega | (split <;> omega)), by go_num, by omega, by omega, HS3, HB6⟩
                case measure => simp [intOf]; omega
          · have q4 := beq_of h4
            have hsp : spN d o tn C N (a1, a2) (b1, b2) = (C, C) := by unfold spN; rw [if_neg h3, if_neg h4]
            have HSP := Lib.hid hsp
            clear hsp
            clear h3 h4
            have HS3 : Hid (spL (ks.drop (k + 1)) (min (s1 + (C)) 67108865, min (s2 + (C)) 67108865) = r) := by
              show _ = _
              have := HS2.out
              rw [HSP.out] at this
              exact this
            clear HS2
            go_wp2_with fail
            go_roundw
            case rel => exact ⟨k + 1, min (s1 + (C)) 67108865, min (s2 + (C)) 67108865, by omega, by first | rfl | (congr 1; first | omega | (split <;> omega)), by first | rfl | (congr 1; first | omega | (split <;> omega)), by go_num, by omega, by omega, HS3, Lib.hid (HB.out.trans ((below_drewN (Below.refl w4.heap.size w4) _).mono HB.out.size))⟩
            case measure => simp [intOf]; omega
      · obtain rfl : k = l := by omega
        have hr : (s1, s2) = r := by rw [← HS.out, List.drop_of_length_le (by rw [HL.out]; exact Nat.le_refl _), spL]
        subst hr
        clear HS
        go_wp2_with fail
        go_returns
        exact ⟨rfl, HB.out⟩

set_option maxRecDepth 100000 in
set_option maxHeartbeats 8000000 in
theorem rspanS_any (m : Nat) : ∀ (ks : List Sp) (l : Nat) (A : Option Addr) (c : Nat) (w : World) (r : Int × Int), ks.length = l → Sp.cntL ks ≤ m → SOk w A c ks → Hid (spL ks (0, 0) = r) →
    Calls Try.prog 21 #[.slice A l c] w fun e w' => e = .returned (.tuple #[.int .i64 r.1, .int .i64 r.2]) ∧ Below w.heap.size w w' := by
  induction m with
  | zero =>
    intro ks l A c w r hl hm ht H
    have hk : ks = [] := by
      cases ks with
      | nil => rfl
      | cons k ks => have := Sp.cnt_pos k; simp only [Sp.cntL] at hm; omega
    subst hk
    have hl0 : l = 0 := hl.symm
    subst hl0
    have hr : r = (0, 0) := by rw [← H.out, spL]
    subst hr
    clear ht H
    go_enter Try.func21, Try.ntmps21
    go_wp2_with fail
    go_loopw [4, 5, 6] (fun u1 u2 v wr => u1 = .int .i64 0 ∧ u2 = .int .i64 0 ∧ v = .int .i64 0 ∧ wr = w) (fun _ _ _ _ => 0)
    case atStart => exact ⟨rfl, rfl, rfl, rfl⟩
    case round =>
      obtain ⟨rfl, rfl, rfl, rfl⟩ := hrel
      go_wp2_with fail
      go_returns
      exact ⟨rfl, Below.refl _ _⟩
  | succ m ih =>
    intro ks l A c w r hl hm ht H
    have IH := Lib.hid ih
    have HM := Lib.hid hm
    have HL := Lib.hid hl
    have HT := Lib.hid ht
    have hlm : l ≤ 9223372036854775807 := by have h1 := ht.1; have h2 := ht.2.1; unfold maxLen at h2; omega
    have HS0 : Hid (spL (ks.drop 0) (0, 0) = r) := H
    clear ih hm hl ht H
    go_enter Try.func21, Try.ntmps21
    go_wp2_with fail
    go_loopw [4, 5, 6] (fun u1 u2 v wr => ∃ (k : Nat) (s1 s2 : Int), k ≤ l ∧ u1 = .int .i64 s1 ∧ u2 = .int .i64 s2 ∧ v = .int .i64 k ∧ (0 ≤ s1 ∧ s1 ≤ 67108865) ∧ (0 ≤ s2 ∧ s2 ≤ 67108865) ∧ Hid (spL (ks.drop k) (s1, s2) = r) ∧ Hid (Below w.heap.size w wr)) (fun _ _ v _ => l - (intOf v).toNat)
    case atStart => exact ⟨0, 0, 0, by omega, rfl, rfl, rfl, by omega, by omega, HS0, Lib.hid (Below.refl _ _)⟩
    case round =>
      clear HS0
      obtain ⟨k, s1, s2, hk, rfl, rfl, rfl, ⟨i1, i2⟩, ⟨i3, i4⟩, HS, HB⟩ := hrel
      by_cases hlt : k < l
      · have hkl : k < ks.length := by rw [HL.out]; exact hlt
        have hlt' : (k : Int) < (l : Int) := by omega
        have hk0 : (0 : Int) ≤ (k : Int) := by omega
        obtain ⟨d, x1, v, n, o, tn, tk, th, el, bs, g, f, At, ct, Ah, ch, Ae, ce, Ab, cb, hkid, hA, hg, hsc, htok, hth, hel, hbs⟩ := (HT.out.below HB.out).step k hkl
        subst hA
        obtain ⟨lt, hlt1⟩ : ∃ l, tk.length = l := ⟨_, rfl⟩
        obtain ⟨lh, hlh⟩ : ∃ l, th.length = l := ⟨_, rfl⟩
        obtain ⟨le, hle⟩ : ∃ l, el.length = l := ⟨_, rfl⟩
        obtain ⟨lb, hlb⟩ : ∃ l, bs.length = l := ⟨_, rfl⟩
        rw [hlt1, hlh, hle, hlb] at hsc
        rw [hlb] at hbs
        have hdr : ks.drop k = .mk d x1 v n (.mk o tn tk) th el bs :: ks.drop (k + 1) := by rw [List.drop_eq_getElem_cons hkl, hkid]
        have hcm : 1 + Tm.cnt (.mk o tn tk) + Sp.cntL th + Sp.cntL el ≤ m + 1 := by
          have := Sp.cntL_get ks k hkl
          rw [hkid] at this
          simp only [Sp.cnt] at this
          have := HM.out
          omega
        have HLT := Lib.hid hlt1
        have HLH := Lib.hid hlh
        have HLE := Lib.hid hle
        have HLB := Lib.hid hlb
        have HCM := Lib.hid hcm
        obtain ⟨c0, c1, c2, c3, c4, c5, c6, c7, c8, c9⟩ := hsc
        have HSM : Hid (Sp.cntL th ≤ m ∧ Sp.cntL el ≤ m) := Lib.hid (by have h4 := Tm.cnt_pos (.mk o tn tk); omega)
        have HHH := Lib.hid hth
        have HHE := Lib.hid hel
        obtain ⟨⟨a1, a2⟩, ha⟩ : ∃ z, spL th (0, 0) = z := ⟨_, rfl⟩
        obtain ⟨⟨b1, b2⟩, hb⟩ : ∃ z, spL el (0, 0) = z := ⟨_, rfl⟩
        have hia := spL_in th _ inSp_zero
        have hib := spL_in el _ inSp_zero
        rw [ha] at hia
        rw [hb] at hib
        unfold inSp at hia hib
        simp only at hia hib
        obtain ⟨⟨p1, p2⟩, ⟨p3, p4⟩⟩ := hia
        obtain ⟨⟨q1, q2⟩, ⟨q3, q4⟩⟩ := hib
        obtain ⟨C, hC⟩ : ∃ z, clampP x1 0 67108865 = z := ⟨_, rfl⟩
        obtain ⟨N, hN⟩ : ∃ z, clampP n 0 4096 = z := ⟨_, rfl⟩
        have hc := clamp_in x1 0 67108865 (by decide)
        have hn := clamp_in n 0 4096 (by decide)
        rw [hC] at hc
        rw [hN] at hn
        obtain ⟨hc0, hc1⟩ := hc
        obtain ⟨hn0, hn1⟩ := hn
        have HS2 : Hid (spL (ks.drop (k + 1)) (spA (s1, s2) (spN d o tn C N (a1, a2) (b1, b2))) = r) := by
          show _ = _
          have := HS.out
          rw [hdr, spL, spO, ha, hb, hC, hN] at this
          exact this
        have HA := Lib.hid ha
        have HBb := Lib.hid hb
        have HCC := Lib.hid hC
        have HNN := Lib.hid hN
        clear hkid hdr hcm hlt1 hlh hle hlb htok hth hel hbs HS ha hb hC hN
        have hba := (Below.refl wr.heap.size wr).alloc (Nat.le_refl _) (.cells #[.int .i64 d, .int .i64 x1, .int .i64 v, .int .i64 n, .int .i64 o, .int .i64 tn, .slice At lt ct, .slice Ah lh ch, .slice Ae le ce, .slice Ab lb cb] 53)
        have HBx := Lib.hid (HB.out.trans (hba.mono HB.out.size))
        have HHHx := Lib.hid (HHH.out.below hba)
        have HHEx := Lib.hid (HHE.out.below hba)
        have HN := Lib.hid (Cs.new wr #[.int .i64 d, .int .i64 x1, .int .i64 v, .int .i64 n, .int .i64 o, .int .i64 tn, .slice At lt ct, .slice Ah lh ch, .slice Ae le ce, .slice Ab lb cb] 53)
        clear hba HB HHH HHE
        have HB := HBx
        have HHH := HHHx
        have HHE := HHEx
        clear HBx HHHx HHEx
        go_upto_region 6 with fail
        obtain ⟨w4, hwn⟩ : ∃ w4, wr.alloc (.cells #[.int .i64 d, .int .i64 x1, .int .i64 v, .int .i64 n, .int .i64 o, .int .i64 tn, .slice At lt ct, .slice Ah lh ch, .slice Ae le ce, .slice Ab lb cb] 53) = w4 := ⟨_, rfl⟩
        obtain ⟨q, hqn⟩ : ∃ q, wr.heap.size = q := ⟨_, rfl⟩
        rw [hwn] at HN HB HHH HHE 
        rw [hqn] at HN
        rw [hwn, hqn]
        clear hwn hqn c0 c1 c2 c3 c4 c5 c6 c7 c8 c9
        have n1 := HN.out.at 1 _ rfl
        have n7 := HN.out.at 7 _ rfl
        go_wp2_with fail
        go_at_call 58
        refine (rheld_same x1 0 67108865 C (by decide) HCC _).mono ?_
        rintro e wy ⟨rfl, rfl⟩
        go_wp2_with fail
        go_at_call 21
        refine (IH.out th lh Ah ch _ (a1, a2) HLH.out HSM.out.1 HHH.out HA).mono ?_
        rintro e w5 ⟨rfl, hbx⟩
        have HB5 := Lib.hid (HB.out.trans (hbx.mono HB.out.size))
        have HN5 := Lib.hid (HN.out.next hbx)
        have HHE5 := Lib.hid (HHE.out.below hbx)
        clear hbx n1 n7 HB HN HHE HHH
        have n8 := HN5.out.at 8 _ rfl
        go_wp2_with fail
        go_at_call 21
        refine (IH.out el le Ae ce _ (b1, b2) HLE.out HSM.out.2 HHE5.out HBb).mono ?_
        rintro e w6 ⟨rfl, hbx⟩
        have HB6 := Lib.hid (HB5.out.trans (hbx.mono HB5.out.size))
        have HN6 := Lib.hid (HN5.out.next hbx)
        clear hbx n8 HB5 HN5 HHE5
        have n0 := HN6.out.at 0 _ rfl
        have n3 := HN6.out.at 3 _ rfl
        have n4 := HN6.out.at 4 _ rfl
        have n5 := HN6.out.at 5 _ rfl
        simp only
        by_cases h3 : d = 3
        · have q3 : (d == 3) = true := by rw [h3]; rfl
          have q4 : (d == 4) = false := by rw [h3]; rfl
          have hsp : spN d o tn C N (a1, a2) (b1, b2) = (C + min a1 b1, C + max a2 b2) := by unfold spN; rw [if_pos h3]
          have HSP := Lib.hid hsp
          clear hsp
          clear h3
          go_wp2_with fail
          go_at_call 59
          refine (rleast_any _ _ _).mono ?_
          rintro e wy ⟨rfl, rfl⟩
          go_wp2_with fail
          go_at_call 60
          refine (rmost_any _ _ _).mono ?_
          rintro e wy ⟨rfl, rfl⟩
          have HS3 : Hid (spL (ks.drop (k + 1)) (min (s1 + (C + min a1 b1)) 67108865, min (s2 + (C + max a2 b2)) 67108865) = r) := by
            show _ = _
            have := HS2.out
            rw [HSP.out] at this
            exact this
          clear HS2
          go_wp2_with fail
          go_at_call 59
          refine (rleast_any _ _ _).mono ?_
          rintro e wy ⟨rfl, rfl⟩
          go_wp2_with fail
          go_at_call 59
          refine (rleast_any _ _ _).mono ?_
          rintro e wy ⟨rfl, rfl⟩
          go_wp2_with fail
          go_roundw
          case rel => exact ⟨k + 1, min (s1 + (C + min a1 b1)) 67108865, min (s2 + (C + max a2 b2)) 67108865, by omega, by first | rfl | (congr 1; first | omega | (split <;> omega)), by first | rfl | (congr 1; first | omega | (split <;> omega)), by go_num, by omega, by omega, HS3, HB6⟩
          case measure => simp [intOf]; omega
        · have q3 := beq_of h3
          by_cases h4 : d = 4
          · have q4 : (d == 4) = true := by rw [h4]; rfl
            have hsp : spN d o tn C N (a1, a2) (b1, b2) = (if o ≠ 0 then (onceS N C, N * (C + a2)) else if tn ≠ 0 then (N * (C + a1), N * (C + a2)) else (onceS N C, onceS N C)) := by unfold spN; rw [if_neg h3, if_pos h4]
            have HSP := Lib.hid hsp
            clear hsp
            clear h3 h4
            go_wp2_with fail
            go_at_call 58
            refine (rheld_same n 0 4096 N (by decide) HNN _).mono ?_
            rintro e wy ⟨rfl, rfl⟩
            have m1 := sp_mul hn0 hn1 hc0 hc1 p1 p2
            have m2 := sp_mul hn0 hn1 hc0 hc1 p3 p4
            obtain ⟨m10, m11⟩ := m1
            obtain ⟨m20, m21⟩ := m2
            obtain rfl | rfl | hN1 : N = 0 ∨ N = 1 ∨ 1 < N := by omega
            · clear m10 m11 m20 m21
              have hon : onceS 0 C = 0 := rfl
              by_cases ho : o = 0
              · have qo : (o == 0) = true := by rw [ho]; rfl
                have qon : (o != 0) = false := by rw [ho]; rfl
                by_cases ht : tn = 0
                · have qt : (tn == 0) = true := by rw [ht]; rfl
                  have qtn : (tn != 0) = false := by rw [ht]; rfl
                  have HSP2 : Hid (spN d o tn C 0 (a1, a2) (b1, b2) = (0, 0)) := by show _ = _; rw [HSP.out, if_neg (by simpa using ho), if_neg (by simpa using ht), hon]
                  clear HSP hon ho ht
                  have HS3 : Hid (spL (ks.drop (k + 1)) (min (s1 + (0)) 67108865, min (s2 + (0)) 67108865) = r) := by
                    show _ = _
                    have := HS2.out
                    rw [HSP2.out] at this
                    exact this
                  clear HS2
                  go_wp2_with fail
                  go_at_call 59
                  refine (rleast_any _ _ _).mono ?_
                  rintro e wy ⟨rfl, rfl⟩
                  go_wp2_with fail
                  go_at_call 59
                  refine (rleast_any _ _ _).mono ?_
                  rintro e wy ⟨rfl, rfl⟩
                  go_wp2_with fail
                  go_roundw
                  case rel => exact ⟨k + 1, min (s1 + (0)) 67108865, min (s2 + (0)) 67108865, by omega, by first | rfl | (congr 1; first | omega | (split <;> omega)), by first | rfl | (congr 1; first | omega | (split <;> omega)), by go_num, by omega, by omega, HS3, HB6⟩
                  case measure => simp [intOf]; omega
                · have qt := beq_of ht
                  have qtn := bne_of ht
                  have HSP2 : Hid (spN d o tn C 0 (a1, a2) (b1, b2) = (0, 0)) := by show _ = _; rw [HSP.out, if_neg (by simpa using ho), if_pos ht]; simp only [Int.zero_mul]
                  clear HSP hon ho ht
                  have HS3 : Hid (spL (ks.drop (k + 1)) (min (s1 + (0)) 67108865, min (s2 + (0)) 67108865) = r) := by
                    show _ = _
                    have := HS2.out
                    rw [HSP2.out] at this
                    exact this
                  clear HS2
                  go_wp2_with fail
                  go_at_call 59
                  refine (rleast_any _ _ _).mono ?_
                  rintro e wy ⟨rfl, rfl⟩
                  go_wp2_with fail
                  go_at_call 59
                  refine (rleast_any _ _ _).mono ?_
                  rintro e wy ⟨rfl, rfl⟩
                  go_wp2_with fail
                  go_roundw
                  case rel => exact ⟨k + 1, min (s1 + (0)) 67108865, min (s2 + (0)) 67108865, by omega, by first | rfl | (congr 1; first | omega | (split <;> omega)), by first | rfl | (congr 1; first | omega | (split <;> omega)), by go_num, by omega, by omega, HS3, HB6⟩
                  case measure => simp [intOf]; omega
              · have qo := beq_of ho
                have qon := bne_of ho
                have HSP2 : Hid (spN d o tn C 0 (a1, a2) (b1, b2) = (0, 0)) := by show _ = _; rw [HSP.out, if_pos ho, hon]; simp only [Int.zero_mul]
                clear HSP hon ho
                have HS3 : Hid (spL (ks.drop (k + 1)) (min (s1 + (0)) 67108865, min (s2 + (0)) 67108865) = r) := by
                  show _ = _
                  have := HS2.out
                  rw [HSP2.out] at this
                  exact this
                clear HS2
                go_wp2_with fail
                go_at_call 59
                refine (rleast_any _ _ _).mono ?_
                rintro e wy ⟨rfl, rfl⟩
                go_wp2_with fail
                go_at_call 59
                refine (rleast_any _ _ _).mono ?_
                rintro e wy ⟨rfl, rfl⟩
                go_wp2_with fail
                go_roundw
                case rel => exact ⟨k + 1, min (s1 + (0)) 67108865, min (s2 + (0)) 67108865, by omega, by first | rfl | (congr 1; first | omega | (split <;> omega)), by first | rfl | (congr 1; first | omega | (split <;> omega)), by go_num, by omega, by omega, HS3, HB6⟩
                case measure => simp [intOf]; omega
            · clear m10 m11 m20 m21
              have hon : onceS 1 C = C := by unfold onceS; rw [if_pos (by decide)]
              by_cases ho : o = 0
              · have qo : (o == 0) = true := by rw [ho]; rfl
                have qon : (o != 0) = false := by rw [ho]; rfl
                by_cases ht : tn = 0
                · have qt : (tn == 0) = true := by rw [ht]; rfl
                  have qtn : (tn != 0) = false := by rw [ht]; rfl
                  have HSP2 : Hid (spN d o tn C 1 (a1, a2) (b1, b2) = (C, C)) := by show _ = _; rw [HSP.out, if_neg (by simpa using ho), if_neg (by simpa using ht), hon]
                  clear HSP hon ho ht
                  have HS3 : Hid (spL (ks.drop (k + 1)) (min (s1 + (C)) 67108865, min (s2 + (C)) 67108865) = r) := by
                    show _ = _
                    have := HS2.out
                    rw [HSP2.out] at this
                    exact this
                  clear HS2
                  go_wp2_with fail
                  go_at_call 59
                  refine (rleast_any _ _ _).mono ?_
                  rintro e wy ⟨rfl, rfl⟩
                  go_wp2_with fail
                  go_at_call 59
                  refine (rleast_any _ _ _).mono ?_
                  rintro e wy ⟨rfl, rfl⟩
                  go_wp2_with fail
                  go_roundw
                  case rel => exact ⟨k + 1, min (s1 + (C)) 67108865, min (s2 + (C)) 67108865, by omega, by first | rfl | (congr 1; first | omega | (split <;> omega)), by first | rfl | (congr 1; first | omega | (split <;> omega)), by go_num, by omega, by omega, HS3, HB6⟩
                  case measure => simp [intOf]; omega
                · have qt := beq_of ht
                  have qtn := bne_of ht
                  have HSP2 : Hid (spN d o tn C 1 (a1, a2) (b1, b2) = (C + a1, C + a2)) := by show _ = _; rw [HSP.out, if_neg (by simpa using ho), if_pos ht]; simp only [Int.one_mul]
                  clear HSP hon ho ht
                  have HS3 : Hid (spL (ks.drop (k + 1)) (min (s1 + (C + a1)) 67108865, min (s2 + (C + a2)) 67108865) = r) := by
                    show _ = _
                    have := HS2.out
                    rw [HSP2.out] at this
                    exact this
                  clear HS2
                  go_wp2_with fail
                  go_at_call 59
                  refine (rleast_any _ _ _).mono ?_
                  rintro e wy ⟨rfl, rfl⟩
                  go_wp2_with fail
                  go_at_call 59
                  refine (rleast_any _ _ _).mono ?_
                  rintro e wy ⟨rfl, rfl⟩
                  go_wp2_with fail
                  go_roundw
                  case rel => exact ⟨k + 1, min (s1 + (C + a1)) 67108865, min (s2 + (C + a2)) 67108865, by omega, by first | rfl | (congr 1; first | omega | (split <;> omega)), by first | rfl | (congr 1; first | omega | (split <;> omega)), by go_num, by omega, by omega, HS3, HB6⟩
                  case measure => simp [intOf]; omega
              · have qo := beq_of ho
                have qon := bne_of ho
                have HSP2 : Hid (spN d o tn C 1 (a1, a2) (b1, b2) = (C, C + a2)) := by show _ = _; rw [HSP.out, if_pos ho, hon]; simp only [Int.one_mul]
                clear HSP hon ho
                have HS3 : Hid (spL (ks.drop (k + 1)) (min (s1 + (C)) 67108865, min (s2 + (C + a2)) 67108865) = r) := by
                  show _ = _
                  have := HS2.out
                  rw [HSP2.out] at this
                  exact this
                clear HS2
                go_wp2_with fail
                go_at_call 59
                refine (rleast_any _ _ _).mono ?_
                rintro e wy ⟨rfl, rfl⟩
                go_wp2_with fail
                go_at_call 59
                refine (rleast_any _ _ _).mono ?_
                rintro e wy ⟨rfl, rfl⟩
                go_wp2_with fail
                go_roundw
                case rel => exact ⟨k + 1, min (s1 + (C)) 67108865, min (s2 + (C + a2)) 67108865, by omega, by first | rfl | (congr 1; first | omega | (split <;> omega)), by first | rfl | (congr 1; first | omega | (split <;> omega)), by go_num, by omega, by omega, HS3, HB6⟩
                case measure => simp [intOf]; omega
            · have hN0 : 0 < N := by omega
              have hNd : decide (0 < N) = true := decide_eq_true hN0
              have hw1 : IntKind.i64.wrap (N * (C + a1)) = N * (C + a1) := IntWalk.i64_in _ (by omega)
              have hw2 : IntKind.i64.wrap (N * (C + a2)) = N * (C + a2) := IntWalk.i64_in _ (by omega)
              have hon : onceS N C = C := by unfold onceS; rw [if_pos hN0]
              by_cases ho : o = 0
              · have qo : (o == 0) = true := by rw [ho]; rfl
                have qon : (o != 0) = false := by rw [ho]; rfl
                by_cases ht : tn = 0
                · have qt : (tn == 0) = true := by rw [ht]; rfl
                  have qtn : (tn != 0) = false := by rw [ht]; rfl
                  have HSP2 : Hid (spN d o tn C N (a1, a2) (b1, b2) = (C, C)) := by show _ = _; rw [HSP.out, if_neg (by simpa using ho), if_neg (by simpa using ht), hon]
                  clear HSP hon ho ht
                  have HS3 : Hid (spL (ks.drop (k + 1)) (min (s1 + (C)) 67108865, min (s2 + (C)) 67108865) = r) := by
                    show _ = _
                    have := HS2.out
                    rw [HSP2.out] at this
                    exact this
                  clear HS2
                  go_wp2_with fail
                  go_at_call 59
                  refine (rleast_any _ _ _).mono ?_
                  rintro e wy ⟨rfl, rfl⟩
                  go_wp2_with fail
                  go_at_call 59
                  refine (rleast_any _ _ _).mono ?_
                  rintro e wy ⟨rfl, rfl⟩
                  go_wp2_with fail
                  go_roundw
                  case rel => exact ⟨k + 1, min (s1 + (C)) 67108865, min (s2 + (C)) 67108865, by omega, by first | rfl | (congr 1; first | omega | (split <;> omega)), by first | rfl | (congr 1; first | omega | (split <;> omega)), by go_num, by omega, by omega, HS3, HB6⟩
                  case measure => simp [intOf]; omega
                · have qt := beq_of ht
                  have qtn := bne_of ht
                  have HSP2 : Hid (spN d o tn C N (a1, a2) (b1, b2) = (N * (C + a1), N * (C + a2))) := by show _ = _; rw [HSP.out, if_neg (by simpa using ho), if_pos ht]
                  clear HSP hon ho ht
                  have HS3 : Hid (spL (ks.drop (k + 1)) (min (s1 + (N * (C + a1))) 67108865, min (s2 + (N * (C + a2))) 67108865) = r) := by
                    show _ = _
                    have := HS2.out
                    rw [HSP2.out] at this
                    exact this
                  clear HS2
                  go_wp2_with fail
                  go_at_call 59
                  refine (rleast_any _ _ _).mono ?_
                  rintro e wy ⟨rfl, rfl⟩
                  go_wp2_with fail
                  go_at_call 59
                  refine (rleast_any _ _ _).mono ?_
                  rintro e wy ⟨rfl, rfl⟩
                  go_wp2_with fail
                  go_roundw
                  case rel => exact ⟨k + 1, min (s1 + (N * (C + a1))) 67108865, min (s2 + (N * (C + a2))) 67108865, by omega, by first | rfl | (congr 1; first | omega | (split <;> omega)), by first | rfl | (congr 1; first | omega | (split <;> omega)), by go_num, by omega, by omega, HS3, HB6⟩
                  case measure => simp [intOf]; omega
              · have qo := beq_of ho
                have qon := bne_of ho
                have HSP2 : Hid (spN d o tn C N (a1, a2) (b1, b2) = (C, N * (C + a2))) := by show _ = _; rw [HSP.out, if_pos ho, hon]
                clear HSP hon ho
                have HS3 : Hid (spL (ks.drop (k + 1)) (min (s1 + (C)) 67108865, min (s2 + (N * (C + a2))) 67108865) = r) := by
                  show _ = _
                  have := HS2.out
                  rw [HSP2.out] at this
                  exact this
                clear HS2
                go_wp2_with fail
                go_at_call 59
                refine (rleast_any _ _ _).mono ?_
                rintro e wy ⟨rfl, rfl⟩
                go_wp2_with fail
                go_at_call 59
                refine (rleast_any _ _ _).mono ?_
                rintro e wy ⟨rfl, rfl⟩
                go_wp2_with fail
                go_roundw
                case rel => exact ⟨k + 1, min (s1 + (C)) 67108865, min (s2 + (N * (C + a2))) 67108865, by omega, by first | rfl | (congr 1; first | omega | (split <;> omega)), by first | rfl | (congr 1; first | omega | (split <;> omega)), by go_num, by omega, by omega, HS3, HB6⟩
                case measure => simp [intOf]; omega
          · have q4 := beq_of h4
            have hsp : spN d o tn C N (a1, a2) (b1, b2) = (C, C) := by unfold spN; rw [if_neg h3, if_neg h4]
            have HSP := Lib.hid hsp
            clear hsp
            clear h3 h4
            have HS3 : Hid (spL (ks.drop (k + 1)) (min (s1 + (C)) 67108865, min (s2 + (C)) 67108865) = r) := by
              show _ = _
              have := HS2.out
              rw [HSP.out] at this
              exact this
            clear HS2
            go_wp2_with fail
            go_at_call 59
            refine (rleast_any _ _ _).mono ?_
            rintro e wy ⟨rfl, rfl⟩
            go_wp2_with fail
            go_at_call 59
            refine (rleast_any _ _ _).mono ?_
            rintro e wy ⟨rfl, rfl⟩
            go_wp2_with fail
            go_roundw
            case rel => exact ⟨k + 1, min (s1 + (C)) 67108865, min (s2 + (C)) 67108865, by omega, by first | rfl | (congr 1; first | omega | (split <;> omega)), by first | rfl | (congr 1; first | omega | (split <;> omega)), by go_num, by omega, by omega, HS3, HB6⟩
            case measure => simp [intOf]; omega
      · obtain rfl : k = l := by omega
        have hr : (s1, s2) = r := by rw [← HS.out, List.drop_of_length_le (by rw [HL.out]; exact Nat.le_refl _), spL]
        subst hr
        clear HS
        go_wp2_with fail
        go_returns
        exact ⟨rfl, HB.out⟩

/-- What Bounds returns. -/
def bndP (vs : List Vr) (hs : List Ht) (ks : List Sp) : Int × Int × Int × Int :=
  if checkP vs hs ks ≠ 0 then (0, 0, 0, checkP vs hs ks) else ((upL ks (0, 0, 0)).1, (upL ks (0, 0, 0)).2.1, (upL ks (0, 0, 0)).2.2, 0)
set_option maxRecDepth 100000 in
set_option maxHeartbeats 4000000 in
theorem Bounds_b (vs : List Vr) (hs : List Ht) (ks : List Sp) (Av : Option Addr) (lv cv : Nat) (Ag : Option Addr) (lg cg : Nat) (Ay : Option Addr) (ly cy : Nat) (w : World) (hv : VOk w Av lv cv vs) (hh : HOk w Ag lg cg hs) (hl : ks.length = ly) (hk : SOk w Ay cy ks) (hlv : lv ≤ 1000) (hbd : hcnt hs + Sp.cntL ks ≤ 90000) (r : Int × Int × Int × Int) (H : Hid (bndP vs hs ks = r)) :
    Calls Try.prog 19 #[.agg #[.slice Av lv cv, .slice Ag lg cg, .slice Ay ly cy]] w fun e w' => e = .returned (.tuple #[.int .i64 r.1, .int .i64 r.2.1, .int .i64 r.2.2.1, .int .i64 r.2.2.2]) ∧ Below w.heap.size w w' := by
  have hba := (Below.refl w.heap.size w).alloc (Nat.le_refl _) (.cells #[.slice Av lv cv, .slice Ag lg cg, .slice Ay ly cy] 26)
  have HB := Lib.hid hba
  have HC := Lib.hid (Cs.new w #[.slice Av lv cv, .slice Ag lg cg, .slice Ay ly cy] 26)
  have HV := Lib.hid (hv.below hba)
  have HHS := Lib.hid (hh.below hba)
  have HK := Lib.hid (hk.below hba)
  have HL := Lib.hid hl
  have HBD := Lib.hid hbd
  obtain ⟨c, hc⟩ : ∃ z, checkP vs hs ks = z := ⟨_, rfl⟩
  obtain ⟨⟨u1, u2, u3⟩, hu⟩ : ∃ z, upL ks (0, 0, 0) = z := ⟨_, rfl⟩
  have HRS : Hid ((if c ≠ 0 then (0, 0, 0, c) else (u1, u2, u3, 0)) = r) := by show _ = _; rw [← H.out, bndP, hc, hu]
  have HCK := Lib.hid hc
  have HU := Lib.hid hu
  clear hba hv hh hk hl hbd hc hu H
  go_enter Try.func19, Try.ntmps19
  go_upto_region 1 with fail
  obtain ⟨w1, hw1⟩ : ∃ w1, w.alloc (.cells #[.slice Av lv cv, .slice Ag lg cg, .slice Ay ly cy] 26) = w1 := ⟨_, rfl⟩
  obtain ⟨p, hp⟩ : ∃ p, w.heap.size = p := ⟨_, rfl⟩
  rw [hw1] at HB HC HV HHS HK
  rw [hp] at HC
  rw [hw1, hp]
  clear hw1 hp
  have f0 := HC.out.at 0 _ rfl
  have f1 := HC.out.at 1 _ rfl
  have f2 := HC.out.at 2 _ rfl
  go_wp2_with fail
  go_at_call 12
  refine (check_b vs hs ks Av lv cv Ag lg cg Ay ly cy _ HV.out HHS.out HL.out HK.out hlv HBD.out c HCK).mono ?_
  rintro e w2 ⟨rfl, hb⟩
  have HB2 := Lib.hid (HB.out.trans (hb.mono HB.out.size))
  have HC2 := Lib.hid (HC.out.next hb)
  have HK2 := Lib.hid (HK.out.below hb)
  clear hb HB HC HV HHS HK f0 f1 f2
  have f2 := HC2.out.at 2 _ rfl
  by_cases z : c = 0
  case neg =>
    have hbn := bne_of z
    have hr : r = (0, 0, 0, c) := by rw [← HRS.out, if_pos z]
    subst hr
    clear HRS
    go_wp2_with fail
    go_returns
    exact ⟨rfl, HB2.out⟩
  have hbn : (c != 0) = false := by rw [z]; rfl
  have hr : r = (u1, u2, u3, 0) := by rw [← HRS.out, if_neg (by simpa using z)]
  obtain ⟨_, _, _, _, hst, _⟩ := checkP_zero (HCK.out.trans z)
  have HNL := Lib.hid (stepsC_num ks vs hs.length true hst)
  subst hr
  clear HRS z hst
  go_wp2_with fail
  go_at_call 45
  refine (upper_any (Sp.cntL ks) ks ly Ay cy _ (u1, u2, u3) HL.out (Nat.le_refl _) HK2.out HNL.out HU).mono ?_
  rintro e w3 ⟨rfl, hb⟩
  have HB3 := Lib.hid (HB2.out.trans (hb.mono HB2.out.size))
  clear hb HB2 HC2 HK2 f2
  have hba := (Below.refl w3.heap.size w3).alloc (Nat.le_refl _) (.cells #[.int .i64 u1, .int .i64 u2, .int .i64 u3] 87)
  have HB4 := Lib.hid (HB3.out.trans (hba.mono HB3.out.size))
  clear hba
  go_upto_region 5 with fail
  go_quiet (fail)
  go_wp2_with fail
  go_returns
  exact ⟨rfl, below_drewN HB4.out _⟩
end Go.Proofs.Ytjpjmoejdkmglaa
