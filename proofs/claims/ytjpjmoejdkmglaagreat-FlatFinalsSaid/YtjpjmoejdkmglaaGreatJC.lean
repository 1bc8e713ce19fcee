/-
  The walks over the reference's Bounds and Check.
  The walk over the reference's Check.
-/
import Derived.Test.YtjpjmoejdkmglaaGreatFlCi
namespace Go.Proofs.YtjpjmoejdkmglaaGreat
open Go.RowKit

def inR (s : Int × Int × Int) : Prop := (0 ≤ s.1 ∧ s.1 ≤ 4097) ∧ (0 ≤ s.2.1 ∧ s.2.1 ≤ 9) ∧ (0 ≤ s.2.2 ∧ s.2.2 ≤ 67108865)
def inT3 (s : Int × Int × Int) : Prop := (0 ≤ s.1 ∧ s.1 ≤ 16785409) ∧ (0 ≤ s.2.1 ∧ s.2.1 ≤ 36864) ∧ (0 ≤ s.2.2 ∧ s.2.2 ≤ 549755817984)
theorem rbN_in {d c n : Int} {a b : Int × Int × Int} (hn : numN d c n) (ha : inR a) (hb : inR b) : inT3 (rbN d c n a b) := by
  obtain ⟨h0, h1, h2⟩ := hn
  obtain ⟨a1, a2, a3⟩ := ha
  obtain ⟨b1, b2, b3⟩ := hb
  unfold rbN inT3
  by_cases h4 : d = 4
  · obtain ⟨m0, m1⟩ := h2 h4
    have k1 : 0 ≤ n * (1 + a.1) := Int.mul_nonneg m0 (by omega)
    have k1' : n * (1 + a.1) ≤ 4096 * 4098 := Int.mul_le_mul m1 (by omega) (by omega) (by omega)
    have k2 : 0 ≤ n * a.2.1 := Int.mul_nonneg m0 (by omega)
    have k2' : n * a.2.1 ≤ 4096 * 9 := Int.mul_le_mul m1 (by omega) (by omega) (by omega)
    have k3 : 0 ≤ n * (c + a.2.2) := Int.mul_nonneg m0 (by omega)
    have k3' : n * (c + a.2.2) ≤ 4096 * 134217729 := Int.mul_le_mul m1 (by omega) (by omega) (by omega)
    rw [if_pos h4]
    simp only
    omega
  · rw [if_neg h4]
    by_cases h1 : d = 1
    · rw [if_pos h1]; simp only; omega
    · rw [if_neg h1]; simp only; omega
theorem rbA_in {s t : Int × Int × Int} (hs : inR s) (ht : inT3 t) : inR (rbA s t) := by
  obtain ⟨a1, a2, a3⟩ := hs
  obtain ⟨b1, b2, b3⟩ := ht
  unfold rbA inR
  simp only
  omega
theorem inR_zero : inR (0, 0, 0) := by unfold inR; simp only; omega
mutual
theorem rbL_in : ∀ (ks : List Sp) (s : Int × Int × Int), numL ks → inR s → inR (rbL ks s)
  | [], s, _, hs => by rw [rbL]; exact hs
  | k :: ks, s, hn, hs => by
    rw [numL] at hn
    rw [rbL]
    exact rbL_in ks _ hn.2 (rbA_in hs (rbO_in k hn.1))
theorem rbO_in : ∀ (k : Sp), numO k → inT3 (rbO k)
  | .mk d c _ n _ th el _, hn => by
    rw [numO] at hn
    rw [rbO]
    exact rbN_in hn.1 (rbL_in th _ hn.2.1 inR_zero) (rbL_in el _ hn.2.2 inR_zero)
end

set_option maxRecDepth 100000 in
set_option maxHeartbeats 8000000 in
theorem rbounds_any (m : Nat) : ∀ (ks : List Sp) (l : Nat) (A : Option Addr) (c : Nat) (w : World) (r : Int × Int × Int), ks.length = l → Sp.cntL ks ≤ m → SOk w A c ks → numL ks → Hid (rbL ks (0, 0, 0) = r) →
    Calls Tryz.prog 51 #[.slice A l c] w fun e w' => e = .returned (.tuple #[.int .i64 r.1, .int .i64 r.2.1, .int .i64 r.2.2]) ∧ Below w.heap.size w w' := by
  induction m with
  | zero =>
    intro ks l A c w r hl hm ht hn H
    have hk : ks = [] := by
      cases ks with
      | nil => rfl
      | cons k ks => have := Sp.cnt_pos k; simp only [Sp.cntL] at hm; omega
    subst hk
    have hl0 : l = 0 := hl.symm
    subst hl0
    have hr : r = (0, 0, 0) := by rw [← H.out, rbL]
    subst hr
    clear ht H hn
    go_enter Tryz.func51, Tryz.ntmps51
    go_wp2_with fail
    go_loopw [5, 6, 7, 8] (fun u1 u2 u3 v wr => u1 = .int .i64 0 ∧ u2 = .int .i64 0 ∧ u3 = .int .i64 0 ∧ v = .int .i64 0 ∧ wr = w) (fun _ _ _ _ _ => 0)
    case atStart => exact ⟨rfl, rfl, rfl, rfl, rfl⟩
    case round =>
      obtain ⟨rfl, rfl, rfl, rfl, rfl⟩ := hrel
      go_wp2_with fail
      go_returns
      exact ⟨rfl, Below.refl _ _⟩
  | succ m ih =>
    intro ks l A c w r hl hm ht hn H
    have IH := Lib.hid ih
    have HM := Lib.hid hm
    have HL := Lib.hid hl
    have HT := Lib.hid ht
    have HN0 := Lib.hid hn
    have hlm : l ≤ 9223372036854775807 := by have h1 := ht.1; have h2 := ht.2.1; unfold maxLen at h2; omega
    have HS0 : Hid (rbL (ks.drop 0) (0, 0, 0) = r) := H
    clear ih hm hl ht H hn
    go_enter Tryz.func51, Tryz.ntmps51
    go_wp2_with fail
    go_loopw [5, 6, 7, 8] (fun u1 u2 u3 v wr => ∃ (k : Nat) (s1 s2 s3 : Int), k ≤ l ∧ u1 = .int .i64 s1 ∧ u2 = .int .i64 s2 ∧ u3 = .int .i64 s3 ∧ v = .int .i64 k ∧ (0 ≤ s1 ∧ s1 ≤ 4097) ∧ (0 ≤ s2 ∧ s2 ≤ 9) ∧ (0 ≤ s3 ∧ s3 ≤ 67108865) ∧ Hid (rbL (ks.drop k) (s1, s2, s3) = r) ∧ Hid (Below w.heap.size w wr)) (fun _ _ _ v _ => l - (intOf v).toNat)
    case atStart => exact ⟨0, 0, 0, 0, by omega, rfl, rfl, rfl, rfl, by omega, by omega, by omega, HS0, Lib.hid (Below.refl _ _)⟩
    case round =>
      clear HS0
      obtain ⟨k, s1, s2, s3, hk, rfl, rfl, rfl, rfl, ⟨i1, i2⟩, ⟨i3, i4⟩, ⟨i5, i6⟩, HS, HB⟩ := hrel
      by_cases hlt : k < l
      · have hkl : k < ks.length := by rw [HL.out]; exact hlt
        have hlt' : (k : Int) < (l : Int) := by omega
        have hk0 : (0 : Int) ≤ (k : Int) := by omega
        obtain ⟨d, x1, v, n, o, tn, tk, th, el, bs, g, f, At, ct, Ah, ch, Ae, ce, Ab, cb, hkid, hA, hg, hsc, htok, hth, hel, hbs⟩ := (HT.out.below HB.out).step k hkl
        subst hA
        obtain ⟨lt, hlt1⟩ : ∃ l, tk.length = l := ⟨_, rfl⟩
        obtain ⟨lh, hlh⟩ : ∃ l, th.length = l := ⟨_, rfl⟩
        obtain ⟨le, hle⟩ : ∃ l, el.length = l := ⟨_, rfl⟩
        obtain ⟨lb, hlb⟩ : ∃ l, bs.length = l := ⟨_, rfl⟩
        rw [hlt1, hlh, hle, hlb] at hsc
        rw [hlb] at hbs
        have hdr : ks.drop k = .mk d x1 v n (.mk o tn tk) th el bs :: ks.drop (k + 1) := by rw [List.drop_eq_getElem_cons hkl, hkid]
        have hcm : 1 + Tm.cnt (.mk o tn tk) + Sp.cntL th + Sp.cntL el ≤ m + 1 := by
          have := Sp.cntL_get ks k hkl
          rw [hkid] at this
          simp only [Sp.cnt] at this
          have := HM.out
          omega
        have HLT := Lib.hid hlt1
        have HLH := Lib.hid hlh
        have HLE := Lib.hid hle
        have HLB := Lib.hid hlb
        have HCM := Lib.hid hcm
        obtain ⟨c0, c1, c2, c3, c4, c5, c6, c7, c8, c9⟩ := hsc
        have HSM : Hid (Sp.cntL th ≤ m ∧ Sp.cntL el ≤ m) := Lib.hid (by have h4 := Tm.cnt_pos (.mk o tn tk); omega)
        have hnum := numL_get ks k hkl HN0.out
        rw [hkid, numO] at hnum
        obtain ⟨hnn, hnt, hne⟩ := hnum
        have HNT := Lib.hid hnt
        have HNE := Lib.hid hne
        have HHH := Lib.hid hth
        have HHE := Lib.hid hel
        obtain ⟨⟨a1, a2, a3⟩, ha⟩ : ∃ z, rbL th (0, 0, 0) = z := ⟨_, rfl⟩
        obtain ⟨⟨b1, b2, b3⟩, hb⟩ : ∃ z, rbL el (0, 0, 0) = z := ⟨_, rfl⟩
        have hia := rbL_in th _ hnt inR_zero
        have hib := rbL_in el _ hne inR_zero
        rw [ha] at hia
        rw [hb] at hib
        have hit := rbN_in hnn hia hib
        unfold inR at hia hib
        simp only at hia hib
        obtain ⟨⟨p1, p2⟩, ⟨p3, p4⟩, ⟨p5, p6⟩⟩ := hia
        obtain ⟨⟨q1, q2⟩, ⟨q3, q4⟩, ⟨q5, q6⟩⟩ := hib
        obtain ⟨hc0, hc1, hn4⟩ := hnn
        have HN4 := Lib.hid hn4
        have HIT := Lib.hid hit
        have HS2 : Hid (rbL (ks.drop (k + 1)) (rbA (s1, s2, s3) (rbN d x1 n (a1, a2, a3) (b1, b2, b3))) = r) := by
          show _ = _
          have := HS.out
          rw [hdr, rbL, rbO, ha, hb] at this
          exact this
        have HA := Lib.hid ha
        have HBb := Lib.hid hb
        clear hkid hdr hcm hlt1 hlh hle hlb htok hth hel hbs HS hnt hne ha hb hn4 hit
        have hba := (Below.refl wr.heap.size wr).alloc (Nat.le_refl _) (.cells #[.int .i64 d, .int .i64 x1, .int .i64 v, .int .i64 n, .int .i64 o, .int .i64 tn, .slice At lt ct, .slice Ah lh ch, .slice Ae le ce, .slice Ab lb cb] 56)
        have HBx := Lib.hid (HB.out.trans (hba.mono HB.out.size))
        have HHHx := Lib.hid (HHH.out.below hba)
        have HHEx := Lib.hid (HHE.out.below hba)
        have HN := Lib.hid (Cs.new wr #[.int .i64 d, .int .i64 x1, .int .i64 v, .int .i64 n, .int .i64 o, .int .i64 tn, .slice At lt ct, .slice Ah lh ch, .slice Ae le ce, .slice Ab lb cb] 56)
        clear hba HB HHH HHE
        have HB := HBx
        have HHH := HHHx
        have HHE := HHEx
        clear HBx HHHx HHEx
        go_upto_region 6 with fail
        obtain ⟨w4, hwn⟩ : ∃ w4, wr.alloc (.cells #[.int .i64 d, .int .i64 x1, .int .i64 v, .int .i64 n, .int .i64 o, .int .i64 tn, .slice At lt ct, .slice Ah lh ch, .slice Ae le ce, .slice Ab lb cb] 56) = w4 := ⟨_, rfl⟩
        obtain ⟨q, hqn⟩ : ∃ q, wr.heap.size = q := ⟨_, rfl⟩
        rw [hwn] at HN HB HHH HHE 
        rw [hqn] at HN
        rw [hwn, hqn]
        clear hwn hqn c0 c1 c2 c3 c4 c5 c6 c7 c8 c9
        have n7 := HN.out.at 7 _ rfl
        go_wp2_with fail
        go_at_call 51
        refine (IH.out th lh Ah ch _ (a1, a2, a3) HLH.out HSM.out.1 HHH.out HNT.out HA).mono ?_
        rintro e w5 ⟨rfl, hb5⟩
        have HB5 := Lib.hid (HB.out.trans (hb5.mono HB.out.size))
        have HN5 := Lib.hid (HN.out.next hb5)
        have HHE5 := Lib.hid (HHE.out.below hb5)
        clear hb5 n7 HB HN HHE HHH
        have n8 := HN5.out.at 8 _ rfl
        go_wp2_with fail
        go_at_call 51
        refine (IH.out el le Ae ce _ (b1, b2, b3) HLE.out HSM.out.2 HHE5.out HNE.out HBb).mono ?_
        rintro e w6 ⟨rfl, hb6⟩
        have HB6 := Lib.hid (HB5.out.trans (hb6.mono HB5.out.size))
        have HN6 := Lib.hid (HN5.out.next hb6)
        clear hb6 n8 HB5 HN5 HHE5
        have n0 := HN6.out.at 0 _ rfl
        have n1 := HN6.out.at 1 _ rfl
        have n3 := HN6.out.at 3 _ rfl
        simp only
        have hx1 : 0 ≤ max a1 b1 ∧ max a1 b1 ≤ 4097 := by omega
        have hx2 : 0 ≤ max a2 b2 ∧ max a2 b2 ≤ 9 := by omega
        have hx3 : 0 ≤ max a3 b3 ∧ max a3 b3 ≤ 67108865 := by omega
        obtain ⟨m1, hm1⟩ : ∃ z, max a1 b1 = z := ⟨_, rfl⟩
        obtain ⟨m2, hm2⟩ : ∃ z, max a2 b2 = z := ⟨_, rfl⟩
        obtain ⟨m3, hm3⟩ : ∃ z, max a3 b3 = z := ⟨_, rfl⟩
        rw [hm1] at hx1
        rw [hm2] at hx2
        rw [hm3] at hx3
        obtain ⟨x10, x11⟩ := hx1
        obtain ⟨x20, x21⟩ := hx2
        obtain ⟨x30, x31⟩ := hx3
        have HM1 := Lib.hid hm1
        have HM2 := Lib.hid hm2
        have HM3 := Lib.hid hm3
        have hw1 : IntKind.i64.wrap (1 + m1) = 1 + m1 := IntWalk.i64_in _ (by omega)
        have hw2 : IntKind.i64.wrap (x1 + m3) = x1 + m3 := IntWalk.i64_in _ (by omega)
        clear hm1 hm2 hm3
        go_upto_region 8 with fail
        go_quiet ((go_at_call 82; exact Calls.quiet_of_same (rmost_eq _ _ _ (by first | exact HM1 | exact HM2 | exact HM3) _)))
        clear hw1 hw2
        by_cases h4 : d = 4
        · have q4 : (d == 4) = true := by rw [h4]; rfl
          have q1' : (d == 1) = false := by rw [h4]; rfl
          obtain ⟨y0, y1⟩ := HN4.out h4
          have hrb : rbN d x1 n (a1, a2, a3) (b1, b2, b3) = (1 + n * (1 + a1), n * a2, n * (x1 + a3)) := by unfold rbN; rw [if_pos h4]
          have hit := HIT.out
          unfold inT3 at hit
          rw [hrb] at hit
          simp only at hit
          obtain ⟨⟨r1, r2⟩, ⟨r3, r4⟩, ⟨r5, r6⟩⟩ := hit
          obtain ⟨X1, hX1⟩ : ∃ z, n * (1 + a1) = z := ⟨_, rfl⟩
          obtain ⟨X2, hX2⟩ : ∃ z, n * a2 = z := ⟨_, rfl⟩
          obtain ⟨X3, hX3⟩ : ∃ z, n * (x1 + a3) = z := ⟨_, rfl⟩
          rw [hX1, hX2, hX3] at hrb
          rw [hX1] at r1 r2
          rw [hX2] at r3 r4
          rw [hX3] at r5 r6
          have HRB := Lib.hid hrb
          have u0 : IntKind.i64.wrap (1 + a1) = 1 + a1 := IntWalk.i64_in _ (by omega)
          have u1 : IntKind.i64.wrap (n * (1 + a1)) = X1 := by rw [hX1]; exact IntWalk.i64_in _ (by omega)
          have u2 : IntKind.i64.wrap (1 + X1) = 1 + X1 := IntWalk.i64_in _ (by omega)
          have u3 : IntKind.i64.wrap (n * a2) = X2 := by rw [hX2]; exact IntWalk.i64_in _ (by omega)
          have u4 : IntKind.i64.wrap (x1 + a3) = x1 + a3 := IntWalk.i64_in _ (by omega)
          have u5 : IntKind.i64.wrap (n * (x1 + a3)) = X3 := by rw [hX3]; exact IntWalk.i64_in _ (by omega)
          clear hX1 hX2 hX3 hrb h4
          go_upto_region 10 with fail
          go_quiet (fail)
          clear u0 u1 u2 u3 u4 u5
          have HS3 : Hid (rbL (ks.drop (k + 1)) (min (s1 + (1 + X1)) 4097, min (s2 + (X2)) 9, min (s3 + (X3)) 67108865) = r) := by
            show _ = _
            have := HS2.out
            rw [HRB.out] at this; unfold rbA at this
            exact this
          clear HS2
          go_wp2_with fail
          go_at_call 83
          refine (rleast_any _ _ _).mono ?_
          rintro e wy ⟨rfl, rfl⟩
          go_wp2_with fail
          go_at_call 83
          refine (rleast_any _ _ _).mono ?_
          rintro e wy ⟨rfl, rfl⟩
          go_wp2_with fail
          go_at_call 83
          refine (rleast_any _ _ _).mono ?_
          rintro e wy ⟨rfl, rfl⟩
          go_wp2_with fail
          go_roundw
          case rel => exact ⟨k + 1, _, _, _, by omega, rfl, rfl, rfl, by go_num, by omega, by omega, by omega, HS3, Lib.hid (by first | exact below_drewN HB6.out _ | exact below_drewN (below_drewN HB6.out _) _)⟩
          case measure => simp [intOf]; omega
        · have q4 := beq_of h4
          by_cases h1 : d = 1
          · have q1' : (d == 1) = true := by rw [h1]; rfl
            have hrb : rbN d x1 n (a1, a2, a3) (b1, b2, b3) = (1 + m1, 1, x1 + m3) := by unfold rbN; rw [if_neg h4, if_pos h1]; simp only; rw [HM1.out, HM3.out]
            have HRB := Lib.hid hrb
            clear hrb h4 h1
            have HS3 : Hid (rbL (ks.drop (k + 1)) (min (s1 + (1 + m1)) 4097, min (s2 + (1)) 9, min (s3 + (x1 + m3)) 67108865) = r) := by
              show _ = _
              have := HS2.out
              rw [HRB.out] at this; unfold rbA at this
              exact this
            clear HS2
            go_wp2_with fail
            go_at_call 83
            refine (rleast_any _ _ _).mono ?_
            rintro e wy ⟨rfl, rfl⟩
            go_wp2_with fail
            go_at_call 83
            refine (rleast_any _ _ _).mono ?_
            rintro e wy ⟨rfl, rfl⟩
            go_wp2_with fail
            go_at_call 83
            refine (rleast_any _ _ _).mono ?_
            rintro e wy ⟨rfl, rfl⟩
            go_wp2_with fail
            go_roundw
            case rel => exact ⟨k + 1, _, _, _, by omega, rfl, rfl, rfl, by go_num, by omega, by omega, by omega, HS3, Lib.hid (by first | exact below_drewN HB6.out _ | exact below_drewN (below_drewN HB6.out _) _)⟩
            case measure => simp [intOf]; omega
          · have q1' := beq_of h1
            have hrb : rbN d x1 n (a1, a2, a3) (b1, b2, b3) = (1 + m1, m2, x1 + m3) := by unfold rbN; rw [if_neg h4, if_neg h1]; simp only; rw [HM1.out, HM2.out, HM3.out]
            have HRB := Lib.hid hrb
            clear hrb h4 h1
            have HS3 : Hid (rbL (ks.drop (k + 1)) (min (s1 + (1 + m1)) 4097, min (s2 + (m2)) 9, min (s3 + (x1 + m3)) 67108865) = r) := by
              show _ = _
              have := HS2.out
              rw [HRB.out] at this; unfold rbA at this
              exact this
            clear HS2
            go_wp2_with fail
            go_at_call 83
            refine (rleast_any _ _ _).mono ?_
            rintro e wy ⟨rfl, rfl⟩
            go_wp2_with fail
            go_at_call 83
            refine (rleast_any _ _ _).mono ?_
            rintro e wy ⟨rfl, rfl⟩
            go_wp2_with fail
            go_at_call 83
            refine (rleast_any _ _ _).mono ?_
            rintro e wy ⟨rfl, rfl⟩
            go_wp2_with fail
            go_roundw
            case rel => exact ⟨k + 1, _, _, _, by omega, rfl, rfl, rfl, by go_num, by omega, by omega, by omega, HS3, Lib.hid (by first | exact below_drewN HB6.out _ | exact below_drewN (below_drewN HB6.out _) _)⟩
            case measure => simp [intOf]; omega
      · obtain rfl : k = l := by omega
        have hr : (s1, s2, s3) = r := by rw [← HS.out, List.drop_of_length_le (by rw [HL.out]; exact Nat.le_refl _), rbL]
        subst hr
        clear HS
        go_wp2_with fail
        go_returns
        exact ⟨rfl, HB.out⟩

theorem checkP_ref (vs : List Vr) (hs : List Ht) (ks : List Sp) : checkP vs hs ks = (if sizesB vs hs ks = false then 4 else if varsC vs ≠ 0 then varsC vs else if hatsC vs hs ≠ 0 then hatsC vs hs else if stepsC vs hs.length true ks ≠ 0 then stepsC vs hs.length true ks else if upBad (rbL ks (0, 0, 0)) = true then 4 else 0) := by
  unfold checkP
  have hz := sizes_eq vs hs ks
  by_cases h0 : sizesB vs hs ks = false
  · rw [if_pos h0, if_pos (hz.2 h0)]
  · rw [if_neg h0, if_neg (fun h => h0 (hz.1 h))]
    by_cases h3 : stepsC vs hs.length true ks = 0
    · rw [(bad_eq h3).2]
    · simp only [ne_eq, h3, not_false_eq_true, if_true]

set_option maxRecDepth 100000 in
set_option maxHeartbeats 16000000 in
theorem rcheck_b (vs : List Vr) (hs : List Ht) (ks : List Sp) (Av : Option Addr) (lv cv : Nat) (Ag : Option Addr) (lg cg : Nat) (Ay : Option Addr) (ly cy : Nat) (w : World) (hv : VOk w Av lv cv vs) (hh : HOk w Ag lg cg hs) (hl : ks.length = ly) (hk : SOk w Ay cy ks) (hlv : lv ≤ 1000) (hbd : hcnt hs + Sp.cntL ks ≤ 90000) (r : Int) (H : Hid (checkP vs hs ks = r)) :
    Calls Tryz.prog 22 #[.agg #[.slice Av lv cv, .slice Ag lg cg, .slice Ay ly cy]] w fun e w' => e = .returned (.int .i64 r) ∧ Below w.heap.size w w' := by
  have hba := (Below.refl w.heap.size w).alloc (Nat.le_refl _) (.cells #[.slice Av lv cv, .slice Ag lg cg, .slice Ay ly cy] 26)
  have HB := Lib.hid hba
  have HC := Lib.hid (Cs.new w #[.slice Av lv cv, .slice Ag lg cg, .slice Ay ly cy] 26)
  have HV := Lib.hid (hv.below hba)
  have HHS := Lib.hid (hh.below hba)
  have HK := Lib.hid (hk.below hba)
  have HL := Lib.hid hl
  have HVL := Lib.hid hv.len
  have HHL := Lib.hid hh.len
  have HBD := Lib.hid hbd
  have hlg' : lg ≤ 9223372036854775807 := by have h1 := hh.cap; have h2 := hh.big; unfold maxLen at h2; omega
  obtain ⟨b0, hb0⟩ : ∃ z, sizesB vs hs ks = z := ⟨_, rfl⟩
  obtain ⟨r1, hr1⟩ : ∃ z, varsC vs = z := ⟨_, rfl⟩
  obtain ⟨r2, hr2⟩ : ∃ z, hatsC vs hs = z := ⟨_, rfl⟩
  obtain ⟨r3, hr3⟩ : ∃ z, stepsC vs lg true ks = z := ⟨_, rfl⟩
  obtain ⟨u, hu⟩ : ∃ z, rbL ks (0, 0, 0) = z := ⟨_, rfl⟩
  have hsum : (if b0 = false then 4 else if r1 ≠ 0 then r1 else if r2 ≠ 0 then r2 else if r3 ≠ 0 then r3 else if upBad u = true then 4 else 0) = r := by
    rw [← H.out, checkP_ref, hh.len, hb0, hr1, hr2, hr3, hu]
  have HB0 := Lib.hid hb0
  have HR1 := Lib.hid hr1
  have HR2 := Lib.hid hr2
  have HR3 := Lib.hid hr3
  have HU := Lib.hid hu
  have HSUM := Lib.hid hsum
  clear hba hv hh hl hk hbd H hb0 hr1 hr2 hr3 hu hsum
  go_enter Tryz.func22, Tryz.ntmps22
  go_upto_region 1 with fail
  obtain ⟨w1, hw1⟩ : ∃ w1, w.alloc (.cells #[.slice Av lv cv, .slice Ag lg cg, .slice Ay ly cy] 26) = w1 := ⟨_, rfl⟩
  obtain ⟨p, hp⟩ : ∃ p, w.heap.size = p := ⟨_, rfl⟩
  rw [hw1] at HB HC HV HHS HK
  rw [hp] at HC
  rw [hw1, hp]
  clear hw1 hp
  have f0 := HC.out.at 0 _ rfl
  have f1 := HC.out.at 1 _ rfl
  have f2 := HC.out.at 2 _ rfl
  go_wp2_with fail
  go_at_call 45
  refine (rsizes_b vs hs ks Av lv cv Ag lg cg Ay ly cy _ HVL.out (by omega) HHS.out HL.out HK.out HBD.out b0 HB0).mono ?_
  rintro e w2 ⟨rfl, hb⟩
  have HB2 := Lib.hid (HB.out.trans (hb.mono HB.out.size))
  have HC2 := Lib.hid (HC.out.next hb)
  have HV2 := Lib.hid (HV.out.below hb)
  have HHS2 := Lib.hid (HHS.out.below hb)
  have HK2 := Lib.hid (HK.out.below hb)
  clear hb HB HC HV HHS HK f0 f1 f2
  have f0 := HC2.out.at 0 _ rfl
  have f1 := HC2.out.at 1 _ rfl
  have f2 := HC2.out.at 2 _ rfl
  cases b0 with
  | false =>
    have hr : r = 4 := by have := HSUM.out; rw [if_pos rfl] at this; exact this.symm
    subst hr
    clear HSUM
    go_wp2_with fail
    go_ret
    exact ⟨rfl, HB2.out⟩
  | true =>
  have HSUM1 : Hid ((if r1 ≠ 0 then r1 else if r2 ≠ 0 then r2 else if r3 ≠ 0 then r3 else if upBad u = true then 4 else 0) = r) := by show _ = _; have := HSUM.out; rwa [if_neg (by decide)] at this
  clear HSUM
  have HSUM := HSUM1
  clear HSUM1
  go_wp2_with fail
  go_at_call 46
  refine (rcheckVars_b vs Av lv cv _ HV2.out r1 HR1).mono ?_
  rintro e w3 ⟨rfl, hb⟩
  have HB3 := Lib.hid (HB2.out.trans (hb.mono HB2.out.size))
  have HC3 := Lib.hid (HC2.out.next hb)
  have HV3 := Lib.hid (HV2.out.below hb)
  have HHS3 := Lib.hid (HHS2.out.below hb)
  have HK3 := Lib.hid (HK2.out.below hb)
  clear hb HB2 HC2 HV2 HHS2 HK2 f0 f1 f2
  have f0 := HC3.out.at 0 _ rfl
  have f1 := HC3.out.at 1 _ rfl
  have f2 := HC3.out.at 2 _ rfl
  by_cases z1 : r1 = 0
  case neg =>
    have hbn := bne_of z1
    have hr : r = r1 := by have := HSUM.out; rw [if_pos z1] at this; exact this.symm
    subst hr
    clear HSUM
    go_wp2_with fail
    go_ret
    exact ⟨rfl, HB3.out⟩
  have hbn1 : (r1 != 0) = false := by rw [z1]; rfl
  have HSUM1 : Hid ((if r2 ≠ 0 then r2 else if r3 ≠ 0 then r3 else if upBad u = true then 4 else 0) = r) := by show _ = _; have := HSUM.out; rwa [if_neg (by simpa using z1)] at this
  have HVB := Lib.hid (varsC_B (HR1.out.trans z1))
  clear HSUM z1
  have HSUM := HSUM1
  clear HSUM1
  go_upto_region 7 with fail
  clear hbn1
  go_loopw [4] (fun v wr => ∃ i : Nat, i ≤ lg ∧ v = .int .i64 i ∧ Hid (∀ j, j < i → hatAt vs hs j = 0) ∧ Hid (Below w.heap.size w wr) ∧ Hid (Below w3.heap.size w3 wr) ∧ Hid (Cs wr p [.slice Av lv cv, .slice Ag lg cg, .slice Ay ly cy])) (fun v _ => lg - (intOf v).toNat)
  case atStart => exact ⟨0, by omega, rfl, fun j h => absurd h (by omega), HB3, Lib.hid (Below.refl _ _), HC3⟩
  case round =>
    clear HB3 HC3 f0 f1 f2
    obtain ⟨i, hi, rfl, HK9, HB, HBr, HC⟩ := hrel
    have f0 := HC.out.at 0 _ rfl
    have f1 := HC.out.at 1 _ rfl
    have f2 := HC.out.at 2 _ rfl
    by_cases hlt : i < lg
    · have hlt' : (i : Int) < (lg : Int) := by omega
      have hi0 : (0 : Int) ≤ (i : Int) := by omega
      obtain ⟨nm, lo, hi, o, n, kk, gg, f, A2, c2, hx, hsz, hA, hg, k0, k1, k2, k3, k4, k5, htk⟩ := (HHS3.out.below HBr.out).at i hlt
      subst hA
      obtain ⟨l2, hl2⟩ : ∃ l2, kk.length = l2 := ⟨_, rfl⟩
      rw [hl2] at k5
      have hat : hatAt vs hs i = hatC vs (hs.take i) ⟨nm, lo, hi, .mk o n kk⟩ := by unfold hatAt; rw [hx]; rfl
      have HAT := Lib.hid hat
      have HIT : Hid (∀ z, z ≠ 0 → hatAt vs hs i = z → hatsC vs hs = z) := fun z hz e => by
        have h1 := fstC_hit hs.length i (hatAt vs hs) (by rw [HHL.out]; exact hlt) HK9.out (by rw [e]; exact hz)
        unfold hatsC
        rw [h1, e]
      have HL2 := Lib.hid hl2
      have HTK := Lib.hid htk
      obtain ⟨b1, hb1⟩ : ∃ z, nameB nm = z := ⟨_, rfl⟩
      have HN1 := Lib.hid hb1
      obtain ⟨tc, htc⟩ : ∃ z, termC vs true (.mk o n kk) = z := ⟨_, rfl⟩
      have HTC := Lib.hid htc
      clear hx hat hl2 htk hb1 htc
      have hba := (Below.refl wr.heap.size wr).alloc (Nat.le_refl _) (.cells #[.string nm, .int .i64 lo, .int .i64 hi, .int .i64 o, .int .i64 n, .slice A2 l2 c2] 62)
      have HBx := Lib.hid (HB.out.trans (hba.mono HB.out.size))
      have HBrx := Lib.hid (HBr.out.trans (hba.mono HBr.out.size))
      have HCx := Lib.hid (HC.out.next hba)
      have HTKx := Lib.hid (HTK.out.below hba)
      have HN := Lib.hid (Cs.new wr #[.string nm, .int .i64 lo, .int .i64 hi, .int .i64 o, .int .i64 n, .slice A2 l2 c2] 62)
      clear hba HB HBr HC HTK
      have HB := HBx
      have HBr := HBrx
      have HC := HCx
      have HTK := HTKx
      clear HBx HBrx HCx HTKx
      go_upto_region 10 with fail
      obtain ⟨w5, hwn⟩ : ∃ w5, wr.alloc (.cells #[.string nm, .int .i64 lo, .int .i64 hi, .int .i64 o, .int .i64 n, .slice A2 l2 c2] 62) = w5 := ⟨_, rfl⟩
      obtain ⟨q, hqn⟩ : ∃ q, wr.heap.size = q := ⟨_, rfl⟩
      rw [hwn] at HN HB HBr HC HTK 
      rw [hqn] at HN
      rw [hwn, hqn]
      clear hwn hqn k0 k1 k2 k3 k4 k5 f0 f1 f2
      have n0 := HN.out.at 0 _ rfl
      go_wp2_with fail
      go_at_call 47
      refine (risName_b nm b1 HN1 hsz _).mono ?_
      rintro e wy ⟨rfl, rfl⟩
      cases b1 with
      | false =>
        have hr2 : r2 = 7 := by rw [← HR2.out]; exact HIT.out 7 (by decide) (by rw [HAT.out]; unfold hatC; rw [if_pos HN1.out])
        have hr : r = 7 := by have := HSUM.out; rw [hr2, if_pos (by decide)] at this; exact this.symm
        subst hr
        clear HSUM HIT hr2
        go_wp2_with fail
        go_ret
        exact ⟨rfl, HB.out⟩
      | true =>
        clear n0
        go_upto_region 13 with fail
        obtain ⟨wo, hwo⟩ : ∃ wo, wo = wr := ⟨_, rfl⟩
        clear hwo
        go_loopw [6] (fun v wq => ∃ j : Nat, j ≤ i ∧ v = .int .i64 j ∧ Hid (∀ k v', hs[k]? = some v' → k < j → (v'.name.toList == nm.toList) = false) ∧ Hid (Below w5.heap.size w5 wq)) (fun v _ => i - (intOf v).toNat)
        case atStart => exact ⟨0, by omega, rfl, fun k _ _ h => absurd h (by omega), Lib.hid (Below.refl _ _)⟩
        case round =>
          obtain ⟨j, hj, rfl, HD, HBq⟩ := hrel
          have HB5 := Lib.hid (HB.out.trans (HBq.out.mono HB.out.size))
          have HBr5 := Lib.hid (HBr.out.trans (HBq.out.mono HBr.out.size))
          have HN5 := Lib.hid (HN.out.next HBq.out)
          have HC5 := Lib.hid (HC.out.next HBq.out)
          have n0 := HN5.out.at 0 _ rfl
          have f1 := HC5.out.at 1 _ rfl
          by_cases hjt : j < i
          · have hjt' : (j : Int) < (i : Int) := by omega
            have hjl : (j : Int) < (lg : Int) := by omega
            have hj0 : (0 : Int) ≤ (j : Int) := by omega
            obtain ⟨s, lo', hi', o', n', kk', g', f', A', c', hx', hs', hA', hg', k0, _, _, _, _, _, _⟩ := (HHS3.out.below HBr5.out).at j (by omega)
            injection hA' with hA'
            injection hA' with e1 e2
            subst e1 e2
            have HX' := Lib.hid hx'
            have HBQ := Lib.hid HBq.out
            clear hx'
            cases hst : (s.toList == nm.toList)
            · have HST : Hid ((s.toList == nm.toList) = false) := hst
              go_upto_region 15 with fail
              go_quiet (fail)
              clear k0 n0 f1
              go_wp2_with fail
              go_roundw
              case rel =>
                refine ⟨j + 1, by omega, by go_num, fun k v' hv' hk' => ?_, Lib.hid (below_drewN HBQ.out _)⟩
                by_cases e : k = j
                · subst e
                  rw [HX'.out] at hv'
                  cases hv'
                  exact HST.out
                · exact HD.out k v' hv' (by omega)
              case measure => simp [intOf]; omega
            · have hdu : dupH (hs.take i) nm = true := any_hit (k := j) (v := ⟨s, lo', hi', .mk o' n' kk'⟩) (by rw [List.getElem?_take, if_pos hjt]; exact HX'.out) hst
              have HDU := Lib.hid hdu
              have HB5' := Lib.hid HB5.out
              clear hdu
              go_upto_region 15 with fail
              go_quiet (fail)
              clear k0 n0 f1 hst
              have hr2 : r2 = 8 := by rw [← HR2.out]; exact HIT.out 8 (by decide) (by rw [HAT.out]; unfold hatC; rw [if_neg (by rw [HN1.out]; decide), if_pos HDU.out])
              have hr : r = 8 := by have := HSUM.out; rw [hr2, if_pos (by decide)] at this; exact this.symm
              subst hr
              clear HSUM HIT hr2
              go_wp2_with fail
              go_ret
              exact ⟨rfl, below_drewN HB5'.out _⟩
          · have hdu : dupH (hs.take i) nm = false := any_none fun k v' hv' => by
              rw [List.getElem?_take] at hv'
              by_cases e : k < i
              · rw [if_pos e] at hv'; exact HD.out k v' hv' (by omega)
              · rw [if_neg e] at hv'; cases hv'
            have HDU := Lib.hid hdu
            obtain ⟨b2, hb2⟩ : ∃ z, boundB lo hi = z := ⟨_, rfl⟩
            have HB2 := Lib.hid hb2
            have HTK5 := Lib.hid (HTK.out.below HBq.out)
            have n1 := HN5.out.at 1 _ rfl
            have n2 := HN5.out.at 2 _ rfl
            clear hdu HD hb2 HBq n0 f1
            go_wp2_with fail
            go_at_call 48
            refine (rbounded_b lo hi b2 HB2 _).mono ?_
            rintro e wy ⟨rfl, rfl⟩
            cases b2 with
            | false =>
              have hr2 : r2 = 3 := by rw [← HR2.out]; exact HIT.out 3 (by decide) (by rw [HAT.out]; unfold hatC; rw [if_neg (by rw [HN1.out]; decide), if_neg (by rw [HDU.out]; decide), if_pos HB2.out])
              have hr : r = 3 := by have := HSUM.out; rw [hr2, if_pos (by decide)] at this; exact this.symm
              subst hr
              clear HSUM HIT hr2
              go_wp2_with fail
              go_ret
              exact ⟨rfl, HB5.out⟩
            | true =>
              have hbb : ¬ (boundB lo hi = false) := by rw [HB2.out]; decide
              have HBB := Lib.hid hbb
              clear n1 n2 hbb
              have n3 := HN5.out.at 3 _ rfl
              have n4 := HN5.out.at 4 _ rfl
              have n5 := HN5.out.at 5 _ rfl
              have f0 := HC5.out.at 0 _ rfl
              go_wp2_with fail
              go_at_call 49
              refine (rcheckTerm_b vs HVB.out Av lv cv true o n kk l2 A2 c2 _ tc HL2.out HTK5.out (HV3.out.below HBr5.out) HTC).mono ?_
              rintro e w7 ⟨rfl, hb7⟩
              have HB7 := Lib.hid (HB5.out.trans (hb7.mono HB5.out.size))
              have HBr7 := Lib.hid (HBr5.out.trans (hb7.mono HBr5.out.size))
              have HC7 := Lib.hid (HC5.out.next hb7)
              clear hb7 HB5 HBr5 HC5 HN5 HTK5 n3 n4 n5 f0
              by_cases etc : tc = 0
              case neg =>
                have hbn := bne_of etc
                have hr2 : r2 = tc := by rw [← HR2.out]; exact HIT.out tc etc (by rw [HAT.out]; unfold hatC; rw [if_neg (by rw [HN1.out]; decide), if_neg (by rw [HDU.out]; decide), if_neg HBB.out]; exact HTC.out)
                have hr : r = tc := by have := HSUM.out; rw [hr2, if_pos etc] at this; exact this.symm
                subst hr
                clear HSUM HIT hr2
                go_wp2_with fail
                go_ret
                exact ⟨rfl, HB7.out⟩
              have hbn : (tc != 0) = false := by rw [etc]; rfl
              have HK' : Hid (∀ j, j < i + 1 → hatAt vs hs j = 0) := fun j' hj => by
                by_cases e : j' = i
                · rw [e, HAT.out]; unfold hatC; rw [if_neg (by rw [HN1.out]; decide), if_neg (by rw [HDU.out]; decide), if_neg HBB.out]; exact HTC.out.trans etc
                · exact HK9.out j' (by omega)
              clear HAT HIT HK9 etc
              go_wp2_with fail
              go_roundw
              case rel => exact ⟨i + 1, by omega, by go_num, HK', HB7, HBr7, HC7⟩
              case measure => simp [intOf]; omega
    · have hr20 : r2 = 0 := by rw [← HR2.out]; exact fstC_none _ _ fun j hj => HK9.out j (by rw [HHL.out] at hj; omega)
      have HSUM1 : Hid ((if r3 ≠ 0 then r3 else if upBad u = true then 4 else 0) = r) := by show _ = _; have := HSUM.out; rwa [if_neg (by simpa using hr20)] at this
      clear HSUM hr20 HK9
      have HSUM := HSUM1
      clear HSUM1
      go_wp2_with fail
      go_at_call 50
      refine (rsteps_any vs HVB.out Av lv cv Ag lg cg Ay ly cy (Sp.cntL ks) ks ly Ay cy true _ r3 HL.out (Nat.le_refl _) (HK3.out.below HBr.out) (HV3.out.below HBr.out) HR3).mono ?_
      rintro e w5 ⟨rfl, hb⟩
      have HB5 := Lib.hid (HB.out.trans (hb.mono HB.out.size))
      have HBr5 := Lib.hid (HBr.out.trans (hb.mono HBr.out.size))
      have HC5 := Lib.hid (HC.out.next hb)
      clear hb HB HBr HC f0 f1 f2
      have f2 := HC5.out.at 2 _ rfl
      by_cases z3 : r3 = 0
      case neg =>
        have hbn := bne_of z3
        have hr : r = r3 := by have := HSUM.out; rw [if_pos z3] at this; exact this.symm
        subst hr
        clear HSUM
        go_wp2_with fail
        go_ret
        exact ⟨rfl, HB5.out⟩
      have hbn3 : (r3 != 0) = false := by rw [z3]; rfl
      have HSUM1 : Hid ((if upBad u = true then 4 else 0) = r) := by show _ = _; have := HSUM.out; rwa [if_neg (by simpa using z3)] at this
      have HNL := Lib.hid (stepsC_num ks vs lg true (HR3.out.trans z3))
      obtain ⟨u1, u2, u3⟩ := u
      clear HSUM z3
      go_wp2_with fail
      go_at_call 51
      refine (rbounds_any (Sp.cntL ks) ks ly Ay cy _ (u1, u2, u3) HL.out (Nat.le_refl _) (HK3.out.below HBr5.out) HNL.out HU).mono ?_
      rintro e w6 ⟨rfl, hb⟩
      have HB6 := Lib.hid (HB5.out.trans (hb.mono HB5.out.size))
      clear hb HB5 HBr5 HC5 f2 hbn3
      simp only
      by_cases f1 : 4096 < u1
      · have f1d : decide (4096 < u1) = true := decide_eq_true f1
        have hr : r = 4 := by have := HSUM1.out; simp [upBad, f1] at this; exact this.symm
        subst hr
        clear HSUM1
        go_wp2_with fail
        go_ret
        exact ⟨rfl, HB6.out⟩
      have f1d : decide (4096 < u1) = false := decide_eq_false f1
      by_cases f2 : 8 < u2
      · have f2d : decide (8 < u2) = true := decide_eq_true f2
        have hr : r = 4 := by have := HSUM1.out; simp [upBad, f2] at this; exact this.symm
        subst hr
        clear HSUM1
        go_wp2_with fail
        go_ret
        exact ⟨rfl, HB6.out⟩
      have f2d : decide (8 < u2) = false := decide_eq_false f2
      by_cases f3 : 67108864 < u3
      · have f3d : decide (67108864 < u3) = true := decide_eq_true f3
        have hr : r = 4 := by have := HSUM1.out; simp [upBad, f3] at this; exact this.symm
        subst hr
        clear HSUM1
        go_wp2_with fail
        go_ret
        exact ⟨rfl, HB6.out⟩
      have f3d : decide (67108864 < u3) = false := decide_eq_false f3
      have hr : r = 0 := by have := HSUM1.out; simp [upBad, f1, f2, f3] at this; exact this.symm
      subst hr
      clear HSUM1
      go_wp2_with fail
      go_ret
      exact ⟨rfl, HB6.out⟩
end Go.Proofs.YtjpjmoejdkmglaaGreat
