/-
  The walk over the reference's checkSteps.
-/
import Derived.Test.YtjpjmoejdkmglaaGreatFlCh
import Derived.Test.YtjpjmoejdkmglaaGreatJB
namespace Go.Proofs.YtjpjmoejdkmglaaGreat
open Go.RowKit

/-- The numbers of a step as the reference looks at them. -/
def numR (d c n : Int) (bs : List Int) : Bool :=
  decide (0 ≤ c) && (decide (c ≤ if d = 2 then 67108864 else 10000) && (decide (0 ≤ n) && ((d != 4 || decide (n ≤ 4096)) && (decide (bs.length = 0) || decide (bs.getD (bs.length - 1) 0 ≤ 67108864)))))
theorem shaped_num {vs : List Vr} {nh : Nat} {last : Bool} {d v n : Int} {z : Bool} {lh le : Nat} {bs : List Int} (h : shapedB vs nh last d v n z lh le bs = true) : (d ≠ 4 → 0 ≤ n) ∧ (d ≠ 6 → bs.length = 0) ∧ (d = 6 → 1 ≤ bs.length) := by
  by_cases h0 : d = 0
  · subst h0
    unfold shapedB at h
    rw [if_pos rfl] at h
    simp only [Bool.and_eq_true, decide_eq_true_eq, beq_iff_eq] at h
    refine ⟨fun e => ?_, fun e => ?_, fun e => ?_⟩ <;> first | omega | exact absurd rfl e
  by_cases h1 : d = 1
  · subst h1
    unfold shapedB at h
    rw [if_neg (by decide), if_pos rfl] at h
    simp only [Bool.and_eq_true, decide_eq_true_eq, beq_iff_eq] at h
    refine ⟨fun e => ?_, fun e => ?_, fun e => ?_⟩ <;> first | omega | exact absurd rfl e
  by_cases h2 : d = 2
  · subst h2
    unfold shapedB at h
    rw [if_neg (by decide), if_neg (by decide), if_pos rfl] at h
    simp only [Bool.and_eq_true, decide_eq_true_eq, beq_iff_eq] at h
    refine ⟨fun e => ?_, fun e => ?_, fun e => ?_⟩ <;> first | omega | exact absurd rfl e
  by_cases h3 : d = 3
  · subst h3
    unfold shapedB at h
    rw [if_neg (by decide), if_neg (by decide), if_neg (by decide), if_pos rfl] at h
    simp only [Bool.and_eq_true, decide_eq_true_eq, beq_iff_eq] at h
    refine ⟨fun e => ?_, fun e => ?_, fun e => ?_⟩ <;> first | omega | exact absurd rfl e
  by_cases h4 : d = 4
  · subst h4
    unfold shapedB at h
    rw [if_neg (by decide), if_neg (by decide), if_neg (by decide), if_neg (by decide), if_pos rfl] at h
    simp only [Bool.and_eq_true, decide_eq_true_eq, beq_iff_eq] at h
    refine ⟨fun e => ?_, fun e => ?_, fun e => ?_⟩ <;> first | omega | exact absurd rfl e
  by_cases h5 : d = 5
  · subst h5
    unfold shapedB at h
    rw [if_neg (by decide), if_neg (by decide), if_neg (by decide), if_neg (by decide), if_neg (by decide), if_pos rfl] at h
    simp only [Bool.and_eq_true, decide_eq_true_eq] at h
    refine ⟨fun e => ?_, fun e => ?_, fun e => ?_⟩ <;> first | omega | exact absurd rfl e
  by_cases h6 : d = 6
  · subst h6
    unfold shapedB at h
    rw [if_neg (by decide), if_neg (by decide), if_neg (by decide), if_neg (by decide), if_neg (by decide), if_neg (by decide), if_pos rfl] at h
    simp only [Bool.and_eq_true, decide_eq_true_eq, beq_iff_eq, riseB] at h
    refine ⟨fun e => ?_, fun e => ?_, fun e => ?_⟩ <;> first | omega | exact absurd rfl e
  · unfold shapedB at h
    rw [if_neg h0, if_neg h1, if_neg h2, if_neg h3, if_neg h4, if_neg h5, if_neg h6] at h
    cases h
theorem numR_eq {vs : List Vr} {nh : Nat} {last : Bool} {d v n : Int} {z : Bool} {lh le : Nat} {bs : List Int} (h : shapedB vs nh last d v n z lh le bs = true) (c : Int) : numberedB d c n bs = numR d c n bs := by
  obtain ⟨g1, g2, g3⟩ := shaped_num h
  unfold numberedB numR
  rw [Bool.eq_iff_iff]
  simp only [Bool.and_eq_true, decide_eq_true_eq, Bool.or_eq_true, bne_iff_ne]
  by_cases e4 : d = 4
  · subst e4
    have := g2 (by decide)
    exact ⟨fun ⟨p1, p2, p3, _⟩ => have q := p3.resolve_left (fun h => h rfl); ⟨p1, p2, q.1, .inr q.2, .inl this⟩, fun ⟨p1, p2, p3, p4, _⟩ => ⟨p1, p2, .inr ⟨p3, p4.resolve_left (fun h => h rfl)⟩, .inl (by decide)⟩⟩
  by_cases e6 : d = 6
  · subst e6
    have a := g1 (by decide)
    have b := g3 rfl
    exact ⟨fun ⟨p1, p2, _, p4⟩ => ⟨p1, p2, a, .inl (by decide), .inr (p4.resolve_left (fun h => h rfl))⟩, fun ⟨p1, p2, _, _, p5⟩ => ⟨p1, p2, .inl (by decide), .inr (p5.resolve_left (by omega))⟩⟩
  · have a := g1 e4
    have b := g2 e6
    simp [e4, e6, a, b]

set_option maxRecDepth 100000 in
set_option maxHeartbeats 16000000 in
theorem rsteps_any (vs : List Vr) (hvb : vB vs) (Av : Option Addr) (lv cv : Nat) (Ag : Option Addr) (lg cg : Nat) (Ay : Option Addr) (ly cy : Nat) (m : Nat) : ∀ (ks : List Sp) (l : Nat) (A : Option Addr) (c : Nat) (top : Bool) (w : World) (r : Int), ks.length = l → Sp.cntL ks ≤ m → SOk w A c ks → VOk w Av lv cv vs → Hid (stepsC vs lg top ks = r) →
    Calls Tryz.prog 50 #[.agg #[.slice Av lv cv, .slice Ag lg cg, .slice Ay ly cy], .slice A l c, .bool top] w fun e w' => e = .returned (.int .i64 r) ∧ Below w.heap.size w w' := by
  induction m with
  | zero =>
    intro ks l A c top w r hl hm ht hv H
    have hk : ks = [] := by
      cases ks with
      | nil => rfl
      | cons k ks => have := Sp.cnt_pos k; simp only [Sp.cntL] at hm; omega
    subst hk
    have hl0 : l = 0 := hl.symm
    subst hl0
    have hr : r = 0 := by rw [← H.out, stepsC]
    subst hr
    have HB := Lib.hid ((Below.refl w.heap.size w).alloc (Nat.le_refl _) (.cells #[.slice Av lv cv, .slice Ag lg cg, .slice Ay ly cy] 26))
    clear ht hv H
    go_enter Tryz.func50, Tryz.ntmps50
    go_upto_region 1 with fail
    obtain ⟨w1, hw1⟩ : ∃ w1, w.alloc (.cells #[.slice Av lv cv, .slice Ag lg cg, .slice Ay ly cy] 26) = w1 := ⟨_, rfl⟩
    rw [hw1] at HB
    rw [hw1]
    clear hw1
    go_upto_region 2 with fail
    go_loopw [7] (fun v wr => v = .int .i64 0 ∧ wr = w1) (fun _ _ => 0)
    case atStart => exact ⟨rfl, rfl⟩
    case round =>
      obtain ⟨rfl, rfl⟩ := hrel
      go_wp2_with fail
      go_ret
      exact ⟨rfl, HB.out⟩
  | succ m ih =>
    intro ks l A c top w r hl hm ht hv H
    have IH := Lib.hid ih
    have HM := Lib.hid hm
    have HL := Lib.hid hl
    have HT := Lib.hid ht
    have HV := Lib.hid hv
    have HVB := Lib.hid hvb
    have HH : Hid (stepsC vs lg top (ks.drop 0) = r) := H
    have hlm : l ≤ 9223372036854775807 := by have h1 := ht.1; have h2 := ht.2.1; unfold maxLen at h2; omega
    have HB := Lib.hid ((Below.refl w.heap.size w).alloc (Nat.le_refl _) (.cells #[.slice Av lv cv, .slice Ag lg cg, .slice Ay ly cy] 26))
    have HC := Lib.hid (Cs.new w #[.slice Av lv cv, .slice Ag lg cg, .slice Ay ly cy] 26)
    clear ih hm hl ht hv H hvb
    go_enter Tryz.func50, Tryz.ntmps50
    go_upto_region 1 with fail
    obtain ⟨w1, hw1⟩ : ∃ w1, w.alloc (.cells #[.slice Av lv cv, .slice Ag lg cg, .slice Ay ly cy] 26) = w1 := ⟨_, rfl⟩
    obtain ⟨p, hp⟩ : ∃ p, w.heap.size = p := ⟨_, rfl⟩
    have HBp : Hid (Below w.heap.size w w1) := by show Below _ _ _; rw [← hw1]; exact HB.out
    rw [hw1, hp] at HC
    rw [hw1, hp]
    clear hw1 hp HB
    go_upto_region 2 with fail
    go_loopw [7] (fun v wr => ∃ k : Nat, k ≤ l ∧ v = .int .i64 k ∧ Hid (stepsC vs lg top (ks.drop k) = r) ∧ Hid (Below w.heap.size w wr) ∧ Hid (Cs wr p [.slice Av lv cv, .slice Ag lg cg, .slice Ay ly cy])) (fun v _ => l - (intOf v).toNat)
    case atStart => exact ⟨0, by omega, rfl, HH, HBp, HC⟩
    case round =>
      clear HBp HC HH
      obtain ⟨k, hk, rfl, HS, HB, HC⟩ := hrel
      by_cases hlt : k < l
      · have hkl : k < ks.length := by rw [HL.out]; exact hlt
        have hlt' : (k : Int) < (l : Int) := by omega
        have hk0 : (0 : Int) ≤ (k : Int) := by omega
        obtain ⟨d, x1, v, n, o, tn, tk, th, el, bs, g, f, At, ct, Ah, ch, Ae, ce, Ab, cb, hkid, hA, hg, hsc, htok, hth, hel, hbs⟩ := (HT.out.below HB.out).step k hkl
        subst hA
        obtain ⟨lt, hlt1⟩ : ∃ l, tk.length = l := ⟨_, rfl⟩
        obtain ⟨lh, hlh⟩ : ∃ l, th.length = l := ⟨_, rfl⟩
        obtain ⟨le, hle⟩ : ∃ l, el.length = l := ⟨_, rfl⟩
        obtain ⟨lb, hlb⟩ : ∃ l, bs.length = l := ⟨_, rfl⟩
        rw [hlt1, hlh, hle, hlb] at hsc
        rw [hlb] at hbs
        have hdr : ks.drop k = .mk d x1 v n (.mk o tn tk) th el bs :: ks.drop (k + 1) := by rw [List.drop_eq_getElem_cons hkl, hkid]
        have hcm : 1 + Tm.cnt (.mk o tn tk) + Sp.cntL th + Sp.cntL el ≤ m + 1 := by
          have := Sp.cntL_get ks k hkl
          rw [hkid] at this
          simp only [Sp.cnt] at this
          have := HM.out
          omega
        have HLT := Lib.hid hlt1
        have HLH := Lib.hid hlh
        have HLE := Lib.hid hle
        have HLB := Lib.hid hlb
        have HCM := Lib.hid hcm
        obtain ⟨c0, c1, c2, c3, c4, c5, c6, c7, c8, c9⟩ := hsc
        have HSM : Hid (Sp.cntL th ≤ m ∧ Sp.cntL el ≤ m) := Lib.hid (by have h4 := Tm.cnt_pos (.mk o tn tk); omega)
        have hlbm : lb ≤ 9223372036854775807 := by have h1 := hbs.cap; have h2 := hbs.big; unfold maxLen at h2; omega
        have HHT := Lib.hid htok
        have HHH := Lib.hid hth
        have HHE := Lib.hid hel
        have HBS := Lib.hid hbs
        have hem : (l = k + 1 → (ks.drop (k + 1)).isEmpty = true) ∧ (l ≠ k + 1 → (ks.drop (k + 1)).isEmpty = false) := by
          refine ⟨fun h => ?_, fun h => ?_⟩
          · rw [List.drop_of_length_le (by rw [HL.out]; omega)]; rfl
          · have : (ks.drop (k + 1)).length ≠ 0 := by rw [List.length_drop, HL.out]; omega
            cases hd : ks.drop (k + 1) with
            | nil => rw [hd] at this; exact absurd rfl this
            | cons a b => rfl
        obtain ⟨la, hla⟩ : ∃ la, (top && (ks.drop (k + 1)).isEmpty) = la := ⟨_, rfl⟩
        obtain ⟨rest, hrest⟩ : ∃ z, stepsC vs lg top (ks.drop (k + 1)) = z := ⟨_, rfl⟩
        obtain ⟨b1, hb1⟩ : ∃ z, shapedB vs lg la d v n (zeroB o tn lt) lh le bs = z := ⟨_, rfl⟩
        obtain ⟨b2, hb2⟩ : ∃ z, numR d x1 n bs = z := ⟨_, rfl⟩
        obtain ⟨tc, htc⟩ : ∃ z, termC vs false (.mk o tn tk) = z := ⟨_, rfl⟩
        obtain ⟨ra, hra⟩ : ∃ z, stepsC vs lg false th = z := ⟨_, rfl⟩
        obtain ⟨rb, hrb⟩ : ∃ z, stepsC vs lg false el = z := ⟨_, rfl⟩
        have hsum : (if b1 = false then 1 else if b2 = false then 3 else if tc ≠ 0 then tc else if ra ≠ 0 then ra else if rb ≠ 0 then rb else rest) = r := by
          have := HS.out
          have hnum : b1 = true → numberedB d x1 n bs = b2 := fun h => by rw [← hb2]; exact numR_eq (hb1.trans h) x1
          rw [hdr, stepsC, hla, hrest, stepC, hlt1, hlh, hle, hb1, htc, hra, hrb] at this
          rw [← this]
          by_cases e1 : b1 = false
          · simp [e1]
          rw [hnum (by simpa using e1)]
          by_cases e2 : b2 = false
          · simp [e1, e2]
          by_cases e3 : tc = 0
          · by_cases e4 : ra = 0
            · by_cases e5 : rb = 0 <;> simp [e1, e2, e3, e4, e5]
            · simp [e1, e2, e3, e4]
          · simp [e1, e2, e3]
        have HLA := Lib.hid hla
        have HREST := Lib.hid hrest
        have HB1 := Lib.hid hb1
        have HB2 := Lib.hid hb2
        have HTC := Lib.hid htc
        have HRA := Lib.hid hra
        have HRB := Lib.hid hrb
        have HSUM := Lib.hid hsum
        have HEM := Lib.hid hem
        clear hkid hdr hcm hlt1 hlh hle hlb htok hth hel hbs HS hla hrest hb1 hb2 htc hra hrb hsum hem
        have hba := (Below.refl wr.heap.size wr).alloc (Nat.le_refl _) (.cells #[.int .i64 d, .int .i64 x1, .int .i64 v, .int .i64 n, .int .i64 o, .int .i64 tn, .slice At lt ct, .slice Ah lh ch, .slice Ae le ce, .slice Ab lb cb] 56)
        have HBx := Lib.hid (HB.out.trans (hba.mono HB.out.size))
        have HCx := Lib.hid (HC.out.next hba)
        have HHTx := Lib.hid (HHT.out.below hba)
        have HHHx := Lib.hid (HHH.out.below hba)
        have HHEx := Lib.hid (HHE.out.below hba)
        have HBSx := Lib.hid (HBS.out.below hba)
        have HN := Lib.hid (Cs.new wr #[.int .i64 d, .int .i64 x1, .int .i64 v, .int .i64 n, .int .i64 o, .int .i64 tn, .slice At lt ct, .slice Ah lh ch, .slice Ae le ce, .slice Ab lb cb] 56)
        clear hba HB HC HHT HHH HHE HBS
        have HB := HBx
        have HC := HCx
        have HHT := HHTx
        have HHH := HHHx
        have HHE := HHEx
        have HBS := HBSx
        clear HBx HCx HHTx HHHx HHEx HBSx
        go_upto_region 5 with fail
        obtain ⟨w4, hwn⟩ : ∃ w4, wr.alloc (.cells #[.int .i64 d, .int .i64 x1, .int .i64 v, .int .i64 n, .int .i64 o, .int .i64 tn, .slice At lt ct, .slice Ah lh ch, .slice Ae le ce, .slice Ab lb cb] 56) = w4 := ⟨_, rfl⟩
        obtain ⟨q, hqn⟩ : ∃ q, wr.heap.size = q := ⟨_, rfl⟩
        rw [hwn] at HN HB HC HHT HHH HHE HBS 
        rw [hqn] at HN
        rw [hwn, hqn]
        clear hwn hqn c0 c1 c2 c3 c4 c5 c6 c7 c8 c9
        have HNR := HN
        clear HN
        have n0 := HNR.out.at 0 _ rfl
        have n1 := HNR.out.at 1 _ rfl
        have n2 := HNR.out.at 2 _ rfl
        have n3 := HNR.out.at 3 _ rfl
        have n4 := HNR.out.at 4 _ rfl
        have n5 := HNR.out.at 5 _ rfl
        have n6 := HNR.out.at 6 _ rfl
        have n7 := HNR.out.at 7 _ rfl
        have n8 := HNR.out.at 8 _ rfl
        have n9 := HNR.out.at 9 _ rfl
        have f0 := HC.out.at 0 _ rfl
        have f1 := HC.out.at 1 _ rfl
        have f2 := HC.out.at 2 _ rfl
        obtain ⟨j1, hj1⟩ : ∃ j1, l = j1 + 1 := ⟨l - 1, by omega⟩
        have hwl : IntKind.i64.wrap ((l : Int) - 1) = (j1 : Int) := by rw [show (l : Int) - 1 = (j1 : Int) by omega]; exact IntWalk.i64_in _ (by omega)
        go_upto_region 5 with fail
        go_cut [32] from 21 to 32 (fun u wx => u = .bool (!b1) ∧ Hid (Below w4.heap.size w4 wx))
        case first =>
          cases top with
          | false =>
            have HLAV : Hid (la = false) := by show _ = _; rw [← HLA.out]; rfl
            clear hj1 hwl
            have hla : la = false := HLAV.out
            subst hla
            clear HLAV
            go_wp2_with fail
            go_at_call 81
            refine (rshaped_b vs Av lv cv Ag lg cg Ay ly cy d x1 v n o tn At lt ct Ah lh ch Ae le ce Ab lb cb bs false b1 HB1 _ (HV.out.below HB.out) HBS.out).mono ?_
            rintro e w5 ⟨rfl, hb5⟩
            have HX := Lib.hid hb5
            clear hb5
            go_wp2_with fail
            go_meet
            case rel => exact ⟨rfl, HX⟩
          | true =>
            by_cases hkj : k = j1
            · have HLAV : Hid (la = true) := by show _ = _; rw [← HLA.out, HEM.out.1 (by omega)]; rfl
              have hkb : ((k : Int) == (j1 : Int)) = true := by simp [hkj]
              have hkb2 : (k == j1) = true := by simp [hkj]
              clear hkj hj1
              have hla : la = true := HLAV.out
              subst hla
              clear HLAV
              go_wp2_with fail
              go_at_call 81
              refine (rshaped_b vs Av lv cv Ag lg cg Ay ly cy d x1 v n o tn At lt ct Ah lh ch Ae le ce Ab lb cb bs true b1 HB1 _ (HV.out.below HB.out) HBS.out).mono ?_
              rintro e w5 ⟨rfl, hb5⟩
              have HX := Lib.hid hb5
              clear hb5
              go_wp2_with fail
              go_meet
              case rel => exact ⟨rfl, HX⟩
            · have HLAV : Hid (la = false) := by show _ = _; rw [← HLA.out, HEM.out.2 (by omega)]; rfl
              have hkb : ((k : Int) == (j1 : Int)) = false := beq_of (by omega)
              have hkb2 : (k == j1) = false := by simp [hkj]
              clear hkj hj1
              have hla : la = false := HLAV.out
              subst hla
              clear HLAV
              go_wp2_with fail
              go_at_call 81
              refine (rshaped_b vs Av lv cv Ag lg cg Ay ly cy d x1 v n o tn At lt ct Ah lh ch Ae le ce Ab lb cb bs false b1 HB1 _ (HV.out.below HB.out) HBS.out).mono ?_
              rintro e w5 ⟨rfl, hb5⟩
              have HX := Lib.hid hb5
              clear hb5
              go_wp2_with fail
              go_meet
              case rel => exact ⟨rfl, HX⟩
        case rest =>
          clear hwl hj1
          obtain ⟨rfl, HX⟩ := hcut
          have hb5 := HX.out
          clear HX
          obtain ⟨w5, hw5⟩ : ∃ w5, wc = w5 := ⟨_, rfl⟩
          rw [hw5] at hb5
          rw [hw5]
          clear hw5
          have HNR5 := Lib.hid (HNR.out.next hb5)
          have HC5 := Lib.hid (HC.out.next hb5)
          have HB5 := Lib.hid (HB.out.trans (hb5.mono HB.out.size))
          have HHT5 := Lib.hid (HHT.out.below hb5)
          have HHH5 := Lib.hid (HHH.out.below hb5)
          have HHE5 := Lib.hid (HHE.out.below hb5)
          have HBS5 := Lib.hid (HBS.out.below hb5)
          clear hb5 HNR HC HB HHT HHH HHE HBS
          clear n0 n1 n2 n3 n4 n5 n6 n7 n8 n9 f0 f1 f2
          have n0 := HNR5.out.at 0 _ rfl
          have n1 := HNR5.out.at 1 _ rfl
          have n2 := HNR5.out.at 2 _ rfl
          have n3 := HNR5.out.at 3 _ rfl
          have n4 := HNR5.out.at 4 _ rfl
          have n5 := HNR5.out.at 5 _ rfl
          have n6 := HNR5.out.at 6 _ rfl
          have n7 := HNR5.out.at 7 _ rfl
          have n8 := HNR5.out.at 8 _ rfl
          have n9 := HNR5.out.at 9 _ rfl
          have f0 := HC5.out.at 0 _ rfl
          have f1 := HC5.out.at 1 _ rfl
          have f2 := HC5.out.at 2 _ rfl
          cases b1 with
          | false =>
            have hr : r = 1 := by have := HSUM.out; simpa using this.symm
            subst hr
            clear HSUM
            go_wp2_with fail
            go_ret
            exact ⟨rfl, HB5.out⟩
          | true =>
          obtain ⟨nb, hnb⟩ : ∃ z, (decide (0 ≤ x1) && (decide (x1 ≤ if d = 2 then 67108864 else 10000) && (decide (0 ≤ n) && (d != 4 || decide (n ≤ 4096))))) = z := ⟨_, rfl⟩
          obtain ⟨bl, hbl⟩ : ∃ z, (decide (bs.length = 0) || decide (bs.getD (bs.length - 1) 0 ≤ 67108864)) = z := ⟨_, rfl⟩
          have hnx : numR d x1 n bs = (nb && bl) := by rw [← hnb, ← hbl, numR]; simp only [Bool.and_assoc]
          have HNB := Lib.hid hnb
          have HBLL := Lib.hid hbl
          have HNX := Lib.hid hnx
          clear hnb hbl hnx
          go_upto_region 7 with fail
          by_cases hd2 : d = 2
          · have qd2 : (d == 2) = true := by rw [hd2]; rfl
            have hlim : (if d = 2 then (67108864 : Int) else 10000) = 67108864 := if_pos hd2
            have HLIM := Lib.hid hlim
            clear hlim hd2
            go_upto_region 10 with fail
            go_cut [59] from 33 to 59 (fun u wx => u = .bool (!nb) ∧ w5 = wx)
            case first =>
              by_cases g0 : x1 < 0
              case pos =>
                have q0 : decide (x1 < 0) = true := decide_eq_true g0
                have hb : nb = false := by rw [← HNB.out, decide_eq_false (show ¬ 0 ≤ x1 by omega)]; rfl
                subst hb
                go_wp2_with fail
                go_meet
                case rel => exact ⟨rfl, rfl⟩
              have q0 : decide (x1 < 0) = false := decide_eq_false g0
              by_cases g1 : 67108864 < x1
              case pos =>
                have q1 : decide (67108864 < x1) = true := decide_eq_true g1
                have hb : nb = false := by rw [← HNB.out, decide_eq_false (show ¬ x1 ≤ (if d = 2 then 67108864 else 10000) by rw [HLIM.out]; omega)]; simp
                subst hb
                go_wp2_with fail
                go_meet
                case rel => exact ⟨rfl, rfl⟩
              have q1 : decide (67108864 < x1) = false := decide_eq_false g1
              by_cases g2 : n < 0
              case pos =>
                have q2 : decide (n < 0) = true := decide_eq_true g2
                have hb : nb = false := by rw [← HNB.out, decide_eq_false (show ¬ 0 ≤ n by omega)]; simp
                subst hb
                go_wp2_with fail
                go_meet
                case rel => exact ⟨rfl, rfl⟩
              have q2 : decide (n < 0) = false := decide_eq_false g2
              by_cases g4 : d = 4
              · have q4 : (d == 4) = true := by rw [g4]; rfl
                have q4n : (d != 4) = false := by rw [g4]; rfl
                clear g4
                by_cases g5 : 4096 < n
                · have q5 : decide (4096 < n) = true := decide_eq_true g5
                  have hb : nb = false := by rw [← HNB.out, q4n, decide_eq_false (show ¬ n ≤ 4096 by omega)]; simp
                  subst hb
                  go_wp2_with fail
                  go_meet
                  case rel => exact ⟨rfl, rfl⟩
                · have q5 : decide (4096 < n) = false := decide_eq_false g5
                  have qx : decide (x1 ≤ (if d = 2 then 67108864 else 10000)) = true := decide_eq_true (by rw [HLIM.out]; omega)
                  have hb : nb = true := by rw [← HNB.out, qx, decide_eq_true (show 0 ≤ x1 by omega), decide_eq_true (show 0 ≤ n by omega), decide_eq_true (show n ≤ 4096 by omega)]; simp
                  subst hb
                  go_wp2_with fail
                  go_meet
                  case rel => exact ⟨rfl, rfl⟩
              · have q4 := beq_of g4
                have q4n : (d != 4) = true := bne_of g4
                have qx : decide (x1 ≤ (if d = 2 then 67108864 else 10000)) = true := decide_eq_true (by rw [HLIM.out]; omega)
                have hb : nb = true := by rw [← HNB.out, qx, decide_eq_true (show 0 ≤ x1 by omega), decide_eq_true (show 0 ≤ n by omega), q4n]; simp
                subst hb
                go_wp2_with fail
                go_meet
                case rel => exact ⟨rfl, rfl⟩
            case rest =>
            obtain ⟨rfl, rfl⟩ := hcut
            clear qd2
            cases nb with
            | false =>
              have hb2 : b2 = false := by rw [← HB2.out, HNX.out]; rfl
              subst hb2
              have hr : r = 3 := by have := HSUM.out; simpa using this.symm
              subst hr
              clear HSUM
              go_wp2_with fail
              go_ret
              exact ⟨rfl, HB5.out⟩
            | true =>
            go_upto_region 12 with fail
            go_cut [74] from 60 to 74 (fun u wx => u = .bool (!bl) ∧ w5 = wx)
            case first =>
              by_cases g0 : lb = 0
              · have q0 : decide (0 < lb) = false := decide_eq_false (by omega)
                have q0i : decide ((0 : Int) < (lb : Int)) = false := decide_eq_false (by omega)
                have hb : bl = true := by rw [← HBLL.out, HLB.out, decide_eq_true g0]; rfl
                subst hb
                clear g0
                go_wp2_with fail
                go_meet
                case rel => exact ⟨rfl, rfl⟩
              · have q0 : decide (0 < lb) = true := decide_eq_true (by omega)
                have q0i : decide ((0 : Int) < (lb : Int)) = true := decide_eq_true (by omega)
                obtain ⟨i1, hi1⟩ : ∃ i1, lb = i1 + 1 := ⟨lb - 1, by omega⟩
                have hwb : IntKind.i64.wrap ((lb : Int) - 1) = (i1 : Int) := by rw [show (lb : Int) - 1 = (i1 : Int) by omega]; exact IntWalk.i64_in _ (by omega)
                obtain ⟨gb, fb, hAb, hgb, hcb⟩ := HBS5.out.mem (by omega)
                subst hAb
                have x0 := hcb i1 (by omega)
                obtain ⟨lst, hlst⟩ : ∃ z, bs.getD i1 0 = z := ⟨_, rfl⟩
                rw [hlst] at x0
                have hi10 : (0 : Int) ≤ (i1 : Int) := by omega
                have hi11 : (i1 : Int) < (lb : Int) := by omega
                have HBX : Hid (decide (lst ≤ 67108864) = bl) := by
                  show _ = _
                  rw [← HBLL.out, HLB.out, decide_eq_false g0, Bool.false_or, show lb - 1 = i1 by omega, hlst]
                clear hcb hlst hi1 g0
                by_cases g1 : lst ≤ 67108864
                · have q1 : decide (67108864 < lst) = false := decide_eq_false (by omega)
                  have hb : bl = true := by rw [← HBX.out]; exact decide_eq_true g1
                  subst hb
                  clear HBX
                  go_wp2_with fail
                  go_meet
                  case rel => exact ⟨rfl, rfl⟩
                · have q1 : decide (67108864 < lst) = true := decide_eq_true (by omega)
                  have hb : bl = false := by rw [← HBX.out]; exact decide_eq_false g1
                  subst hb
                  clear HBX
                  go_wp2_with fail
                  go_meet
                  case rel => exact ⟨rfl, rfl⟩
            case rest =>
            obtain ⟨rfl, rfl⟩ := hcut
            cases bl with
            | false =>
              have hb2 : b2 = false := by rw [← HB2.out, HNX.out]; rfl
              subst hb2
              have hr : r = 3 := by have := HSUM.out; simpa using this.symm
              subst hr
              clear HSUM
              go_wp2_with fail
              go_ret
              exact ⟨rfl, HB5.out⟩
            | true =>
            have hb2 : b2 = true := by rw [← HB2.out, HNX.out]; rfl
            subst hb2
            have HSUM' : Hid ((if tc ≠ 0 then tc else if ra ≠ 0 then ra else if rb ≠ 0 then rb else rest) = r) := by show _ = _; have := HSUM.out; rwa [if_neg (by decide)] at this
            clear HSUM
            have HSUM := HSUM'
            clear HSUM'
            go_wp2_with fail
            go_at_call 49
            refine (rcheckTerm_b vs HVB.out Av lv cv false o tn tk lt At ct _ tc HLT.out HHT5.out (HV.out.below HB5.out) HTC).mono ?_
            rintro e w6 ⟨rfl, hb6⟩
            have HNR6 := Lib.hid (HNR5.out.next hb6)
            have HC6 := Lib.hid (HC5.out.next hb6)
            have HB6 := Lib.hid (HB5.out.trans (hb6.mono HB5.out.size))
            have HHT6 := Lib.hid (HHT5.out.below hb6)
            have HHH6 := Lib.hid (HHH5.out.below hb6)
            have HHE6 := Lib.hid (HHE5.out.below hb6)
            have HBS6 := Lib.hid (HBS5.out.below hb6)
            clear hb6 HNR5 HC5 HB5 HHT5 HHH5 HHE5 HBS5
            clear n0 n1 n2 n3 n4 n5 n6 n7 n8 n9 f0 f1 f2
            have n0 := HNR6.out.at 0 _ rfl
            have n1 := HNR6.out.at 1 _ rfl
            have n2 := HNR6.out.at 2 _ rfl
            have n3 := HNR6.out.at 3 _ rfl
            have n4 := HNR6.out.at 4 _ rfl
            have n5 := HNR6.out.at 5 _ rfl
            have n6 := HNR6.out.at 6 _ rfl
            have n7 := HNR6.out.at 7 _ rfl
            have n8 := HNR6.out.at 8 _ rfl
            have n9 := HNR6.out.at 9 _ rfl
            have f0 := HC6.out.at 0 _ rfl
            have f1 := HC6.out.at 1 _ rfl
            have f2 := HC6.out.at 2 _ rfl
            by_cases etc : tc = 0
            case neg =>
              have hbn := bne_of etc
              have hr : r = tc := by have := HSUM.out; rw [if_pos etc] at this; exact this.symm
              subst hr
              clear HSUM
              go_wp2_with fail
              go_ret
              exact ⟨rfl, HB6.out⟩
            have HSUM' : Hid ((if ra ≠ 0 then ra else if rb ≠ 0 then rb else rest) = r) := by show _ = _; have := HSUM.out; rwa [if_neg (by simpa using etc)] at this
            have hbntc : (tc != 0) = false := by rw [etc]; rfl
            clear HSUM etc
            have HSUM := HSUM'
            clear HSUM'
            go_wp2_with fail
            go_at_call 50
            refine (IH.out th lh Ah ch false _ ra HLH.out HSM.out.1 HHH6.out (HV.out.below HB6.out) HRA).mono ?_
            rintro e w7 ⟨rfl, hb7⟩
            have HNR7 := Lib.hid (HNR6.out.next hb7)
            have HC7 := Lib.hid (HC6.out.next hb7)
            have HB7 := Lib.hid (HB6.out.trans (hb7.mono HB6.out.size))
            have HHT7 := Lib.hid (HHT6.out.below hb7)
            have HHH7 := Lib.hid (HHH6.out.below hb7)
            have HHE7 := Lib.hid (HHE6.out.below hb7)
            have HBS7 := Lib.hid (HBS6.out.below hb7)
            clear hb7 HNR6 HC6 HB6 HHT6 HHH6 HHE6 HBS6
            clear n0 n1 n2 n3 n4 n5 n6 n7 n8 n9 f0 f1 f2
            have n0 := HNR7.out.at 0 _ rfl
            have n1 := HNR7.out.at 1 _ rfl
            have n2 := HNR7.out.at 2 _ rfl
            have n3 := HNR7.out.at 3 _ rfl
            have n4 := HNR7.out.at 4 _ rfl
            have n5 := HNR7.out.at 5 _ rfl
            have n6 := HNR7.out.at 6 _ rfl
            have n7 := HNR7.out.at 7 _ rfl
            have n8 := HNR7.out.at 8 _ rfl
            have n9 := HNR7.out.at 9 _ rfl
            have f0 := HC7.out.at 0 _ rfl
            have f1 := HC7.out.at 1 _ rfl
            have f2 := HC7.out.at 2 _ rfl
            by_cases era : ra = 0
            case neg =>
              have hbn := bne_of era
              have hr : r = ra := by have := HSUM.out; rw [if_pos era] at this; exact this.symm
              subst hr
              clear HSUM
              go_wp2_with fail
              go_ret
              exact ⟨rfl, HB7.out⟩
            have HSUM' : Hid ((if rb ≠ 0 then rb else rest) = r) := by show _ = _; have := HSUM.out; rwa [if_neg (by simpa using era)] at this
            have hbnra : (ra != 0) = false := by rw [era]; rfl
            clear HSUM era
            have HSUM := HSUM'
            clear HSUM'
            go_wp2_with fail
            go_at_call 50
            refine (IH.out el le Ae ce false _ rb HLE.out HSM.out.2 HHE7.out (HV.out.below HB7.out) HRB).mono ?_
            rintro e w8 ⟨rfl, hb8⟩
            have HNR8 := Lib.hid (HNR7.out.next hb8)
            have HC8 := Lib.hid (HC7.out.next hb8)
            have HB8 := Lib.hid (HB7.out.trans (hb8.mono HB7.out.size))
            have HHT8 := Lib.hid (HHT7.out.below hb8)
            have HHH8 := Lib.hid (HHH7.out.below hb8)
            have HHE8 := Lib.hid (HHE7.out.below hb8)
            have HBS8 := Lib.hid (HBS7.out.below hb8)
            clear hb8 HNR7 HC7 HB7 HHT7 HHH7 HHE7 HBS7
            clear n0 n1 n2 n3 n4 n5 n6 n7 n8 n9 f0 f1 f2
            have n0 := HNR8.out.at 0 _ rfl
            have n1 := HNR8.out.at 1 _ rfl
            have n2 := HNR8.out.at 2 _ rfl
            have n3 := HNR8.out.at 3 _ rfl
            have n4 := HNR8.out.at 4 _ rfl
            have n5 := HNR8.out.at 5 _ rfl
            have n6 := HNR8.out.at 6 _ rfl
            have n7 := HNR8.out.at 7 _ rfl
            have n8 := HNR8.out.at 8 _ rfl
            have n9 := HNR8.out.at 9 _ rfl
            have f0 := HC8.out.at 0 _ rfl
            have f1 := HC8.out.at 1 _ rfl
            have f2 := HC8.out.at 2 _ rfl
            by_cases erb : rb = 0
            case neg =>
              have hbn := bne_of erb
              have hr : r = rb := by have := HSUM.out; rw [if_pos erb] at this; exact this.symm
              subst hr
              clear HSUM
              go_wp2_with fail
              go_ret
              exact ⟨rfl, HB8.out⟩
            have HSUM' : Hid ((rest) = r) := by show _ = _; have := HSUM.out; rwa [if_neg (by simpa using erb)] at this
            have hbnrb : (rb != 0) = false := by rw [erb]; rfl
            clear HSUM erb
            have HSUM := HSUM'
            clear HSUM'
            have HS2 : Hid (stepsC vs lg top (ks.drop (k + 1)) = r) := by show _ = _; rw [HREST.out]; exact HSUM.out
            clear HSUM
            go_wp2_with fail
            go_roundw
            case rel => exact ⟨k + 1, by omega, by go_num, HS2, HB8, HC8⟩
            case measure => simp [intOf]; omega
          · have qd2 := beq_of hd2
            have hlim : (if d = 2 then (67108864 : Int) else 10000) = 10000 := if_neg hd2
            have HLIM := Lib.hid hlim
            clear hlim hd2
            go_upto_region 10 with fail
            go_cut [59] from 33 to 59 (fun u wx => u = .bool (!nb) ∧ w5 = wx)
            case first =>
              by_cases g0 : x1 < 0
              case pos =>
                have q0 : decide (x1 < 0) = true := decide_eq_true g0
                have hb : nb = false := by rw [← HNB.out, decide_eq_false (show ¬ 0 ≤ x1 by omega)]; rfl
                subst hb
                go_wp2_with fail
                go_meet
                case rel => exact ⟨rfl, rfl⟩
              have q0 : decide (x1 < 0) = false := decide_eq_false g0
              by_cases g1 : 10000 < x1
              case pos =>
                have q1 : decide (10000 < x1) = true := decide_eq_true g1
                have hb : nb = false := by rw [← HNB.out, decide_eq_false (show ¬ x1 ≤ (if d = 2 then 67108864 else 10000) by rw [HLIM.out]; omega)]; simp
                subst hb
                go_wp2_with fail
                go_meet
                case rel => exact ⟨rfl, rfl⟩
              have q1 : decide (10000 < x1) = false := decide_eq_false g1
              by_cases g2 : n < 0
              case pos =>
                have q2 : decide (n < 0) = true := decide_eq_true g2
                have hb : nb = false := by rw [← HNB.out, decide_eq_false (show ¬ 0 ≤ n by omega)]; simp
                subst hb
                go_wp2_with fail
                go_meet
                case rel => exact ⟨rfl, rfl⟩
              have q2 : decide (n < 0) = false := decide_eq_false g2
              by_cases g4 : d = 4
              · have q4 : (d == 4) = true := by rw [g4]; rfl
                have q4n : (d != 4) = false := by rw [g4]; rfl
                clear g4
                by_cases g5 : 4096 < n
                · have q5 : decide (4096 < n) = true := decide_eq_true g5
                  have hb : nb = false := by rw [← HNB.out, q4n, decide_eq_false (show ¬ n ≤ 4096 by omega)]; simp
                  subst hb
                  go_wp2_with fail
                  go_meet
                  case rel => exact ⟨rfl, rfl⟩
                · have q5 : decide (4096 < n) = false := decide_eq_false g5
                  have qx : decide (x1 ≤ (if d = 2 then 67108864 else 10000)) = true := decide_eq_true (by rw [HLIM.out]; omega)
                  have hb : nb = true := by rw [← HNB.out, qx, decide_eq_true (show 0 ≤ x1 by omega), decide_eq_true (show 0 ≤ n by omega), decide_eq_true (show n ≤ 4096 by omega)]; simp
                  subst hb
                  go_wp2_with fail
                  go_meet
                  case rel => exact ⟨rfl, rfl⟩
              · have q4 := beq_of g4
                have q4n : (d != 4) = true := bne_of g4
                have qx : decide (x1 ≤ (if d = 2 then 67108864 else 10000)) = true := decide_eq_true (by rw [HLIM.out]; omega)
                have hb : nb = true := by rw [← HNB.out, qx, decide_eq_true (show 0 ≤ x1 by omega), decide_eq_true (show 0 ≤ n by omega), q4n]; simp
                subst hb
                go_wp2_with fail
                go_meet
                case rel => exact ⟨rfl, rfl⟩
            case rest =>
            obtain ⟨rfl, rfl⟩ := hcut
            clear qd2
            cases nb with
            | false =>
              have hb2 : b2 = false := by rw [← HB2.out, HNX.out]; rfl
              subst hb2
              have hr : r = 3 := by have := HSUM.out; simpa using this.symm
              subst hr
              clear HSUM
              go_wp2_with fail
              go_ret
              exact ⟨rfl, HB5.out⟩
            | true =>
            go_upto_region 12 with fail
            go_cut [74] from 60 to 74 (fun u wx => u = .bool (!bl) ∧ w5 = wx)
            case first =>
              by_cases g0 : lb = 0
              · have q0 : decide (0 < lb) = false := decide_eq_false (by omega)
                have q0i : decide ((0 : Int) < (lb : Int)) = false := decide_eq_false (by omega)
                have hb : bl = true := by rw [← HBLL.out, HLB.out, decide_eq_true g0]; rfl
                subst hb
                clear g0
                go_wp2_with fail
                go_meet
                case rel => exact ⟨rfl, rfl⟩
              · have q0 : decide (0 < lb) = true := decide_eq_true (by omega)
                have q0i : decide ((0 : Int) < (lb : Int)) = true := decide_eq_true (by omega)
                obtain ⟨i1, hi1⟩ : ∃ i1, lb = i1 + 1 := ⟨lb - 1, by omega⟩
                have hwb : IntKind.i64.wrap ((lb : Int) - 1) = (i1 : Int) := by rw [show (lb : Int) - 1 = (i1 : Int) by omega]; exact IntWalk.i64_in _ (by omega)
                obtain ⟨gb, fb, hAb, hgb, hcb⟩ := HBS5.out.mem (by omega)
                subst hAb
                have x0 := hcb i1 (by omega)
                obtain ⟨lst, hlst⟩ : ∃ z, bs.getD i1 0 = z := ⟨_, rfl⟩
                rw [hlst] at x0
                have hi10 : (0 : Int) ≤ (i1 : Int) := by omega
                have hi11 : (i1 : Int) < (lb : Int) := by omega
                have HBX : Hid (decide (lst ≤ 67108864) = bl) := by
                  show _ = _
                  rw [← HBLL.out, HLB.out, decide_eq_false g0, Bool.false_or, show lb - 1 = i1 by omega, hlst]
                clear hcb hlst hi1 g0
                by_cases g1 : lst ≤ 67108864
                · have q1 : decide (67108864 < lst) = false := decide_eq_false (by omega)
                  have hb : bl = true := by rw [← HBX.out]; exact decide_eq_true g1
                  subst hb
                  clear HBX
                  go_wp2_with fail
                  go_meet
                  case rel => exact ⟨rfl, rfl⟩
                · have q1 : decide (67108864 < lst) = true := decide_eq_true (by omega)
                  have hb : bl = false := by rw [← HBX.out]; exact decide_eq_false g1
                  subst hb
                  clear HBX
                  go_wp2_with fail
                  go_meet
                  case rel => exact ⟨rfl, rfl⟩
            case rest =>
            obtain ⟨rfl, rfl⟩ := hcut
            cases bl with
            | false =>
              have hb2 : b2 = false := by rw [← HB2.out, HNX.out]; rfl
              subst hb2
              have hr : r = 3 := by have := HSUM.out; simpa using this.symm
              subst hr
              clear HSUM
              go_wp2_with fail
              go_ret
              exact ⟨rfl, HB5.out⟩
            | true =>
            have hb2 : b2 = true := by rw [← HB2.out, HNX.out]; rfl
            subst hb2
            have HSUM' : Hid ((if tc ≠ 0 then tc else if ra ≠ 0 then ra else if rb ≠ 0 then rb else rest) = r) := by show _ = _; have := HSUM.out; rwa [if_neg (by decide)] at this
            clear HSUM
            have HSUM := HSUM'
            clear HSUM'
            go_wp2_with fail
            go_at_call 49
            refine (rcheckTerm_b vs HVB.out Av lv cv false o tn tk lt At ct _ tc HLT.out HHT5.out (HV.out.below HB5.out) HTC).mono ?_
            rintro e w6 ⟨rfl, hb6⟩
            have HNR6 := Lib.hid (HNR5.out.next hb6)
            have HC6 := Lib.hid (HC5.out.next hb6)
            have HB6 := Lib.hid (HB5.out.trans (hb6.mono HB5.out.size))
            have HHT6 := Lib.hid (HHT5.out.below hb6)
            have HHH6 := Lib.hid (HHH5.out.below hb6)
            have HHE6 := Lib.hid (HHE5.out.below hb6)
            have HBS6 := Lib.hid (HBS5.out.below hb6)
            clear hb6 HNR5 HC5 HB5 HHT5 HHH5 HHE5 HBS5
            clear n0 n1 n2 n3 n4 n5 n6 n7 n8 n9 f0 f1 f2
            have n0 := HNR6.out.at 0 _ rfl
            have n1 := HNR6.out.at 1 _ rfl
            have n2 := HNR6.out.at 2 _ rfl
            have n3 := HNR6.out.at 3 _ rfl
            have n4 := HNR6.out.at 4 _ rfl
            have n5 := HNR6.out.at 5 _ rfl
            have n6 := HNR6.out.at 6 _ rfl
            have n7 := HNR6.out.at 7 _ rfl
            have n8 := HNR6.out.at 8 _ rfl
            have n9 := HNR6.out.at 9 _ rfl
            have f0 := HC6.out.at 0 _ rfl
            have f1 := HC6.out.at 1 _ rfl
            have f2 := HC6.out.at 2 _ rfl
            by_cases etc : tc = 0
            case neg =>
              have hbn := bne_of etc
              have hr : r = tc := by have := HSUM.out; rw [if_pos etc] at this; exact this.symm
              subst hr
              clear HSUM
              go_wp2_with fail
              go_ret
              exact ⟨rfl, HB6.out⟩
            have HSUM' : Hid ((if ra ≠ 0 then ra else if rb ≠ 0 then rb else rest) = r) := by show _ = _; have := HSUM.out; rwa [if_neg (by simpa using etc)] at this
            have hbntc : (tc != 0) = false := by rw [etc]; rfl
            clear HSUM etc
            have HSUM := HSUM'
            clear HSUM'
            go_wp2_with fail
            go_at_call 50
            refine (IH.out th lh Ah ch false _ ra HLH.out HSM.out.1 HHH6.out (HV.out.below HB6.out) HRA).mono ?_
            rintro e w7 ⟨rfl, hb7⟩
            have HNR7 := Lib.hid (HNR6.out.next hb7)
            have HC7 := Lib.hid (HC6.out.next hb7)
            have HB7 := Lib.hid (HB6.out.trans (hb7.mono HB6.out.size))
            have HHT7 := Lib.hid (HHT6.out.below hb7)
            have HHH7 := Lib.hid (HHH6.out.below hb7)
            have HHE7 := Lib.hid (HHE6.out.below hb7)
            have HBS7 := Lib.hid (HBS6.out.below hb7)
            clear hb7 HNR6 HC6 HB6 HHT6 HHH6 HHE6 HBS6
            clear n0 n1 n2 n3 n4 n5 n6 n7 n8 n9 f0 f1 f2
            have n0 := HNR7.out.at 0 _ rfl
            have n1 := HNR7.out.at 1 _ rfl
            have n2 := HNR7.out.at 2 _ rfl
            have n3 := HNR7.out.at 3 _ rfl
            have n4 := HNR7.out.at 4 _ rfl
            have n5 := HNR7.out.at 5 _ rfl
            have n6 := HNR7.out.at 6 _ rfl
            have n7 := HNR7.out.at 7 _ rfl
            have n8 := HNR7.out.at 8 _ rfl
            have n9 := HNR7.out.at 9 _ rfl
            have f0 := HC7.out.at 0 _ rfl
            have f1 := HC7.out.at 1 _ rfl
            have f2 := HC7.out.at 2 _ rfl
            by_cases era : ra = 0
            case neg =>
              have hbn := bne_of era
              have hr : r = ra := by have := HSUM.out; rw [if_pos era] at this; exact this.symm
              subst hr
              clear HSUM
              go_wp2_with fail
              go_ret
              exact ⟨rfl, HB7.out⟩
            have HSUM' : Hid ((if rb ≠ 0 then rb else rest) = r) := by show _ = _; have := HSUM.out; rwa [if_neg (by simpa using era)] at this
            have hbnra : (ra != 0) = false := by rw [era]; rfl
            clear HSUM era
            have HSUM := HSUM'
            clear HSUM'
            go_wp2_with fail
            go_at_call 50
            refine (IH.out el le Ae ce false _ rb HLE.out HSM.out.2 HHE7.out (HV.out.below HB7.out) HRB).mono ?_
            rintro e w8 ⟨rfl, hb8⟩
            have HNR8 := Lib.hid (HNR7.out.next hb8)
            have HC8 := Lib.hid (HC7.out.next hb8)
            have HB8 := Lib.hid (HB7.out.trans (hb8.mono HB7.out.size))
            have HHT8 := Lib.hid (HHT7.out.below hb8)
            have HHH8 := Lib.hid (HHH7.out.below hb8)
            have HHE8 := Lib.hid (HHE7.out.below hb8)
            have HBS8 := Lib.hid (HBS7.out.below hb8)
            clear hb8 HNR7 HC7 HB7 HHT7 HHH7 HHE7 HBS7
            clear n0 n1 n2 n3 n4 n5 n6 n7 n8 n9 f0 f1 f2
            have n0 := HNR8.out.at 0 _ rfl
            have n1 := HNR8.out.at 1 _ rfl
            have n2 := HNR8.out.at 2 _ rfl
            have n3 := HNR8.out.at 3 _ rfl
            have n4 := HNR8.out.at 4 _ rfl
            have n5 := HNR8.out.at 5 _ rfl
            have n6 := HNR8.out.at 6 _ rfl
            have n7 := HNR8.out.at 7 _ rfl
            have n8 := HNR8.out.at 8 _ rfl
            have n9 := HNR8.out.at 9 _ rfl
            have f0 := HC8.out.at 0 _ rfl
            have f1 := HC8.out.at 1 _ rfl
            have f2 := HC8.out.at 2 _ rfl
            by_cases erb : rb = 0
            case neg =>
              have hbn := bne_of erb
              have hr : r = rb := by have := HSUM.out; rw [if_pos erb] at this; exact this.symm
              subst hr
              clear HSUM
              go_wp2_with fail
              go_ret
              exact ⟨rfl, HB8.out⟩
            have HSUM' : Hid ((rest) = r) := by show _ = _; have := HSUM.out; rwa [if_neg (by simpa using erb)] at this
            have hbnrb : (rb != 0) = false := by rw [erb]; rfl
            clear HSUM erb
            have HSUM := HSUM'
            clear HSUM'
            have HS2 : Hid (stepsC vs lg top (ks.drop (k + 1)) = r) := by show _ = _; rw [HREST.out]; exact HSUM.out
            clear HSUM
            go_wp2_with fail
            go_roundw
            case rel => exact ⟨k + 1, by omega, by go_num, HS2, HB8, HC8⟩
            case measure => simp [intOf]; omega
      · obtain rfl : k = l := by omega
        have hr : r = 0 := by rw [← HS.out, List.drop_of_length_le (by rw [HL.out]; exact Nat.le_refl _), stepsC]
        subst hr
        clear HS
        go_wp2_with fail
        go_ret
        exact ⟨rfl, HB.out⟩
end Go.Proofs.YtjpjmoejdkmglaaGreat
