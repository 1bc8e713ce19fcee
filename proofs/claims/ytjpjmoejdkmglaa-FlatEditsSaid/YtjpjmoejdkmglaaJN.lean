/-
  The walks over the reference's Size, EqualTerm and EqualSteps.
  The walk over the reference's EqualSteps.
  The walk over the reference's Equal, where both programs hold the same.
  Steps in preorder, and the walk over the reference's Find.
-/
import Derived.Test.YtjpjmoejdkmglaaJA
import Derived.Test.YtjpjmoejdkmglaaFlQa
import Derived.Test.YtjpjmoejdkmglaaFlO
import Derived.Laws.StructEq
namespace Go.Proofs.Ytjpjmoejdkmglaa
open Go.RowKit

set_option maxRecDepth 100000 in
set_option maxHeartbeats 8000000 in
theorem rsize_steps (m : Nat) : ∀ (ks : List Sp) (l : Nat) (A : Option Addr) (c : Nat) (w : World) (r : Nat), ks.length = l → Sp.cntL ks ≤ m → Sp.cntL ks ≤ 1000000 → SOk w A c ks → Hid (sizeL ks = r) →
    Calls Try.prog 26 #[.slice A l c] w fun e w' => e = .returned (.int .i64 (r : Nat)) ∧ Below w.heap.size w w' := by
  induction m with
  | zero =>
    intro ks l A c w r hl hm hm6 ht H
    have hk : ks = [] := by
      cases ks with
      | nil => rfl
      | cons k ks => have := Sp.cnt_pos k; simp only [Sp.cntL] at hm; omega
    subst hk
    have hl0 : l = 0 := hl.symm
    subst hl0
    have hr : r = 0 := by rw [← H.out, sizeL]
    subst hr
    clear ht H
    go_enter Try.func26, Try.ntmps26
    go_wp2_with fail
    go_loopw [3, 4] (fun u v wr => u = .int .i64 0 ∧ v = .int .i64 0 ∧ wr = w) (fun _ _ _ => 0)
    case atStart => exact ⟨rfl, rfl, rfl⟩
    case round =>
      obtain ⟨rfl, rfl, rfl⟩ := hrel
      go_wp2_with fail
      go_ret
      exact ⟨rfl, Below.refl _ _⟩
  | succ m ih =>
    intro ks l A c w r hl hm hm6 ht H
    have IH := Lib.hid ih
    have HM := Lib.hid hm
    have HM6 := Lib.hid hm6
    have HL := Lib.hid hl
    have HT := Lib.hid ht
    have hlm : l ≤ 1000000 := by have := Sp.len_cntL ks; omega
    have hr6 : r ≤ 1000000 := by rw [← H.out]; exact Nat.le_trans (sizeL_cnt ks) hm6
    have HS0 : Hid (0 + sizeL (ks.drop 0) = r) := by show _ = _; rw [← H.out, List.drop_zero]; omega
    clear ih hm hm6 hl ht H
    go_enter Try.func26, Try.ntmps26
    go_wp2_with fail
    go_loopw [3, 4] (fun u v wr => ∃ k s : Nat, k ≤ l ∧ u = .int .i64 (s : Nat) ∧ v = .int .i64 k ∧ Hid (s + sizeL (ks.drop k) = r) ∧ Hid (Below w.heap.size w wr)) (fun _ v _ => l - (intOf v).toNat)
    case atStart => exact ⟨0, 0, by omega, rfl, rfl, HS0, Lib.hid (Below.refl _ _)⟩
    case round =>
      clear HS0
      obtain ⟨k, s, hk, rfl, rfl, HS, HB⟩ := hrel
      by_cases hlt : k < l
      · have hkl : k < ks.length := by rw [HL.out]; exact hlt
        have hlt' : (k : Int) < (l : Int) := by omega
        have hk0 : (0 : Int) ≤ (k : Int) := by omega
        obtain ⟨d, x1, v, n, o, tn, tk, th, el, bs, g, f, At, ct, Ah, ch, Ae, ce, Ab, cb, hkid, hA, hg, hsc, htok, hth, hel, hbs⟩ := (HT.out.below HB.out).step k hkl
        subst hA
        obtain ⟨lt, hlt1⟩ : ∃ l, tk.length = l := ⟨_, rfl⟩
        obtain ⟨lh, hlh⟩ : ∃ l, th.length = l := ⟨_, rfl⟩
        obtain ⟨le, hle⟩ : ∃ l, el.length = l := ⟨_, rfl⟩
        obtain ⟨lb, hlb⟩ : ∃ l, bs.length = l := ⟨_, rfl⟩
        rw [hlt1, hlh, hle, hlb] at hsc
        rw [hlb] at hbs
        have hdr : ks.drop k = .mk d x1 v n (.mk o tn tk) th el bs :: ks.drop (k + 1) := by rw [List.drop_eq_getElem_cons hkl, hkid]
        have hcm : 1 + Tm.cnt (.mk o tn tk) + Sp.cntL th + Sp.cntL el ≤ m + 1 := by
          have := Sp.cntL_get ks k hkl
          rw [hkid] at this
          simp only [Sp.cnt] at this
          have := HM.out
          omega
        have HLT := Lib.hid hlt1
        have HLH := Lib.hid hlh
        have HLE := Lib.hid hle
        have HLB := Lib.hid hlb
        have HCM := Lib.hid hcm
        obtain ⟨c0, c1, c2, c3, c4, c5, c6, c7, c8, c9⟩ := hsc
        have HTK := Lib.hid htok
        have HHH := Lib.hid hth
        have HHE := Lib.hid hel
        have HSM : Hid (Tm.cnt (.mk o tn tk) ≤ 1000000 ∧ Sp.cntL th ≤ 1000000 ∧ Sp.cntL el ≤ 1000000 ∧ Sp.cntL th ≤ m ∧ Sp.cntL el ≤ m) := Lib.hid (by have := HM6.out; have h3 := Sp.cntL_get ks k hkl; rw [hkid] at h3; simp only [Sp.cnt] at h3; have h4 := Tm.cnt_pos (.mk o tn tk); omega)
        have HCELL : Hid (∀ W, Below wr.heap.size wr W → SCell W g (f + k * 10) d x1 v n o tn At lt ct Ah lh ch Ae le ce Ab lb cb) := Lib.hid fun W hb => SCell.below ⟨c0, c1, c2, c3, c4, c5, c6, c7, c8, c9⟩ hg hb
        obtain ⟨z2, hz2⟩ : ∃ z, sizeL th = z := ⟨_, rfl⟩
        obtain ⟨z3, hz3⟩ : ∃ z, sizeL el = z := ⟨_, rfl⟩
        have HS2 : Hid (s + 1 + z2 + z3 + sizeL (ks.drop (k + 1)) = r) := by
          show _ = _
          have := HS.out
          rw [hdr, sizeL, sizeO, hz2, hz3] at this
          omega
        have hsum : s + 1 + z2 + z3 ≤ 1000000 := by have := HS2.out; omega
        have HZ2 := Lib.hid hz2
        have HZ3 := Lib.hid hz3
        clear hz2 hz3
        clear hkid hdr hcm hlt1 hlh hle hlb htok hth hel hbs HS
        go_upto_region 5 with fail
        have KP : Hid (∀ W, Below wr.heap.size wr W → (W.cell? ⟨g, f + k * 10 + 7, none⟩ = some (.slice Ah lh ch) ∧ W.cell? ⟨g, f + k * 10 + 8, none⟩ = some (.slice Ae le ce))) := Lib.hid fun W hb => by
          have h := HCELL.out W hb
          exact ⟨h.c7, h.c8⟩
        have hw1 : IntKind.i64.wrap ((s : Int) + 1) = (s : Int) + 1 := IntWalk.i64_in _ (by omega)
        have hw3 : IntKind.i64.wrap ((s : Int) + 1 + (z2 : Int)) = (s : Int) + 1 + (z2 : Int) := IntWalk.i64_in _ (by omega)
        have hw4 : IntKind.i64.wrap ((s : Int) + 1 + (z2 : Int) + (z3 : Int)) = (s : Int) + 1 + (z2 : Int) + (z3 : Int) := IntWalk.i64_in _ (by omega)
        clear c0 c1 c2 c3 c4 c5 c6 c7 c8 c9
        go_region_held3 (fun W => W.cell? ⟨g, f + k * 10 + 7, none⟩ = some (.slice Ah lh ch) ∧ W.cell? ⟨g, f + k * 10 + 8, none⟩ = some (.slice Ae le ce)) (first | exact KP.out _ HD3.out | exact KP.out _ HD2.out | exact KP.out _ (Below.refl _ _).drew) (first
          | (go_at_call 26; refine (IH.out el le Ae ce _ z3 HLE.out HSM.out.2.2.2.2 HSM.out.2.2.1 (HHE.out.below HD2.out) HZ3).mono ?_; rintro e w7 ⟨rfl, hb3⟩; have HD3 := Lib.hid (HD2.out.trans (hb3.mono HD2.out.size)); clear hb3)
          | (go_at_call 26; refine (IH.out th lh Ah ch _ z2 HLH.out HSM.out.2.2.2.1 HSM.out.2.1 (HHH.out.below (Below.refl _ _).drew) HZ2).mono ?_; rintro e w6 ⟨rfl, hb2⟩; have HD2 := Lib.hid ((Below.refl wr.heap.size wr).drew.trans (hb2.mono (Nat.le_refl _))); clear hb2))
        have HB6 := Lib.hid (HB.out.trans (HD3.out.mono HB.out.size))
        clear HD2 HD3 KP HB HHH HHE HTK hw1 hw3 hw4 HCELL
        go_wp2_with fail
        go_roundw
        case rel => exact ⟨k + 1, s + 1 + z2 + z3, by omega, by first | go_num | rfl, by go_num, HS2, HB6⟩
        case measure => simp [intOf]; omega
      · obtain rfl : k = l := by omega
        have hr : s = r := by have := HS.out; rw [List.drop_of_length_le (by rw [HL.out]; exact Nat.le_refl _), sizeL] at this; exact this
        subst hr
        clear HS
        go_wp2_with fail
        go_ret
        exact ⟨rfl, HB.out⟩

set_option maxRecDepth 100000 in
set_option maxHeartbeats 8000000 in
theorem requalTerm_any (m : Nat) : ∀ (o n : Int) (ks : List Tm) (l : Nat) (A : Option Addr) (c : Nat) (o' n' : Int) (ks' : List Tm) (l' : Nat) (A' : Option Addr) (c' : Nat) (w : World) (b : Bool), ks.length = l → ks'.length = l' → Tm.cnt (.mk o n ks) ≤ m → TOk w A c ks → TOk w A' c' ks' → Hid (eqT (.mk o n ks) (.mk o' n' ks') = b) →
    Calls Try.prog 70 #[.agg #[.int .i64 o, .int .i64 n, .slice A l c], .agg #[.int .i64 o', .int .i64 n', .slice A' l' c']] w fun e w' => e = .returned (.bool b) ∧ Below w.heap.size w w' := by
  induction m with
  | zero => intro o n ks l A c o' n' ks' l' A' c' w b _ _ h; have := Tm.cnt_pos (.mk o n ks); omega
  | succ m ih =>
    intro o n ks l A c o' n' ks' l' A' c' w b hl hl' hm ht ht' H
    have IH := Lib.hid ih
    have HM : Hid (Tm.cntL ks ≤ m) := by show _ ≤ _; simp only [Tm.cnt] at hm; omega
    have HL := Lib.hid hl
    have HL' := Lib.hid hl'
    have hlm : l ≤ 9223372036854775807 := by have h1 := ht.1; have h2 := ht.2.1; unfold maxLen at h2; omega
    have hlm' : l' ≤ 9223372036854775807 := by have h1 := ht'.1; have h2 := ht'.2.1; unfold maxLen at h2; omega
    have hb1 := (Below.refl w.heap.size w).alloc (Nat.le_refl _) (.cells #[.int .i64 o, .int .i64 n, .slice A l c] 51)
    have hb2 := hb1.alloc hb1.size (.cells #[.int .i64 o', .int .i64 n', .slice A' l' c'] 51)
    have HB := Lib.hid hb2
    have HT := Lib.hid (ht.below hb2)
    have HT' := Lib.hid (ht'.below hb2)
    have HP := Lib.hid ((Cs.new w #[.int .i64 o, .int .i64 n, .slice A l c] 51).alloc (.cells #[.int .i64 o', .int .i64 n', .slice A' l' c'] 51))
    have HQ := Lib.hid (Cs.new1 w (.cells #[.int .i64 o, .int .i64 n, .slice A l c] 51) #[.int .i64 o', .int .i64 n', .slice A' l' c'] 51)
    clear ih hm hl hl' ht ht' hb1 hb2
    go_enter Try.func70, Try.ntmps70
    go_upto_region 1 with fail
    obtain ⟨w2, hw2⟩ : ∃ w2, (w.alloc (.cells #[.int .i64 o, .int .i64 n, .slice A l c] 51)).alloc (.cells #[.int .i64 o', .int .i64 n', .slice A' l' c'] 51) = w2 := ⟨_, rfl⟩
    obtain ⟨p, hp⟩ : ∃ p, w.heap.size = p := ⟨_, rfl⟩
    obtain ⟨q, hq⟩ : ∃ q, p + 1 = q := ⟨_, rfl⟩
    rw [hw2] at HB HT HT' HP HQ
    rw [hp] at HP HQ
    rw [hq] at HQ
    rw [hw2, hp, hq]
    clear hw2 hp hq
    have p0 := HP.out.at 0 _ rfl
    have q0 := HQ.out.at 0 _ rfl
    have p1 := HP.out.at 1 _ rfl
    have q1 := HQ.out.at 1 _ rfl
    have p2 := HP.out.at 2 _ rfl
    have q2 := HQ.out.at 2 _ rfl
    by_cases ho : o = o'
    case neg =>
      have d1 := bne_of ho
      have hb : b = false := by rw [← H.out, eqT, beq_of ho]; rfl
      subst hb
      clear H
      go_wp2_with fail
      go_ret
      exact ⟨rfl, HB.out⟩
    have d1 : (o != o') = false := by rw [ho]; exact bne_self _
    have HO := Lib.hid ho
    clear ho
    by_cases hn : n = n'
    case neg =>
      have d2 := bne_of hn
      have hb : b = false := by rw [← H.out, eqT, beq_of hn]; simp
      subst hb
      clear H
      go_wp2_with fail
      go_ret
      exact ⟨rfl, HB.out⟩
    have d2 : (n != n') = false := by rw [hn]; exact bne_self _
    have HN := Lib.hid hn
    clear hn
    by_cases hll : l = l'
    case neg =>
      have d3 : ((l : Int) != (l' : Int)) = true := bne_of (by omega)
      have d3n : (l != l') = true := by simpa using hll
      have hb : b = false := by rw [← H.out, eqT, eqTL_len (by rw [HL.out, HL'.out]; exact hll)]; simp
      subst hb
      clear H
      go_wp2_with fail
      go_ret
      exact ⟨rfl, HB.out⟩
    subst hll
    have d3 : ((l : Int) != (l : Int)) = false := bne_self _
    have H1 : Hid (eqTL ks ks' = b) := by show _ = _; rw [← H.out, eqT, HO.out, HN.out]; simp
    clear H
    go_upto_region 4 with fail
    clear d1 d2 d3
    go_loopw [5] (fun v wr => ∃ k : Nat, k ≤ l ∧ v = .int .i64 k ∧ Hid (∀ i (h : i < ks.length) (h' : i < ks'.length), i < k → eqT ks[i] ks'[i] = true) ∧ Hid (Below w.heap.size w wr) ∧ Hid (Below w2.heap.size w2 wr) ∧ Hid (Cs wr p [.int .i64 o, .int .i64 n, .slice A l c]) ∧ Hid (Cs wr q [.int .i64 o', .int .i64 n', .slice A' l c'])) (fun v _ => l - (intOf v).toNat)
    case atStart => exact ⟨0, by omega, rfl, fun i _ _ h => absurd h (by omega), HB, Lib.hid (Below.refl _ _), HP, HQ⟩
    case round =>
      clear HB HP HQ p0 q0 p1 q1 p2 q2
      obtain ⟨k, hk, rfl, HK, HB, HB2, HP, HQ⟩ := hrel
      have p0 := HP.out.at 0 _ rfl
      have q0 := HQ.out.at 0 _ rfl
      have p1 := HP.out.at 1 _ rfl
      have q1 := HQ.out.at 1 _ rfl
      have p2 := HP.out.at 2 _ rfl
      have q2 := HQ.out.at 2 _ rfl
      by_cases hlt : k < l
      · have hkl : k < ks.length := by rw [HL.out]; exact hlt
        have hkl' : k < ks'.length := by rw [HL'.out]; exact hlt
        have hlt' : (k : Int) < (l : Int) := by omega
        have hk0 : (0 : Int) ≤ (k : Int) := by omega
        obtain ⟨o1, n1, t1, g, f, A1, c1, hkid, hA, hg, hok, k0, k1, k2⟩ := (HT.out.below HB2.out).kid k hkl
        obtain ⟨o2, n2, t2, g', f', A2, c2, hkid', hA', hg', hok', m0, m1, m2⟩ := (HT'.out.below HB2.out).kid k hkl'
        subst hA hA'
        obtain ⟨l1, hl1⟩ : ∃ z, t1.length = z := ⟨_, rfl⟩
        obtain ⟨l2, hl2⟩ : ∃ z, t2.length = z := ⟨_, rfl⟩
        rw [hl1] at k2
        rw [hl2] at m2
        obtain ⟨z, hz⟩ : ∃ z, eqT (.mk o1 n1 t1) (.mk o2 n2 t2) = z := ⟨_, rfl⟩
        have HZ := Lib.hid hz
        have HKID := Lib.hid hkid
        have HKID' := Lib.hid hkid'
        have HCM := Lib.hid (show Tm.cnt (.mk o1 n1 t1) ≤ m by have := Tm.cntL_get ks k hkl; rw [hkid] at this; exact Nat.le_trans this HM.out)
        have HL1 := Lib.hid hl1
        have HL2 := Lib.hid hl2
        have HOK := Lib.hid hok
        have HOK' := Lib.hid hok'
        have KP : Hid (∀ W, Below wr.heap.size wr W → (W.cell? ⟨p, 2, none⟩ = some (.slice (some ⟨g, f, none⟩) l c) ∧ W.cell? ⟨q, 2, none⟩ = some (.slice (some ⟨g', f', none⟩) l c') ∧ W.cell? ⟨g, f + k * 3, none⟩ = some (.int .i64 o1) ∧ W.cell? ⟨g, f + k * 3 + 1, none⟩ = some (.int .i64 n1) ∧ W.cell? ⟨g, f + k * 3 + 2, none⟩ = some (.slice A1 l1 c1) ∧ W.cell? ⟨g', f' + k * 3, none⟩ = some (.int .i64 o2) ∧ W.cell? ⟨g', f' + k * 3 + 1, none⟩ = some (.int .i64 n2) ∧ W.cell? ⟨g', f' + k * 3 + 2, none⟩ = some (.slice A2 l2 c2))) := Lib.hid fun W h => ⟨(HP.out.next h).at 2 _ rfl, (HQ.out.next h).at 2 _ rfl, (h.cell (p := ⟨g, _, none⟩) hg).trans k0, (h.cell (p := ⟨g, _, none⟩) hg).trans k1, (h.cell (p := ⟨g, _, none⟩) hg).trans k2, (h.cell (p := ⟨g', _, none⟩) hg').trans m0, (h.cell (p := ⟨g', _, none⟩) hg').trans m1, (h.cell (p := ⟨g', _, none⟩) hg').trans m2⟩
        clear hz hkid hkid' hl1 hl2 hok hok'
        go_upto_region 6 with fail
        clear k0 k1 k2 m0 m1 m2 p0 q0 p1 q1 p2 q2
        go_region_held3 (fun W => W.cell? ⟨p, 2, none⟩ = some (.slice (some ⟨g, f, none⟩) l c) ∧ W.cell? ⟨q, 2, none⟩ = some (.slice (some ⟨g', f', none⟩) l c') ∧ W.cell? ⟨g, f + k * 3, none⟩ = some (.int .i64 o1) ∧ W.cell? ⟨g, f + k * 3 + 1, none⟩ = some (.int .i64 n1) ∧ W.cell? ⟨g, f + k * 3 + 2, none⟩ = some (.slice A1 l1 c1) ∧ W.cell? ⟨g', f' + k * 3, none⟩ = some (.int .i64 o2) ∧ W.cell? ⟨g', f' + k * 3 + 1, none⟩ = some (.int .i64 n2) ∧ W.cell? ⟨g', f' + k * 3 + 2, none⟩ = some (.slice A2 l2 c2)) (first | exact KP.out _ HD1.out | exact KP.out _ (Below.refl _ _).drew) (first
          | (go_at_call 70; refine (IH.out o1 n1 t1 l1 A1 c1 o2 n2 t2 l2 A2 c2 _ z HL1.out HL2.out HCM.out (HOK.out.below (Below.refl _ _).drew) (HOK'.out.below (Below.refl _ _).drew) HZ).mono ?_; rintro e w5 ⟨rfl, hb1⟩; have HD1 := Lib.hid ((Below.refl wr.heap.size wr).drew.trans (hb1.mono (Nat.le_refl _))); clear hb1))
        have HB3 := Lib.hid (HB.out.trans (HD1.out.mono HB.out.size))
        have HB23 := Lib.hid (HB2.out.trans (HD1.out.mono HB2.out.size))
        have HP3 := Lib.hid (HP.out.next HD1.out)
        have HQ3 := Lib.hid (HQ.out.next HD1.out)
        clear KP HB HB2 HP HQ HD1 HOK HOK'
        cases z with
        | false =>
          have hb : b = false := by rw [← H1.out]; exact eqTL_get hkl hkl' (by rw [HKID.out, HKID'.out]; exact HZ.out)
          subst hb
          clear H1 HK
          go_wp2_with fail
          go_ret
          exact ⟨rfl, HB3.out⟩
        | true =>
          have HK' : Hid (∀ i (h : i < ks.length) (h' : i < ks'.length), i < k + 1 → eqT ks[i] ks'[i] = true) := fun i h h' hi => by
            by_cases e : i = k
            · subst e; rw [HKID.out, HKID'.out]; exact HZ.out
            · exact HK.out i h h' (by omega)
          clear HK
          go_wp2_with fail
          go_roundw
          case rel => exact ⟨k + 1, by omega, by go_num, HK', HB3, HB23, HP3, HQ3⟩
          case measure => simp [intOf]; omega
      · have hb : b = true := by rw [← H1.out]; exact eqTL_all (by rw [HL.out, HL'.out]) fun i h h' => HK.out i h h' (by rw [HL.out] at h; omega)
        subst hb
        clear H1 HK
        go_wp2_with fail
        go_ret
        exact ⟨rfl, HB.out⟩

set_option maxRecDepth 100000 in
set_option maxHeartbeats 8000000 in
theorem requalSteps_any (m : Nat) : ∀ (ks ks' : List Sp) (l l' : Nat) (A A' : Option Addr) (c c' : Nat) (w : World) (b : Bool), ks.length = l → ks'.length = l' → Sp.cntL ks ≤ m → SOk w A c ks → SOk w A' c' ks' → Hid (eqSL ks ks' = b) →
    Calls Try.prog 31 #[.slice A l c, .slice A' l' c'] w fun e w' => e = .returned (.bool b) ∧ Below w.heap.size w w' := by
  induction m using Nat.strongRecOn with
  | ind m ih =>
  intro ks ks' l l' A A' c c' w b hl hl' hm ht ht' H
  have IH := Lib.hid ih
  have HM := Lib.hid hm
  have HL := Lib.hid hl
  have HL' := Lib.hid hl'
  have HT := Lib.hid ht
  have HT' := Lib.hid ht'
  have hlm : l ≤ 9223372036854775807 := by have h1 := ht.1; have h2 := ht.2.1; unfold maxLen at h2; omega
  by_cases hll : l = l'
  case neg =>
    have hne : ((l : Int) != (l' : Int)) = true := bne_of (by omega)
    have hne2 : (l != l') = true := by simpa using hll
    have hb : b = false := by rw [← H.out]; exact eqSL_len (by rw [hl, hl']; exact hll)
    subst hb
    clear hm hl hl' ht ht' H hll ih
    go_enter Try.func31, Try.ntmps31
    go_wp2_with fail
    go_ret
    exact ⟨rfl, Below.refl _ _⟩
  subst hll
  have hll2 : ((l : Int) != (l : Int)) = false := bne_self _
  clear hm hl hl' ht ht' ih
  go_enter Try.func31, Try.ntmps31
  go_upto_region 4 with fail
  clear hll2
  go_loopw [5] (fun v wr => ∃ k : Nat, k ≤ l ∧ v = .int .i64 k ∧ Hid (∀ (j : Nat) (h : j < ks.length) (h' : j < ks'.length), j < k → eqS ks[j] ks'[j] = true) ∧ Hid (Below w.heap.size w wr)) (fun v _ => l - (intOf v).toNat)
  case atStart => exact ⟨0, by omega, rfl, Lib.hid (fun j _ _ h => absurd h (by omega)), Lib.hid (Below.refl _ _)⟩
  case round =>
    obtain ⟨k, hk, rfl, HK, HB⟩ := hrel
    by_cases hlt : k < l
    · have hkl : k < ks.length := by rw [HL.out]; exact hlt
      have hkl' : k < ks'.length := by rw [HL'.out]; exact hlt
      obtain ⟨d, x1, v, n, o, tn, tk, th, el, bs, g, f, At, ct, Ah, ch, Ae, ce, Ab, cb, hkid, hA, hg, hsc, htok, hth, hel, hbs⟩ := (HT.out.below HB.out).step k hkl
      obtain ⟨d', x1', v', n', o', tn', tk', th', el', bs', g', f', At', ct', Ah', ch', Ae', ce', Ab', cb', hkid', hA', hg', hsc', htok', hth', hel', hbs'⟩ := (HT'.out.below HB.out).step k hkl'
      subst hA hA'
      obtain ⟨lt, hlt1⟩ : ∃ l, tk.length = l := ⟨_, rfl⟩
      obtain ⟨lh, hlh⟩ : ∃ l, th.length = l := ⟨_, rfl⟩
      obtain ⟨le, hle⟩ : ∃ l, el.length = l := ⟨_, rfl⟩
      obtain ⟨lb, hlb⟩ : ∃ l, bs.length = l := ⟨_, rfl⟩
      rw [hlt1, hlh, hle, hlb] at hsc
      rw [hlb] at hbs
      have HLT := Lib.hid hlt1
      have HLH := Lib.hid hlh
      have HLE := Lib.hid hle
      obtain ⟨c0, c1, c2, c3, c4, c5, c6, c7, c8, c9⟩ := hsc
      obtain ⟨lt', hlt1'⟩ : ∃ l, tk'.length = l := ⟨_, rfl⟩
      obtain ⟨lh', hlh'⟩ : ∃ l, th'.length = l := ⟨_, rfl⟩
      obtain ⟨le', hle'⟩ : ∃ l, el'.length = l := ⟨_, rfl⟩
      obtain ⟨lb', hlb'⟩ : ∃ l, bs'.length = l := ⟨_, rfl⟩
      rw [hlt1', hlh', hle', hlb'] at hsc'
      rw [hlb'] at hbs'
      have HLT' := Lib.hid hlt1'
      have HLH' := Lib.hid hlh'
      have HLE' := Lib.hid hle'
      obtain ⟨c0', c1', c2', c3', c4', c5', c6', c7', c8', c9'⟩ := hsc'
      have hcm : Sp.cnt (.mk d x1 v n (.mk o tn tk) th el bs) ≤ m := by have := Sp.cntL_get ks k hkl; rw [hkid] at this; have := HM.out; omega
      have HCM := Lib.hid hcm
      obtain ⟨z, hz⟩ : ∃ z, eqS ks[k] ks'[k] = z := ⟨_, rfl⟩
      have HB0 : Hid (eqS ks[k] ks'[k] = z) := hz
      rw [hkid, hkid'] at hz
      obtain ⟨bt, hbt⟩ : ∃ z, eqT (.mk o tn tk) (.mk o' tn' tk') = z := ⟨_, rfl⟩
      obtain ⟨bh, hbh⟩ : ∃ z, eqSL th th' = z := ⟨_, rfl⟩
      obtain ⟨be, hbe⟩ : ∃ z, eqSL el el' = z := ⟨_, rfl⟩
      obtain ⟨bz, hbz⟩ : ∃ z, (bs == bs') = z := ⟨_, rfl⟩
      have HSUM : Hid (((d == d') && ((x1 == x1') && ((v == v') && ((n == n') && (bt && (bh && (be && bz))))))) = z) := Lib.hid (by rw [← hz, eqS, hbt, hbh, hbe, hbz])
      have HBT := Lib.hid hbt
      have HBH := Lib.hid hbh
      have HBE := Lib.hid hbe
      have HBZ := Lib.hid hbz
      have HCM1 : Hid (Sp.cntL th < m) := Lib.hid (by have := HCM.out; simp only [Sp.cnt] at this; omega)
      have HCM2 : Hid (Sp.cntL el < m) := Lib.hid (by have := HCM.out; simp only [Sp.cnt] at this; omega)
      have hlt' : (k : Int) < (l : Int) := by omega
      have hk0 : (0 : Int) ≤ (k : Int) := by omega
      clear hz hbt hbh hbe hbz
      have HK1 := Lib.hid htok
      have HK2 := Lib.hid hth
      have HK3 := Lib.hid hel
      have HK4 := Lib.hid hbs
      have HK5 := Lib.hid htok'
      have HK6 := Lib.hid hth'
      have HK7 := Lib.hid hel'
      have HK8 := Lib.hid hbs'
      clear hkid hkid' htok hth hel hbs htok' hth' hel' hbs' hlt1 hlh hle hlb hlt1' hlh' hle' hlb' hcm

      go_upto_region 6 with fail
      go_region_both
      all_goals
        first
          | (obtain ⟨w5, hw5⟩ : ∃ w5, ((wr.alloc (.cells #[.int .i64 d, .int .i64 x1, .int .i64 v, .int .i64 n, .int .i64 o, .int .i64 tn, .slice At lt ct, .slice Ah lh ch, .slice Ae le ce, .slice Ab lb cb] 53)).alloc (.cells #[.int .i64 d', .int .i64 x1', .int .i64 v', .int .i64 n', .int .i64 o', .int .i64 tn', .slice At' lt' ct', .slice Ah' lh' ch', .slice Ae' le' ce', .slice Ab' lb' cb'] 53)).drew = w5 := ⟨_, rfl⟩
             have hba := (Below.refl wr.heap.size wr).alloc (Nat.le_refl _) (.cells #[.int .i64 d, .int .i64 x1, .int .i64 v, .int .i64 n, .int .i64 o, .int .i64 tn, .slice At lt ct, .slice Ah lh ch, .slice Ae le ce, .slice Ab lb cb] 53)
             have hbb := (hba.alloc hba.size (.cells #[.int .i64 d', .int .i64 x1', .int .i64 v', .int .i64 n', .int .i64 o', .int .i64 tn', .slice At' lt' ct', .slice Ah' lh' ch', .slice Ae' le' ce', .slice Ab' lb' cb'] 53)).drew
             have HN := Lib.hid (((Cs.new wr #[.int .i64 d, .int .i64 x1, .int .i64 v, .int .i64 n, .int .i64 o, .int .i64 tn, .slice At lt ct, .slice Ah lh ch, .slice Ae le ce, .slice Ab lb cb] 53).alloc (.cells #[.int .i64 d', .int .i64 x1', .int .i64 v', .int .i64 n', .int .i64 o', .int .i64 tn', .slice At' lt' ct', .slice Ah' lh' ch', .slice Ae' le' ce', .slice Ab' lb' cb'] 53)).next (Below.refl _ _).drew)
             have HM2 := Lib.hid ((Cs.new1 wr (.cells #[.int .i64 d, .int .i64 x1, .int .i64 v, .int .i64 n, .int .i64 o, .int .i64 tn, .slice At lt ct, .slice Ah lh ch, .slice Ae le ce, .slice Ab lb cb] 53) #[.int .i64 d', .int .i64 x1', .int .i64 v', .int .i64 n', .int .i64 o', .int .i64 tn', .slice At' lt' ct', .slice Ah' lh' ch', .slice Ae' le' ce', .slice Ab' lb' cb'] 53).next (Below.refl _ _).drew)
             rw [hw5] at HN HM2 hbb
             rw [hw5]
             obtain ⟨p, hp⟩ : ∃ p, wr.heap.size = p := ⟨_, rfl⟩
             obtain ⟨q, hq⟩ : ∃ z9, p + 1 = z9 := ⟨_, rfl⟩
             rw [hp] at HN HM2
             rw [hq] at HM2
             rw [hp, hq]
             have HBx := Lib.hid (HB.out.trans (hbb.mono HB.out.size))
             have HK1x := Lib.hid (HK1.out.below hbb)
             have HK2x := Lib.hid (HK2.out.below hbb)
             have HK3x := Lib.hid (HK3.out.below hbb)
             have HK4x := Lib.hid (HK4.out.below hbb)
             have HK5x := Lib.hid (HK5.out.below hbb)
             have HK6x := Lib.hid (HK6.out.below hbb)
             have HK7x := Lib.hid (HK7.out.below hbb)
             have HK8x := Lib.hid (HK8.out.below hbb)
             clear hba hbb hw5 hp hq HB HK1 HK2 HK3 HK4 HK5 HK6 HK7 HK8
             have HB := HBx
             have HK1 := HK1x
             have HK2 := HK2x
             have HK3 := HK3x
             have HK4 := HK4x
             have HK5 := HK5x
             have HK6 := HK6x
             have HK7 := HK7x
             have HK8 := HK8x
             clear HBx HK1x HK2x HK3x HK4x HK5x HK6x HK7x HK8x)
          | (obtain ⟨w5, hw5⟩ : ∃ w5, ((wr.alloc (.cells #[.int .i64 d', .int .i64 x1', .int .i64 v', .int .i64 n', .int .i64 o', .int .i64 tn', .slice At' lt' ct', .slice Ah' lh' ch', .slice Ae' le' ce', .slice Ab' lb' cb'] 53)).alloc (.cells #[.int .i64 d, .int .i64 x1, .int .i64 v, .int .i64 n, .int .i64 o, .int .i64 tn, .slice At lt ct, .slice Ah lh ch, .slice Ae le ce, .slice Ab lb cb] 53)).drew = w5 := ⟨_, rfl⟩
             have hba := (Below.refl wr.heap.size wr).alloc (Nat.le_refl _) (.cells #[.int .i64 d', .int .i64 x1', .int .i64 v', .int .i64 n', .int .i64 o', .int .i64 tn', .slice At' lt' ct', .slice Ah' lh' ch', .slice Ae' le' ce', .slice Ab' lb' cb'] 53)
             have hbb := (hba.alloc hba.size (.cells #[.int .i64 d, .int .i64 x1, .int .i64 v, .int .i64 n, .int .i64 o, .int .i64 tn, .slice At lt ct, .slice Ah lh ch, .slice Ae le ce, .slice Ab lb cb] 53)).drew
             have HM2 := Lib.hid (((Cs.new wr #[.int .i64 d', .int .i64 x1', .int .i64 v', .int .i64 n', .int .i64 o', .int .i64 tn', .slice At' lt' ct', .slice Ah' lh' ch', .slice Ae' le' ce', .slice Ab' lb' cb'] 53).alloc (.cells #[.int .i64 d, .int .i64 x1, .int .i64 v, .int .i64 n, .int .i64 o, .int .i64 tn, .slice At lt ct, .slice Ah lh ch, .slice Ae le ce, .slice Ab lb cb] 53)).next (Below.refl _ _).drew)
             have HN := Lib.hid ((Cs.new1 wr (.cells #[.int .i64 d', .int .i64 x1', .int .i64 v', .int .i64 n', .int .i64 o', .int .i64 tn', .slice At' lt' ct', .slice Ah' lh' ch', .slice Ae' le' ce', .slice Ab' lb' cb'] 53) #[.int .i64 d, .int .i64 x1, .int .i64 v, .int .i64 n, .int .i64 o, .int .i64 tn, .slice At lt ct, .slice Ah lh ch, .slice Ae le ce, .slice Ab lb cb] 53).next (Below.refl _ _).drew)
             rw [hw5] at HN HM2 hbb
             rw [hw5]
             obtain ⟨q, hp⟩ : ∃ p, wr.heap.size = p := ⟨_, rfl⟩
             obtain ⟨p, hq⟩ : ∃ z9, q + 1 = z9 := ⟨_, rfl⟩
             rw [hp] at HN HM2
             rw [hq] at HN
             rw [hp, hq]
             have HBx := Lib.hid (HB.out.trans (hbb.mono HB.out.size))
             have HK1x := Lib.hid (HK1.out.below hbb)
             have HK2x := Lib.hid (HK2.out.below hbb)
             have HK3x := Lib.hid (HK3.out.below hbb)
             have HK4x := Lib.hid (HK4.out.below hbb)
             have HK5x := Lib.hid (HK5.out.below hbb)
             have HK6x := Lib.hid (HK6.out.below hbb)
             have HK7x := Lib.hid (HK7.out.below hbb)
             have HK8x := Lib.hid (HK8.out.below hbb)
             clear hba hbb hw5 hp hq HB HK1 HK2 HK3 HK4 HK5 HK6 HK7 HK8
             have HB := HBx
             have HK1 := HK1x
             have HK2 := HK2x
             have HK3 := HK3x
             have HK4 := HK4x
             have HK5 := HK5x
             have HK6 := HK6x
             have HK7 := HK7x
             have HK8 := HK8x
             clear HBx HK1x HK2x HK3x HK4x HK5x HK6x HK7x HK8x)
        clear c0 c0' c1 c1' c2 c2' c3 c3' c4 c4' c5 c5' c6 c6' c7 c7' c8 c8' c9 c9'
        have n0 := HN.out.at 0 _ rfl
        have m0 := HM2.out.at 0 _ rfl
        have n1 := HN.out.at 1 _ rfl
        have m1 := HM2.out.at 1 _ rfl
        have n2 := HN.out.at 2 _ rfl
        have m2 := HM2.out.at 2 _ rfl
        have n3 := HN.out.at 3 _ rfl
        have m3 := HM2.out.at 3 _ rfl
        have n4 := HN.out.at 4 _ rfl
        have m4 := HM2.out.at 4 _ rfl
        have n5 := HN.out.at 5 _ rfl
        have m5 := HM2.out.at 5 _ rfl
        have n6 := HN.out.at 6 _ rfl
        have m6 := HM2.out.at 6 _ rfl
        have n7 := HN.out.at 7 _ rfl
        have m7 := HM2.out.at 7 _ rfl
        have n8 := HN.out.at 8 _ rfl
        have m8 := HM2.out.at 8 _ rfl
        have n9 := HN.out.at 9 _ rfl
        have m9 := HM2.out.at 9 _ rfl
        by_cases e0 : d = d'
        case neg =>
          have eb0 := bne_of e0
          have hz0 : z = false := by rw [← HSUM.out, beq_of e0]; simp
          subst hz0
          have hb : b = false := by rw [← H.out]; exact eqSL_get hkl hkl' HB0.out
          subst hb
          clear HSUM H HB0 HK
          go_wp2_with fail
          go_ret
          exact ⟨rfl, HB.out⟩
        have eb0 : (d != d') = false := by rw [e0]; exact bne_self _
        have HE0 := Lib.hid e0
        clear e0
        by_cases e1 : x1 = x1'
        case neg =>
          have eb1 := bne_of e1
          have hz0 : z = false := by rw [← HSUM.out, beq_of e1]; simp
          subst hz0
          have hb : b = false := by rw [← H.out]; exact eqSL_get hkl hkl' HB0.out
          subst hb
          clear HSUM H HB0 HK
          go_wp2_with fail
          go_ret
          exact ⟨rfl, HB.out⟩
        have eb1 : (x1 != x1') = false := by rw [e1]; exact bne_self _
        have HE1 := Lib.hid e1
        clear e1
        by_cases e2 : v = v'
        case neg =>
          have eb2 := bne_of e2
          have hz0 : z = false := by rw [← HSUM.out, beq_of e2]; simp
          subst hz0
          have hb : b = false := by rw [← H.out]; exact eqSL_get hkl hkl' HB0.out
          subst hb
          clear HSUM H HB0 HK
          go_wp2_with fail
          go_ret
          exact ⟨rfl, HB.out⟩
        have eb2 : (v != v') = false := by rw [e2]; exact bne_self _
        have HE2 := Lib.hid e2
        clear e2
        by_cases e3 : n = n'
        case neg =>
          have eb3 := bne_of e3
          have hz0 : z = false := by rw [← HSUM.out, beq_of e3]; simp
          subst hz0
          have hb : b = false := by rw [← H.out]; exact eqSL_get hkl hkl' HB0.out
          subst hb
          clear HSUM H HB0 HK
          go_wp2_with fail
          go_ret
          exact ⟨rfl, HB.out⟩
        have eb3 : (n != n') = false := by rw [e3]; exact bne_self _
        have HE3 := Lib.hid e3
        clear e3
        go_wp2_with fail
        go_at_call 70
        refine (requalTerm_any (Tm.cnt (.mk o tn tk)) o tn tk lt At ct o' tn' tk' lt' At' ct' _ bt HLT.out HLT'.out (Nat.le_refl _) HK1.out HK5.out HBT).mono ?_
        rintro e w6 ⟨rfl, hb⟩
        have HBx := Lib.hid (HB.out.trans (hb.mono HB.out.size))
        have HNx := Lib.hid (HN.out.next hb)
        have HM2x := Lib.hid (HM2.out.next hb)
        have HK1x := Lib.hid (HK1.out.below hb)
        have HK2x := Lib.hid (HK2.out.below hb)
        have HK3x := Lib.hid (HK3.out.below hb)
        have HK4x := Lib.hid (HK4.out.below hb)
        have HK5x := Lib.hid (HK5.out.below hb)
        have HK6x := Lib.hid (HK6.out.below hb)
        have HK7x := Lib.hid (HK7.out.below hb)
        have HK8x := Lib.hid (HK8.out.below hb)
        clear hb HB HN HM2 HK1 HK2 HK3 HK4 HK5 HK6 HK7 HK8 n0 m0 n1 m1 n2 m2 n3 m3 n4 m4 n5 m5 n6 m6 n7 m7 n8 m8 n9 m9
        have HB := HBx
        have HN := HNx
        have HM2 := HM2x
        have HK1 := HK1x
        have HK2 := HK2x
        have HK3 := HK3x
        have HK4 := HK4x
        have HK5 := HK5x
        have HK6 := HK6x
        have HK7 := HK7x
        have HK8 := HK8x
        clear HBx HNx HM2x HK1x HK2x HK3x HK4x HK5x HK6x HK7x HK8x
        have n0 := HN.out.at 0 _ rfl
        have m0 := HM2.out.at 0 _ rfl
        have n1 := HN.out.at 1 _ rfl
        have m1 := HM2.out.at 1 _ rfl
        have n2 := HN.out.at 2 _ rfl
        have m2 := HM2.out.at 2 _ rfl
        have n3 := HN.out.at 3 _ rfl
        have m3 := HM2.out.at 3 _ rfl
        have n4 := HN.out.at 4 _ rfl
        have m4 := HM2.out.at 4 _ rfl
        have n5 := HN.out.at 5 _ rfl
        have m5 := HM2.out.at 5 _ rfl
        have n6 := HN.out.at 6 _ rfl
        have m6 := HM2.out.at 6 _ rfl
        have n7 := HN.out.at 7 _ rfl
        have m7 := HM2.out.at 7 _ rfl
        have n8 := HN.out.at 8 _ rfl
        have m8 := HM2.out.at 8 _ rfl
        have n9 := HN.out.at 9 _ rfl
        have m9 := HM2.out.at 9 _ rfl
        cases bt
        case false =>
          have hz0 : z = false := by rw [← HSUM.out]; simp
          subst hz0
          have hb : b = false := by rw [← H.out]; exact eqSL_get hkl hkl' HB0.out
          subst hb
          clear HSUM H HB0 HK
          go_wp2_with fail
          go_ret
          exact ⟨rfl, HB.out⟩
        go_wp2_with fail
        go_at_call 56
        refine (reqInts_b bs bs' Ab Ab' lb cb lb' cb' bz HBZ _ HK4.out HK8.out).mono ?_
        rintro e w7 ⟨rfl, hb⟩
        have HBx := Lib.hid (HB.out.trans (hb.mono HB.out.size))
        have HNx := Lib.hid (HN.out.next hb)
        have HM2x := Lib.hid (HM2.out.next hb)
        have HK1x := Lib.hid (HK1.out.below hb)
        have HK2x := Lib.hid (HK2.out.below hb)
        have HK3x := Lib.hid (HK3.out.below hb)
        have HK4x := Lib.hid (HK4.out.below hb)
        have HK5x := Lib.hid (HK5.out.below hb)
        have HK6x := Lib.hid (HK6.out.below hb)
        have HK7x := Lib.hid (HK7.out.below hb)
        have HK8x := Lib.hid (HK8.out.below hb)
        clear hb HB HN HM2 HK1 HK2 HK3 HK4 HK5 HK6 HK7 HK8 n0 m0 n1 m1 n2 m2 n3 m3 n4 m4 n5 m5 n6 m6 n7 m7 n8 m8 n9 m9
        have HB := HBx
        have HN := HNx
        have HM2 := HM2x
        have HK1 := HK1x
        have HK2 := HK2x
        have HK3 := HK3x
        have HK4 := HK4x
        have HK5 := HK5x
        have HK6 := HK6x
        have HK7 := HK7x
        have HK8 := HK8x
        clear HBx HNx HM2x HK1x HK2x HK3x HK4x HK5x HK6x HK7x HK8x
        have n0 := HN.out.at 0 _ rfl
        have m0 := HM2.out.at 0 _ rfl
        have n1 := HN.out.at 1 _ rfl
        have m1 := HM2.out.at 1 _ rfl
        have n2 := HN.out.at 2 _ rfl
        have m2 := HM2.out.at 2 _ rfl
        have n3 := HN.out.at 3 _ rfl
        have m3 := HM2.out.at 3 _ rfl
        have n4 := HN.out.at 4 _ rfl
        have m4 := HM2.out.at 4 _ rfl
        have n5 := HN.out.at 5 _ rfl
        have m5 := HM2.out.at 5 _ rfl
        have n6 := HN.out.at 6 _ rfl
        have m6 := HM2.out.at 6 _ rfl
        have n7 := HN.out.at 7 _ rfl
        have m7 := HM2.out.at 7 _ rfl
        have n8 := HN.out.at 8 _ rfl
        have m8 := HM2.out.at 8 _ rfl
        have n9 := HN.out.at 9 _ rfl
        have m9 := HM2.out.at 9 _ rfl
        cases bz
        case false =>
          have hz0 : z = false := by rw [← HSUM.out]; simp
          subst hz0
          have hb : b = false := by rw [← H.out]; exact eqSL_get hkl hkl' HB0.out
          subst hb
          clear HSUM H HB0 HK
          go_wp2_with fail
          go_ret
          exact ⟨rfl, HB.out⟩
        go_wp2_with fail
        go_at_call 31
        refine (IH.out (Sp.cntL th) HCM1.out th th' lh lh' Ah Ah' ch ch' _ bh HLH.out HLH'.out (Nat.le_refl _) HK2.out HK6.out HBH).mono ?_
        rintro e w8 ⟨rfl, hb⟩
        have HBx := Lib.hid (HB.out.trans (hb.mono HB.out.size))
        have HNx := Lib.hid (HN.out.next hb)
        have HM2x := Lib.hid (HM2.out.next hb)
        have HK1x := Lib.hid (HK1.out.below hb)
        have HK2x := Lib.hid (HK2.out.below hb)
        have HK3x := Lib.hid (HK3.out.below hb)
        have HK4x := Lib.hid (HK4.out.below hb)
        have HK5x := Lib.hid (HK5.out.below hb)
        have HK6x := Lib.hid (HK6.out.below hb)
        have HK7x := Lib.hid (HK7.out.below hb)
        have HK8x := Lib.hid (HK8.out.below hb)
        clear hb HB HN HM2 HK1 HK2 HK3 HK4 HK5 HK6 HK7 HK8 n0 m0 n1 m1 n2 m2 n3 m3 n4 m4 n5 m5 n6 m6 n7 m7 n8 m8 n9 m9
        have HB := HBx
        have HN := HNx
        have HM2 := HM2x
        have HK1 := HK1x
        have HK2 := HK2x
        have HK3 := HK3x
        have HK4 := HK4x
        have HK5 := HK5x
        have HK6 := HK6x
        have HK7 := HK7x
        have HK8 := HK8x
        clear HBx HNx HM2x HK1x HK2x HK3x HK4x HK5x HK6x HK7x HK8x
        have n0 := HN.out.at 0 _ rfl
        have m0 := HM2.out.at 0 _ rfl
        have n1 := HN.out.at 1 _ rfl
        have m1 := HM2.out.at 1 _ rfl
        have n2 := HN.out.at 2 _ rfl
        have m2 := HM2.out.at 2 _ rfl
        have n3 := HN.out.at 3 _ rfl
        have m3 := HM2.out.at 3 _ rfl
        have n4 := HN.out.at 4 _ rfl
        have m4 := HM2.out.at 4 _ rfl
        have n5 := HN.out.at 5 _ rfl
        have m5 := HM2.out.at 5 _ rfl
        have n6 := HN.out.at 6 _ rfl
        have m6 := HM2.out.at 6 _ rfl
        have n7 := HN.out.at 7 _ rfl
        have m7 := HM2.out.at 7 _ rfl
        have n8 := HN.out.at 8 _ rfl
        have m8 := HM2.out.at 8 _ rfl
        have n9 := HN.out.at 9 _ rfl
        have m9 := HM2.out.at 9 _ rfl
        cases bh
        case false =>
          have hz0 : z = false := by rw [← HSUM.out]; simp
          subst hz0
          have hb : b = false := by rw [← H.out]; exact eqSL_get hkl hkl' HB0.out
          subst hb
          clear HSUM H HB0 HK
          go_wp2_with fail
          go_ret
          exact ⟨rfl, HB.out⟩
        go_wp2_with fail
        go_at_call 31
        refine (IH.out (Sp.cntL el) HCM2.out el el' le le' Ae Ae' ce ce' _ be HLE.out HLE'.out (Nat.le_refl _) HK3.out HK7.out HBE).mono ?_
        rintro e w9 ⟨rfl, hb⟩
        have HBx := Lib.hid (HB.out.trans (hb.mono HB.out.size))
        have HNx := Lib.hid (HN.out.next hb)
        have HM2x := Lib.hid (HM2.out.next hb)
        have HK1x := Lib.hid (HK1.out.below hb)
        have HK2x := Lib.hid (HK2.out.below hb)
        have HK3x := Lib.hid (HK3.out.below hb)
        have HK4x := Lib.hid (HK4.out.below hb)
        have HK5x := Lib.hid (HK5.out.below hb)
        have HK6x := Lib.hid (HK6.out.below hb)
        have HK7x := Lib.hid (HK7.out.below hb)
        have HK8x := Lib.hid (HK8.out.below hb)
        clear hb HB HN HM2 HK1 HK2 HK3 HK4 HK5 HK6 HK7 HK8 n0 m0 n1 m1 n2 m2 n3 m3 n4 m4 n5 m5 n6 m6 n7 m7 n8 m8 n9 m9
        have HB := HBx
        have HN := HNx
        have HM2 := HM2x
        have HK1 := HK1x
        have HK2 := HK2x
        have HK3 := HK3x
        have HK4 := HK4x
        have HK5 := HK5x
        have HK6 := HK6x
        have HK7 := HK7x
        have HK8 := HK8x
        clear HBx HNx HM2x HK1x HK2x HK3x HK4x HK5x HK6x HK7x HK8x
        have n0 := HN.out.at 0 _ rfl
        have m0 := HM2.out.at 0 _ rfl
        have n1 := HN.out.at 1 _ rfl
        have m1 := HM2.out.at 1 _ rfl
        have n2 := HN.out.at 2 _ rfl
        have m2 := HM2.out.at 2 _ rfl
        have n3 := HN.out.at 3 _ rfl
        have m3 := HM2.out.at 3 _ rfl
        have n4 := HN.out.at 4 _ rfl
        have m4 := HM2.out.at 4 _ rfl
        have n5 := HN.out.at 5 _ rfl
        have m5 := HM2.out.at 5 _ rfl
        have n6 := HN.out.at 6 _ rfl
        have m6 := HM2.out.at 6 _ rfl
        have n7 := HN.out.at 7 _ rfl
        have m7 := HM2.out.at 7 _ rfl
        have n8 := HN.out.at 8 _ rfl
        have m8 := HM2.out.at 8 _ rfl
        have n9 := HN.out.at 9 _ rfl
        have m9 := HM2.out.at 9 _ rfl
        cases be
        case false =>
          have hz0 : z = false := by rw [← HSUM.out]; simp
          subst hz0
          have hb : b = false := by rw [← H.out]; exact eqSL_get hkl hkl' HB0.out
          subst hb
          clear HSUM H HB0 HK
          go_wp2_with fail
          go_ret
          exact ⟨rfl, HB.out⟩
        have hz1 : z = true := by rw [← HSUM.out, HE0.out, HE1.out, HE2.out, HE3.out]; simp
        subst hz1
        have HK' : Hid (∀ (j : Nat) (h : j < ks.length) (h' : j < ks'.length), j < k + 1 → eqS ks[j] ks'[j] = true) := fun j h h' hj => by
          by_cases e : j = k
          · subst e; exact HB0.out
          · exact HK.out j h h' (by omega)
        clear HK HSUM HB0
        go_wp2_with fail
        go_roundw
        case rel => exact ⟨k + 1, by omega, by go_num, HK', HB⟩
        case measure => simp [intOf]; omega
    · obtain rfl : k = l := by omega
      have hb : b = true := by rw [← H.out]; exact eqSL_all (by rw [HL.out, HL'.out]) fun i h h' => HK.out i h h' (by rw [← HL.out]; exact h)
      subst hb
      clear H HK
      go_wp2_with fail
      go_ret
      exact ⟨rfl, HB.out⟩

theorem rvarGuard : Try.prog.eqGuardType Try.prog.depth 41 = false := by kernel_rfl
theorem rvarHeld : Try.prog.stoodInHeld 41 = false := by kernel_rfl
set_option maxRecDepth 100000 in
set_option maxHeartbeats 8000000 in
theorem requal_same (vs : List Vr) (hs : List Ht) (ks : List Sp) (lv lg ly : Nat) (Av Ag Ay Av' Ag' Ay' : Option Addr) (cv cg cy cv' cg' cy' : Nat) (w : World) (hl : ks.length = ly) (hv : VOk w Av lv cv vs) (hh : HOk w Ag lg cg hs) (hk : SOk w Ay cy ks) (hv' : VOk w Av' lv cv' vs) (hh' : HOk w Ag' lg cg' hs) (hk' : SOk w Ay' cy' ks) :
    Calls Try.prog 30 #[.agg #[.slice Av lv cv, .slice Ag lg cg, .slice Ay ly cy], .agg #[.slice Av' lv cv', .slice Ag' lg cg', .slice Ay' ly cy']] w fun e w' => e = .returned (.bool true) ∧ Below w.heap.size w w' := by
  have HL := Lib.hid hl
  have hlm : lv ≤ 9223372036854775807 := by have h1 := hv.cap; have h2 := hv.big; unfold maxLen at h2; omega
  have hlm2 : lg ≤ 9223372036854775807 := by have h1 := hh.cap; have h2 := hh.big; unfold maxLen at h2; omega
  have ha1 := (Below.refl w.heap.size w).alloc (Nat.le_refl _) (.cells #[.slice Av lv cv, .slice Ag lg cg, .slice Ay ly cy] 26)
  have ha2 := ha1.alloc ha1.size (.cells #[.slice Av' lv cv', .slice Ag' lg cg', .slice Ay' ly cy'] 26)
  have HB := Lib.hid ha2
  have HP := Lib.hid ((Cs.new w #[.slice Av lv cv, .slice Ag lg cg, .slice Ay ly cy] 26).alloc (.cells #[.slice Av' lv cv', .slice Ag' lg cg', .slice Ay' ly cy'] 26))
  have HQ := Lib.hid (Cs.new1 w (.cells #[.slice Av lv cv, .slice Ag lg cg, .slice Ay ly cy] 26) #[.slice Av' lv cv', .slice Ag' lg cg', .slice Ay' ly cy'] 26)
  have K1 := Lib.hid (hv.below ha2)
  have K2 := Lib.hid (hh.below ha2)
  have K3 := Lib.hid (hk.below ha2)
  have K4 := Lib.hid (hv'.below ha2)
  have K5 := Lib.hid (hh'.below ha2)
  have K6 := Lib.hid (hk'.below ha2)
  clear hl hv hh hk hv' hh' hk' ha1 ha2
  go_enter Try.func30, Try.ntmps30
  go_upto_region 1 with fail
  obtain ⟨w1, hw1⟩ : ∃ w1, (w.alloc (.cells #[.slice Av lv cv, .slice Ag lg cg, .slice Ay ly cy] 26)).alloc (.cells #[.slice Av' lv cv', .slice Ag' lg cg', .slice Ay' ly cy'] 26) = w1 := ⟨_, rfl⟩
  obtain ⟨p, hp⟩ : ∃ p, w.heap.size = p := ⟨_, rfl⟩
  obtain ⟨q, hq⟩ : ∃ q, p + 1 = q := ⟨_, rfl⟩
  rw [hw1] at HB HP HQ K1 K2 K3 K4 K5 K6
  rw [hp] at HP HQ
  rw [hq] at HQ
  rw [hw1, hp, hq]
  clear hw1 hp hq
  have p0 := HP.out.at 0 _ rfl
  have q0 := HQ.out.at 0 _ rfl
  have p1 := HP.out.at 1 _ rfl
  have q1 := HQ.out.at 1 _ rfl
  have p2 := HP.out.at 2 _ rfl
  have q2 := HQ.out.at 2 _ rfl
  have d1 : ((lv : Int) != (lv : Int)) = false := bne_self _
  have d2 : ((lg : Int) != (lg : Int)) = false := bne_self _
  have HEQ : Hid (eqSL ks ks = true) := Lib.hid ((eqSL_iff _ _).2 rfl)
  go_wp2_with fail
  go_at_call 31
  refine (requalSteps_any (Sp.cntL ks) ks ks ly ly Ay Ay' cy cy' _ true HL.out HL.out (Nat.le_refl _) K3.out K6.out HEQ).mono ?_
  rintro e w2 ⟨rfl, hb⟩
  have HB0 := Lib.hid (HB.out.trans (hb.mono HB.out.size))
  have HP0 := Lib.hid (HP.out.next hb)
  have HQ0 := Lib.hid (HQ.out.next hb)
  have K1x := Lib.hid (K1.out.below hb)
  have K2x := Lib.hid (K2.out.below hb)
  have K4x := Lib.hid (K4.out.below hb)
  have K5x := Lib.hid (K5.out.below hb)
  clear hb HB HP HQ K1 K2 K3 K4 K5 K6 p0 p1 p2 q0 q1 q2 HEQ HL
  have HB2 : Hid (Below w2.heap.size w2 w2) := Lib.hid (Below.refl _ _)
  have HB := HB0
  have HP := HP0
  have HQ := HQ0
  clear HB0 HP0 HQ0
  have p0 := HP.out.at 0 _ rfl
  have q0 := HQ.out.at 0 _ rfl
  have p1 := HP.out.at 1 _ rfl
  have q1 := HQ.out.at 1 _ rfl
  have p2 := HP.out.at 2 _ rfl
  have q2 := HQ.out.at 2 _ rfl
  go_upto_region 4 with fail
  clear d1 d2
  go_loopw [5] (fun v wr => ∃ k : Nat, k ≤ lv ∧ v = .int .i64 k ∧ Hid (Below w.heap.size w wr) ∧ Hid (Below w2.heap.size w2 wr) ∧ Hid (Cs wr p [.slice Av lv cv, .slice Ag lg cg, .slice Ay ly cy]) ∧ Hid (Cs wr q [.slice Av' lv cv', .slice Ag' lg cg', .slice Ay' ly cy'])) (fun v _ => lv - (intOf v).toNat)
  case atStart => exact ⟨0, by omega, rfl, HB, HB2, HP, HQ⟩
  case round =>
    clear HB HB2 HP HQ p0 p1 p2 q0 q1 q2
    obtain ⟨k, hk, rfl, HB, HB2, HP, HQ⟩ := hrel
    have p0 := HP.out.at 0 _ rfl
    have q0 := HQ.out.at 0 _ rfl
    have p1 := HP.out.at 1 _ rfl
    have q1 := HQ.out.at 1 _ rfl
    have p2 := HP.out.at 2 _ rfl
    have q2 := HQ.out.at 2 _ rfl
    by_cases hlt : k < lv
    · obtain ⟨nm, kd, lo, hi, ii, g, f, hx, hsz, hA, hg, c0, c1, c2, c3, c4⟩ := (K1x.out.below HB2.out).at k hlt
      obtain ⟨nm2, kd2, lo2, hi2, ii2, g', f', hx', hsz', hA', hg', c0', c1', c2', c3', c4'⟩ := (K4x.out.below HB2.out).at k hlt
      rw [hx] at hx'
      injection hx' with hx'
      injection hx' with z1 z2 z3 z4 z5
      subst z1 z2 z3 z4 z5
      subst hA hA'
      have hlt' : (k : Int) < (lv : Int) := by omega
      have hk0 : (0 : Int) ≤ (k : Int) := by omega
      have e0 : (nm.toList == nm.toList) = true := beq_self_eq_true _
      have hg1 := rvarGuard
      have hg2 := rvarHeld
      clear hx hsz hsz'
      go_wp2_with fail
      go_quiet (fail)
      go_wp2_with fail
      go_roundw
      case rel => exact ⟨k + 1, by omega, by go_num, Lib.hid (below_drewN HB.out _), Lib.hid (below_drewN HB2.out _), Lib.hid (HP.out.next (below_drewN (Below.refl _ _) _)), Lib.hid (HQ.out.next (below_drewN (Below.refl _ _) _))⟩
      case measure => simp [intOf]; omega
    · go_upto_region 9 with fail
      go_loopw [6] (fun v wr => ∃ k : Nat, k ≤ lg ∧ v = .int .i64 k ∧ Hid (Below w.heap.size w wr) ∧ Hid (Below w2.heap.size w2 wr) ∧ Hid (Cs wr p [.slice Av lv cv, .slice Ag lg cg, .slice Ay ly cy]) ∧ Hid (Cs wr q [.slice Av' lv cv', .slice Ag' lg cg', .slice Ay' ly cy'])) (fun v _ => lg - (intOf v).toNat)
      case atStart => exact ⟨0, by omega, rfl, HB, HB2, HP, HQ⟩
      case round =>
        clear HB HB2 HP HQ p0 p1 p2 q0 q1 q2 hlt
        obtain ⟨k2, hk2, rfl, HB, HB2, HP, HQ⟩ := hrel
        have p0 := HP.out.at 0 _ rfl
        have q0 := HQ.out.at 0 _ rfl
        have p1 := HP.out.at 1 _ rfl
        have q1 := HQ.out.at 1 _ rfl
        have p2 := HP.out.at 2 _ rfl
        have q2 := HQ.out.at 2 _ rfl
        by_cases hlt : k2 < lg
        · obtain ⟨s, lo, hi, o, n, tk, g, f, At, ct, hx, hsz, hA, hg, c0, c1, c2, c3, c4, c5, htk⟩ := (K2x.out.below HB2.out).at k2 hlt
          obtain ⟨s', lo', hi', o', n', tk', g', f', At', ct', hx', hsz', hA', hg', c0', c1', c2', c3', c4', c5', htk'⟩ := (K5x.out.below HB2.out).at k2 hlt
          rw [hx] at hx'
          injection hx' with hx'
          injection hx' with z1 z2 z3 z4
          injection z4 with z4 z5 z6
          subst z1 z2 z3 z4 z5 z6
          subst hA hA'
          obtain ⟨lt, hlt1⟩ : ∃ l, tk.length = l := ⟨_, rfl⟩
          rw [hlt1] at c5 c5'
          have HLT := Lib.hid hlt1
          have HK1 := Lib.hid htk
          have HK2 := Lib.hid htk'
          have HEQ : Hid (eqT (.mk o n tk) (.mk o n tk) = true) := Lib.hid ((eqT_iff _ _).2 rfl)
          have hlt' : (k2 : Int) < (lg : Int) := by omega
          have hk0 : (0 : Int) ≤ (k2 : Int) := by omega
          have e0 : (s.toList == s.toList) = true := beq_self_eq_true _
          clear hx hsz hsz' hlt1 htk htk'
          have hpl : p < wr.heap.size := HP.out.lt
          have hql : q < wr.heap.size := HQ.out.lt
          have hpl1 : p < wr.heap.size + 1 := by omega
          have hql1 : q < wr.heap.size + 1 := by omega
          go_upto_region 11 with fail
          go_region_both
          all_goals
            first
              | (obtain ⟨w5, hw5⟩ : ∃ w5, ((wr.alloc (.cells #[.string s, .int .i64 lo, .int .i64 hi, .int .i64 o, .int .i64 n, .slice At lt ct] 78)).alloc (.cells #[.string s, .int .i64 lo, .int .i64 hi, .int .i64 o, .int .i64 n, .slice At' lt ct'] 78)).drew = w5 := ⟨_, rfl⟩
                 have hba := (Below.refl wr.heap.size wr).alloc (Nat.le_refl _) (.cells #[.string s, .int .i64 lo, .int .i64 hi, .int .i64 o, .int .i64 n, .slice At lt ct] 78)
                 have hbb := (hba.alloc hba.size (.cells #[.string s, .int .i64 lo, .int .i64 hi, .int .i64 o, .int .i64 n, .slice At' lt ct'] 78)).drew
                 have HN := Lib.hid (((Cs.new wr #[.string s, .int .i64 lo, .int .i64 hi, .int .i64 o, .int .i64 n, .slice At lt ct] 78).alloc (.cells #[.string s, .int .i64 lo, .int .i64 hi, .int .i64 o, .int .i64 n, .slice At' lt ct'] 78)).next (Below.refl _ _).drew)
                 have HM2 := Lib.hid ((Cs.new1 wr (.cells #[.string s, .int .i64 lo, .int .i64 hi, .int .i64 o, .int .i64 n, .slice At lt ct] 78) #[.string s, .int .i64 lo, .int .i64 hi, .int .i64 o, .int .i64 n, .slice At' lt ct'] 78).next (Below.refl _ _).drew)
                 rw [hw5] at HN HM2 hbb
                 rw [hw5]
                 obtain ⟨bp, hp⟩ : ∃ p, wr.heap.size = p := ⟨_, rfl⟩
                 obtain ⟨bq, hq⟩ : ∃ z9, bp + 1 = z9 := ⟨_, rfl⟩
                 rw [hp] at HN HM2
                 rw [hq] at HM2
                 rw [hp, hq]
                 have HBx := Lib.hid (HB.out.trans (hbb.mono HB.out.size))
                 have HB2x := Lib.hid (HB2.out.trans (hbb.mono HB2.out.size))
                 have HK1x := Lib.hid (HK1.out.below hbb)
                 have HK2x := Lib.hid (HK2.out.below hbb)
                 have HPx := Lib.hid (HP.out.next hbb)
                 have HQx := Lib.hid (HQ.out.next hbb)
                 clear hba hbb hw5 hp hq HB HB2 HK1 HK2 HP HQ p0 p1 p2 q0 q1 q2
                 have HB := HBx
                 have HB2 := HB2x
                 have HK1 := HK1x
                 have HK2 := HK2x
                 have HP := HPx
                 have HQ := HQx
                 clear HBx HB2x HK1x HK2x HPx HQx)
              | (obtain ⟨w5, hw5⟩ : ∃ w5, ((wr.alloc (.cells #[.string s, .int .i64 lo, .int .i64 hi, .int .i64 o, .int .i64 n, .slice At' lt ct'] 78)).alloc (.cells #[.string s, .int .i64 lo, .int .i64 hi, .int .i64 o, .int .i64 n, .slice At lt ct] 78)).drew = w5 := ⟨_, rfl⟩
                 have hba := (Below.refl wr.heap.size wr).alloc (Nat.le_refl _) (.cells #[.string s, .int .i64 lo, .int .i64 hi, .int .i64 o, .int .i64 n, .slice At' lt ct'] 78)
                 have hbb := (hba.alloc hba.size (.cells #[.string s, .int .i64 lo, .int .i64 hi, .int .i64 o, .int .i64 n, .slice At lt ct] 78)).drew
                 have HM2 := Lib.hid (((Cs.new wr #[.string s, .int .i64 lo, .int .i64 hi, .int .i64 o, .int .i64 n, .slice At' lt ct'] 78).alloc (.cells #[.string s, .int .i64 lo, .int .i64 hi, .int .i64 o, .int .i64 n, .slice At lt ct] 78)).next (Below.refl _ _).drew)
                 have HN := Lib.hid ((Cs.new1 wr (.cells #[.string s, .int .i64 lo, .int .i64 hi, .int .i64 o, .int .i64 n, .slice At' lt ct'] 78) #[.string s, .int .i64 lo, .int .i64 hi, .int .i64 o, .int .i64 n, .slice At lt ct] 78).next (Below.refl _ _).drew)
                 rw [hw5] at HN HM2 hbb
                 rw [hw5]
                 obtain ⟨bq, hp⟩ : ∃ p, wr.heap.size = p := ⟨_, rfl⟩
                 obtain ⟨bp, hq⟩ : ∃ z9, bq + 1 = z9 := ⟨_, rfl⟩
                 rw [hp] at HN HM2
                 rw [hq] at HN
                 rw [hp, hq]
                 have HBx := Lib.hid (HB.out.trans (hbb.mono HB.out.size))
                 have HB2x := Lib.hid (HB2.out.trans (hbb.mono HB2.out.size))
                 have HK1x := Lib.hid (HK1.out.below hbb)
                 have HK2x := Lib.hid (HK2.out.below hbb)
                 have HPx := Lib.hid (HP.out.next hbb)
                 have HQx := Lib.hid (HQ.out.next hbb)
                 clear hba hbb hw5 hp hq HB HB2 HK1 HK2 HP HQ p0 p1 p2 q0 q1 q2
                 have HB := HBx
                 have HB2 := HB2x
                 have HK1 := HK1x
                 have HK2 := HK2x
                 have HP := HPx
                 have HQ := HQx
                 clear HBx HB2x HK1x HK2x HPx HQx)
            clear c0 c0' c1 c1' c2 c2' c3 c3' c4 c4' c5 c5' hpl hql hpl1 hql1
            have n0 := HN.out.at 0 _ rfl
            have m0 := HM2.out.at 0 _ rfl
            have n1 := HN.out.at 1 _ rfl
            have m1 := HM2.out.at 1 _ rfl
            have n2 := HN.out.at 2 _ rfl
            have m2 := HM2.out.at 2 _ rfl
            have n3 := HN.out.at 3 _ rfl
            have m3 := HM2.out.at 3 _ rfl
            have n4 := HN.out.at 4 _ rfl
            have m4 := HM2.out.at 4 _ rfl
            have n5 := HN.out.at 5 _ rfl
            have m5 := HM2.out.at 5 _ rfl
            go_wp2_with fail
            go_at_call 70
            refine (requalTerm_any (Tm.cnt (.mk o n tk)) o n tk lt At ct o n tk lt At' ct' _ true HLT.out HLT.out (Nat.le_refl _) HK1.out HK2.out HEQ).mono ?_
            rintro e w6 ⟨rfl, hb⟩
            have HB6 := Lib.hid (HB.out.trans (hb.mono HB.out.size))
            have HB26 := Lib.hid (HB2.out.trans (hb.mono HB2.out.size))
            have HP6 := Lib.hid (HP.out.next hb)
            have HQ6 := Lib.hid (HQ.out.next hb)
            clear hb HB HB2 HP HQ n0 m0 n1 m1 n2 m2 n3 m3 n4 m4 n5 m5 HK1 HK2 HN HM2
            go_wp2_with fail
            go_roundw
            case rel => exact ⟨k2 + 1, by omega, by go_num, HB6, HB26, HP6, HQ6⟩
            case measure => simp [intOf]; omega
        · go_wp2_with fail
          go_ret
          exact ⟨rfl, HB.out⟩

mutual
/-- A step, and all that is inside it, in preorder. -/
def preS : Sp → List Sp
  | .mk d c v n t th el bs => .mk d c v n t th el bs :: (preL th ++ preL el)
def preL : List Sp → List Sp
  | [] => []
  | k :: ks => preS k ++ preL ks
end
mutual
theorem preS_len : ∀ (k : Sp), (preS k).length = 1 + sizeO k
  | .mk d c v n t th el bs => by
    rw [preS, sizeO, List.length_cons, List.length_append, preL_len th, preL_len el]; omega
theorem preL_len : ∀ (ks : List Sp), (preL ks).length = sizeL ks
  | [] => by rw [preL, sizeL]; rfl
  | k :: ks => by rw [preL, sizeL, List.length_append, preS_len k, preL_len ks]
end
/-- The value v is the step s, as it lies in the world W. -/
def SVal (W : World) (s : Sp) (vv : Value) : Prop :=
  ∃ (d x1 v n o tn : Int) (tk : List Tm) (th el : List Sp) (bs : List Int) (At : Option Addr) (lt ct : Nat) (Ah : Option Addr) (lh ch : Nat) (Ae : Option Addr) (le ce : Nat) (Ab : Option Addr) (lb cb : Nat),
    s = .mk d x1 v n (.mk o tn tk) th el bs ∧ vv = .agg #[.int .i64 d, .int .i64 x1, .int .i64 v, .int .i64 n, .int .i64 o, .int .i64 tn, .slice At lt ct, .slice Ah lh ch, .slice Ae le ce, .slice Ab lb cb] ∧ tk.length = lt ∧ th.length = lh ∧ el.length = le ∧ bs.length = lb ∧ TOk W At ct tk ∧ SOk W Ah ch th ∧ SOk W Ae ce el ∧ Zs W Ab lb cb bs
theorem Cs.st10 {W : World} {b : Nat} {u0 u1 u2 u3 u4 u5 u6 u7 u8 u9 : Value} (h : Cs W b [u0, u1, u2, u3, u4, u5, u6, u7, u8, u9]) (v0 v1 v2 v3 v4 v5 v6 v7 v8 v9 : Value) : Cs ((((((((((W.setCell ⟨b, 0, none⟩ v0).setCell ⟨b, 1, none⟩ v1).setCell ⟨b, 2, none⟩ v2).setCell ⟨b, 3, none⟩ v3).setCell ⟨b, 4, none⟩ v4).setCell ⟨b, 5, none⟩ v5).setCell ⟨b, 6, none⟩ v6).setCell ⟨b, 7, none⟩ v7).setCell ⟨b, 8, none⟩ v8).setCell ⟨b, 9, none⟩ v9) b [v0, v1, v2, v3, v4, v5, v6, v7, v8, v9] :=
  ((((((((((h.set 0 v0 (by simp)).set 1 v1 (by simp)).set 2 v2 (by simp)).set 3 v3 (by simp)).set 4 v4 (by simp)).set 5 v5 (by simp)).set 6 v6 (by simp)).set 7 v7 (by simp)).set 8 v8 (by simp)).set 9 v9 (by simp))
theorem below_st10 {B b : Nat} {a W : World} (h : Below B a W) (hb : B ≤ b) (v0 v1 v2 v3 v4 v5 v6 v7 v8 v9 : Value) : Below B a ((((((((((W.setCell ⟨b, 0, none⟩ v0).setCell ⟨b, 1, none⟩ v1).setCell ⟨b, 2, none⟩ v2).setCell ⟨b, 3, none⟩ v3).setCell ⟨b, 4, none⟩ v4).setCell ⟨b, 5, none⟩ v5).setCell ⟨b, 6, none⟩ v6).setCell ⟨b, 7, none⟩ v7).setCell ⟨b, 8, none⟩ v8).setCell ⟨b, 9, none⟩ v9) :=
  ((((((((((h.setCell (p := ⟨b, 0, none⟩) hb v0).setCell (p := ⟨b, 1, none⟩) hb v1).setCell (p := ⟨b, 2, none⟩) hb v2).setCell (p := ⟨b, 3, none⟩) hb v3).setCell (p := ⟨b, 4, none⟩) hb v4).setCell (p := ⟨b, 5, none⟩) hb v5).setCell (p := ⟨b, 6, none⟩) hb v6).setCell (p := ⟨b, 7, none⟩) hb v7).setCell (p := ⟨b, 8, none⟩) hb v8).setCell (p := ⟨b, 9, none⟩) hb v9)
set_option maxRecDepth 100000 in
set_option maxHeartbeats 8000000 in
theorem rfind_b (m : Nat) : ∀ (ks : List Sp) (l : Nat) (A : Option Addr) (c i : Nat) (w0 w : World) (s : Sp), ks.length = l → Sp.cntL ks ≤ m → Sp.cntL ks ≤ 1000000 → SOk w0 A c ks → Below w0.heap.size w0 w → Hid ((preL ks)[i]? = some s) →
    Calls Try.prog 32 #[.slice A l c, .int .i64 (i : Nat)] w fun e w' => ∃ vv, (e = .returned (.tuple #[vv, .bool true]) ∧ SVal w0 s vv) ∧ Below w.heap.size w w' := by
  induction m with
  | zero =>
    intro ks l A c i w0 w s hl hm hm6 ht h0 H
    have hk : ks = [] := by
      cases ks with
      | nil => rfl
      | cons k ks => have := Sp.cnt_pos k; simp only [Sp.cntL] at hm; omega
    subst hk
    have := H.out
    rw [preL] at this
    cases this
  | succ m ih =>
    intro ks l A c i w0 w s hl hm hm6 ht h0 H
    have IH := Lib.hid ih
    have HM := Lib.hid hm
    have HM6 := Lib.hid hm6
    have HL := Lib.hid hl
    have HT := Lib.hid ht
    have hlm : l ≤ 1000000 := by have := Sp.len_cntL ks; omega
    have him : i ≤ 1000000 := by
      have h1 := (List.getElem?_eq_some_iff.1 H.out).1
      rw [preL_len] at h1
      have h2 := sizeL_cnt ks
      omega
    have HJ0 : Hid ((preL (ks.drop 0))[i]? = some s) := Lib.hid (by rw [List.drop_zero]; exact H.out)
    have hi0 : ¬ (i : Int) < 0 := by omega
    have hba := (Below.refl w.heap.size w).alloc (Nat.le_refl _) (.cells #[.int .i64 0, .int .i64 0, .int .i64 0, .int .i64 0, .int .i64 0, .int .i64 0, .slice none 0 0, .slice none 0 0, .slice none 0 0, .slice none 0 0] 53)
    have HB := Lib.hid hba
    have HB0 := Lib.hid (h0.trans (hba.mono h0.size))
    have HP := Lib.hid (Cs.new w #[.int .i64 0, .int .i64 0, .int .i64 0, .int .i64 0, .int .i64 0, .int .i64 0, .slice none 0 0, .slice none 0 0, .slice none 0 0, .slice none 0 0] 53)
    clear ih hm hm6 hl ht H h0 hba
    go_enter Try.func32, Try.ntmps32
    go_upto_region 1 with fail
    obtain ⟨w1, hw1⟩ : ∃ w1, w.alloc (.cells #[.int .i64 0, .int .i64 0, .int .i64 0, .int .i64 0, .int .i64 0, .int .i64 0, .slice none 0 0, .slice none 0 0, .slice none 0 0, .slice none 0 0] 53) = w1 := ⟨_, rfl⟩
    rw [hw1] at HB HB0 HP
    rw [hw1]
    clear hw1
    go_upto_region 4 with fail
    clear hi0
    go_loopw [1, 6, 7] (fun a b _ wr => ∃ k j : Nat, k ≤ l ∧ j ≤ 1000000 ∧ b = .int .i64 k ∧ a = .int .i64 j ∧ Hid ((preL (ks.drop k))[j]? = some s) ∧ Hid (Below w.heap.size w wr) ∧ Hid (Below w0.heap.size w0 wr) ∧ Hid (Cs wr w.heap.size [.int .i64 0, .int .i64 0, .int .i64 0, .int .i64 0, .int .i64 0, .int .i64 0, .slice none 0 0, .slice none 0 0, .slice none 0 0, .slice none 0 0])) (fun _ b _ _ => l - (intOf b).toNat)
    case atStart => exact ⟨0, i, by omega, him, rfl, rfl, HJ0, HB, HB0, HP⟩
    case round =>
      clear HJ0 HB HB0 HP him
      obtain ⟨k, j, hk, hj, rfl, rfl, HJ, HB, HB0, HP⟩ := hrel
      have p0 := HP.out.at 0 _ rfl
      have f0 := HP.out.free 0
      have p1 := HP.out.at 1 _ rfl
      have f1 := HP.out.free 1
      have p2 := HP.out.at 2 _ rfl
      have f2 := HP.out.free 2
      have p3 := HP.out.at 3 _ rfl
      have f3 := HP.out.free 3
      have p4 := HP.out.at 4 _ rfl
      have f4 := HP.out.free 4
      have p5 := HP.out.at 5 _ rfl
      have f5 := HP.out.free 5
      have p6 := HP.out.at 6 _ rfl
      have f6 := HP.out.free 6
      have p7 := HP.out.at 7 _ rfl
      have f7 := HP.out.free 7
      have p8 := HP.out.at 8 _ rfl
      have f8 := HP.out.free 8
      have p9 := HP.out.at 9 _ rfl
      have f9 := HP.out.free 9
      by_cases hlt : k < l
      · have hkl : k < ks.length := by rw [HL.out]; exact hlt
        have hlt' : (k : Int) < (l : Int) := by omega
        have hk0 : (0 : Int) ≤ (k : Int) := by omega
        obtain ⟨d, x1, v, n, o, tn, tk, th, el, bs, g, f, At, ct, Ah, ch, Ae, ce, Ab, cb, hkid, hA, hg, hsc, htok, hth, hel, hbs⟩ := (HT.out).step k hkl
        subst hA
        obtain ⟨lt, hlt1⟩ : ∃ l, tk.length = l := ⟨_, rfl⟩
        obtain ⟨lh, hlh⟩ : ∃ l, th.length = l := ⟨_, rfl⟩
        obtain ⟨le, hle⟩ : ∃ l, el.length = l := ⟨_, rfl⟩
        obtain ⟨lb, hlb⟩ : ∃ l, bs.length = l := ⟨_, rfl⟩
        rw [hlt1, hlh, hle, hlb] at hsc
        rw [hlb] at hbs
        have hdr : ks.drop k = .mk d x1 v n (.mk o tn tk) th el bs :: ks.drop (k + 1) := by rw [List.drop_eq_getElem_cons hkl, hkid]
        have hcm : 1 + Tm.cnt (.mk o tn tk) + Sp.cntL th + Sp.cntL el ≤ m + 1 := by
          have := Sp.cntL_get ks k hkl
          rw [hkid] at this
          simp only [Sp.cnt] at this
          have := HM.out
          omega
        have HLT := Lib.hid hlt1
        have HLH := Lib.hid hlh
        have HLE := Lib.hid hle
        have HLB := Lib.hid hlb
        have HCM := Lib.hid hcm
        obtain ⟨c0, c1, c2, c3, c4, c5, c6, c7, c8, c9⟩ := hsc
        have HSC : Hid (SCell w0 g (f + k * 10) d x1 v n o tn At lt ct Ah lh ch Ae le ce Ab lb cb) := Lib.hid ⟨c0, c1, c2, c3, c4, c5, c6, c7, c8, c9⟩
        have HDR := Lib.hid hdr
        have HTK := Lib.hid htok
        have HHH := Lib.hid hth
        have HHE := Lib.hid hel
        have HBS := Lib.hid hbs
        have HSM : Hid (Tm.cnt (.mk o tn tk) ≤ 1000000 ∧ Sp.cntL th ≤ 1000000 ∧ Sp.cntL el ≤ 1000000 ∧ Sp.cntL th ≤ m ∧ Sp.cntL el ≤ m) := Lib.hid (by have := HM6.out; have h3 := Sp.cntL_get ks k hkl; rw [hkid] at h3; simp only [Sp.cnt] at h3; have h4 := Tm.cnt_pos (.mk o tn tk); omega)
        clear c0 c1 c2 c3 c4 c5 c6 c7 c8 c9 hkid hdr hcm hlt1 hlh hle hlb htok hth hel hbs
        obtain ⟨c0, c1, c2, c3, c4, c5, c6, c7, c8, c9⟩ := HSC.out.below hg HB0.out
        cases j with
        | zero =>
          have HSV : Hid (SVal w0 s (.agg #[.int .i64 d, .int .i64 x1, .int .i64 v, .int .i64 n, .int .i64 o, .int .i64 tn, .slice At lt ct, .slice Ah lh ch, .slice Ae le ce, .slice Ab lb cb])) := Lib.hid ⟨d, x1, v, n, o, tn, tk, th, el, bs, At, lt, ct, Ah, lh, ch, Ae, le, ce, Ab, lb, cb, by have h1 := HJ.out; rw [HDR.out, preL, preS] at h1; exact (Option.some.inj h1).symm, rfl, HLT.out, HLH.out, HLE.out, HLB.out, HTK.out, HHH.out, HHE.out, HBS.out⟩
          clear HJ
          go_wp2_with fail
          have HF := HP.out.st10 (.int .i64 d) (.int .i64 x1) (.int .i64 v) (.int .i64 n) (.int .i64 o) (.int .i64 tn) (.slice At lt ct) (.slice Ah lh ch) (.slice Ae le ce) (.slice Ab lb cb)
          have z0 := HF.at 0 _ rfl
          have z1 := HF.at 1 _ rfl
          have z2 := HF.at 2 _ rfl
          have z3 := HF.at 3 _ rfl
          have z4 := HF.at 4 _ rfl
          have z5 := HF.at 5 _ rfl
          have z6 := HF.at 6 _ rfl
          have z7 := HF.at 7 _ rfl
          have z8 := HF.at 8 _ rfl
          have z9 := HF.at 9 _ rfl
          refine bodyPost_ret (v := .tuple #[.agg #[.int .i64 d, .int .i64 x1, .int .i64 v, .int .i64 n, .int .i64 o, .int .i64 tn, .slice At lt ct, .slice Ah lh ch, .slice Ae le ce, .slice Ab lb cb], .bool true]) (by simp [results, Try.results32, go_sem, z0, z1, z2, z3, z4, z5, z6, z7, z8, z9]) rfl ?_
          exact ⟨_, ⟨rfl, HSV.out⟩, below_st10 HB.out (Nat.le_refl _) _ _ _ _ _ _ _ _ _ _⟩
        | succ j1 =>
          obtain ⟨z2, hz2⟩ : ∃ z, sizeL th = z := ⟨_, rfl⟩
          obtain ⟨z3, hz3⟩ : ∃ z, sizeL el = z := ⟨_, rfl⟩
          have hz2m : z2 ≤ 1000000 := by rw [← hz2]; exact Nat.le_trans (sizeL_cnt th) HSM.out.2.1
          have hz3m : z3 ≤ 1000000 := by rw [← hz3]; exact Nat.le_trans (sizeL_cnt el) HSM.out.2.2.1
          have HZ2 := Lib.hid hz2
          have HZ3 := Lib.hid hz3
          have HJ1 : Hid ((preL th ++ (preL el ++ preL (ks.drop (k + 1))))[j1]? = some s) := Lib.hid (by have h1 := HJ.out; rw [HDR.out, preL, preS, List.cons_append, List.append_assoc, List.getElem?_cons_succ] at h1; exact h1)
          have hne : ((j1 + 1 : Nat) : Int) ≠ 0 := by omega
          have hw1 : IntKind.i64.wrap (((j1 + 1 : Nat) : Int) - 1) = (j1 : Int) := by rw [IntWalk.i64_in _ (by omega)]; omega
          have hw2 : IntKind.i64.wrap ((j1 : Int) + 1 - 1) = (j1 : Int) := by rw [IntWalk.i64_in _ (by omega)]; omega
          have hne2 : ((j1 : Int) + 1) ≠ 0 := by omega
          have hne3 := beq_of hne
          have hne4 := beq_of hne2
          clear hz2 hz3 HJ
          go_wp2_with fail
          go_at_call 26
          refine (rsize_steps m th lh Ah ch _ z2 HLH.out (HSM.out.2.2.2.1) HSM.out.2.1 (HHH.out.below HB0.out) HZ2).mono ?_
          rintro e w6 ⟨rfl, hb⟩
          have HBx := Lib.hid (HB.out.trans (hb.mono HB.out.size))
          have HB0x := Lib.hid (HB0.out.trans (hb.mono HB0.out.size))
          have HPx := Lib.hid (HP.out.next hb)
          clear hb HB HB0 HP p0 f0 p1 f1 p2 f2 p3 f3 p4 f4 p5 f5 p6 f6 p7 f7 p8 f8 p9 f9 c0 c1 c2 c3 c4 c5 c6 c7 c8 c9
          have HB := HBx
          have HB0 := HB0x
          have HP := HPx
          clear HBx HB0x HPx
          have p0 := HP.out.at 0 _ rfl
          have f0 := HP.out.free 0
          have p1 := HP.out.at 1 _ rfl
          have f1 := HP.out.free 1
          have p2 := HP.out.at 2 _ rfl
          have f2 := HP.out.free 2
          have p3 := HP.out.at 3 _ rfl
          have f3 := HP.out.free 3
          have p4 := HP.out.at 4 _ rfl
          have f4 := HP.out.free 4
          have p5 := HP.out.at 5 _ rfl
          have f5 := HP.out.free 5
          have p6 := HP.out.at 6 _ rfl
          have f6 := HP.out.free 6
          have p7 := HP.out.at 7 _ rfl
          have f7 := HP.out.free 7
          have p8 := HP.out.at 8 _ rfl
          have f8 := HP.out.free 8
          have p9 := HP.out.at 9 _ rfl
          have f9 := HP.out.free 9
          obtain ⟨c0, c1, c2, c3, c4, c5, c6, c7, c8, c9⟩ := HSC.out.below hg HB0.out
          clear hne hne2 hne3 hne4
          by_cases q2 : j1 < z2
          · have q2i : (j1 : Int) < (z2 : Int) := by omega
            have HJ2 : Hid ((preL th)[j1]? = some s) := Lib.hid (by have h1 := HJ1.out; rw [List.getElem?_append_left (by rw [preL_len, HZ2.out]; exact q2)] at h1; exact h1)
            clear HJ1
            go_wp2_with fail
            go_at_call 32
            refine (IH.out th lh Ah ch j1 w0 _ s HLH.out (HSM.out.2.2.2.1) HSM.out.2.1 HHH.out HB0.out HJ2).mono ?_
            rintro e w8 ⟨vv, ⟨rfl, hsv⟩, hb⟩
            have HSV := Lib.hid hsv
            obtain ⟨d2, y2, v2, n2, o2, t2, tk2, th2, el2, bs2, At2, lt2, ct2, Ah2, lh2, ch2, Ae2, le2, ce2, Ab2, lb2, cb2, -, rfl, -⟩ := hsv
            have HBx := Lib.hid (HB.out.trans (hb.mono HB.out.size))
            have HB0x := Lib.hid (HB0.out.trans (hb.mono HB0.out.size))
            have HPx := Lib.hid (HP.out.next hb)
            clear hb HB HB0 HP p0 f0 p1 f1 p2 f2 p3 f3 p4 f4 p5 f5 p6 f6 p7 f7 p8 f8 p9 f9 c0 c1 c2 c3 c4 c5 c6 c7 c8 c9
            have HB := HBx
            have HB0 := HB0x
            have HP := HPx
            clear HBx HB0x HPx
            have p0 := HP.out.at 0 _ rfl
            have f0 := HP.out.free 0
            have p1 := HP.out.at 1 _ rfl
            have f1 := HP.out.free 1
            have p2 := HP.out.at 2 _ rfl
            have f2 := HP.out.free 2
            have p3 := HP.out.at 3 _ rfl
            have f3 := HP.out.free 3
            have p4 := HP.out.at 4 _ rfl
            have f4 := HP.out.free 4
            have p5 := HP.out.at 5 _ rfl
            have f5 := HP.out.free 5
            have p6 := HP.out.at 6 _ rfl
            have f6 := HP.out.free 6
            have p7 := HP.out.at 7 _ rfl
            have f7 := HP.out.free 7
            have p8 := HP.out.at 8 _ rfl
            have f8 := HP.out.free 8
            have p9 := HP.out.at 9 _ rfl
            have f9 := HP.out.free 9
            obtain ⟨c0, c1, c2, c3, c4, c5, c6, c7, c8, c9⟩ := HSC.out.below hg HB0.out
            clear c0 c1 c2 c3 c4 c5 c6 c7 c8 c9
            go_wp2_with fail
            have HF := HP.out.st10 (.int .i64 d2) (.int .i64 y2) (.int .i64 v2) (.int .i64 n2) (.int .i64 o2) (.int .i64 t2) (.slice At2 lt2 ct2) (.slice Ah2 lh2 ch2) (.slice Ae2 le2 ce2) (.slice Ab2 lb2 cb2)
            have z0 := HF.at 0 _ rfl
            have z1 := HF.at 1 _ rfl
            have z2 := HF.at 2 _ rfl
            have z3 := HF.at 3 _ rfl
            have z4 := HF.at 4 _ rfl
            have z5 := HF.at 5 _ rfl
            have z6 := HF.at 6 _ rfl
            have z7 := HF.at 7 _ rfl
            have z8 := HF.at 8 _ rfl
            have z9 := HF.at 9 _ rfl
            refine bodyPost_ret (v := .tuple #[.agg #[.int .i64 d2, .int .i64 y2, .int .i64 v2, .int .i64 n2, .int .i64 o2, .int .i64 t2, .slice At2 lt2 ct2, .slice Ah2 lh2 ch2, .slice Ae2 le2 ce2, .slice Ab2 lb2 cb2], .bool true]) (by simp [results, Try.results32, go_sem, z0, z1, z2, z3, z4, z5, z6, z7, z8, z9]) rfl ?_
            exact ⟨_, ⟨rfl, HSV.out⟩, below_st10 HB.out (Nat.le_refl _) _ _ _ _ _ _ _ _ _ _⟩
          · have q2i : ¬ (j1 : Int) < (z2 : Int) := by omega
            obtain ⟨j2, hj2⟩ : ∃ j2, j1 = z2 + j2 := ⟨j1 - z2, by omega⟩
            have hw3 : IntKind.i64.wrap ((j1 : Int) - (z2 : Int)) = (j2 : Int) := by rw [IntWalk.i64_in _ (by omega)]; omega
            have HJ3 : Hid ((preL el ++ preL (ks.drop (k + 1)))[j2]? = some s) := Lib.hid (by have h1 := HJ1.out; rw [List.getElem?_append_right (by rw [preL_len, HZ2.out]; omega), preL_len, HZ2.out, hj2, Nat.add_sub_cancel_left] at h1; exact h1)
            have hj2m : j2 ≤ 1000000 := by omega
            clear HJ1 hj2
            go_wp2_with fail
            go_at_call 26
            refine (rsize_steps m el le Ae ce _ z3 HLE.out (HSM.out.2.2.2.2) HSM.out.2.2.1 (HHE.out.below HB0.out) HZ3).mono ?_
            rintro e w7 ⟨rfl, hb⟩
            have HBx := Lib.hid (HB.out.trans (hb.mono HB.out.size))
            have HB0x := Lib.hid (HB0.out.trans (hb.mono HB0.out.size))
            have HPx := Lib.hid (HP.out.next hb)
            clear hb HB HB0 HP p0 f0 p1 f1 p2 f2 p3 f3 p4 f4 p5 f5 p6 f6 p7 f7 p8 f8 p9 f9 c0 c1 c2 c3 c4 c5 c6 c7 c8 c9
            have HB := HBx
            have HB0 := HB0x
            have HP := HPx
            clear HBx HB0x HPx
            have p0 := HP.out.at 0 _ rfl
            have f0 := HP.out.free 0
            have p1 := HP.out.at 1 _ rfl
            have f1 := HP.out.free 1
            have p2 := HP.out.at 2 _ rfl
            have f2 := HP.out.free 2
            have p3 := HP.out.at 3 _ rfl
            have f3 := HP.out.free 3
            have p4 := HP.out.at 4 _ rfl
            have f4 := HP.out.free 4
            have p5 := HP.out.at 5 _ rfl
            have f5 := HP.out.free 5
            have p6 := HP.out.at 6 _ rfl
            have f6 := HP.out.free 6
            have p7 := HP.out.at 7 _ rfl
            have f7 := HP.out.free 7
            have p8 := HP.out.at 8 _ rfl
            have f8 := HP.out.free 8
            have p9 := HP.out.at 9 _ rfl
            have f9 := HP.out.free 9
            obtain ⟨c0, c1, c2, c3, c4, c5, c6, c7, c8, c9⟩ := HSC.out.below hg HB0.out
            clear hw3 hw1 hw2 q2 q2i
            by_cases q3 : j2 < z3
            · have q3i : (j2 : Int) < (z3 : Int) := by omega
              have HJ4 : Hid ((preL el)[j2]? = some s) := Lib.hid (by have h1 := HJ3.out; rw [List.getElem?_append_left (by rw [preL_len, HZ3.out]; exact q3)] at h1; exact h1)
              clear HJ3
              go_wp2_with fail
              go_at_call 32
              refine (IH.out el le Ae ce j2 w0 _ s HLE.out (HSM.out.2.2.2.2) HSM.out.2.2.1 HHE.out HB0.out HJ4).mono ?_
              rintro e w8 ⟨vv, ⟨rfl, hsv⟩, hb⟩
              have HSV := Lib.hid hsv
              obtain ⟨d2, y2, v2, n2, o2, t2, tk2, th2, el2, bs2, At2, lt2, ct2, Ah2, lh2, ch2, Ae2, le2, ce2, Ab2, lb2, cb2, -, rfl, -⟩ := hsv
              have HBx := Lib.hid (HB.out.trans (hb.mono HB.out.size))
              have HB0x := Lib.hid (HB0.out.trans (hb.mono HB0.out.size))
              have HPx := Lib.hid (HP.out.next hb)
              clear hb HB HB0 HP p0 f0 p1 f1 p2 f2 p3 f3 p4 f4 p5 f5 p6 f6 p7 f7 p8 f8 p9 f9 c0 c1 c2 c3 c4 c5 c6 c7 c8 c9
              have HB := HBx
              have HB0 := HB0x
              have HP := HPx
              clear HBx HB0x HPx
              have p0 := HP.out.at 0 _ rfl
              have f0 := HP.out.free 0
              have p1 := HP.out.at 1 _ rfl
              have f1 := HP.out.free 1
              have p2 := HP.out.at 2 _ rfl
              have f2 := HP.out.free 2
              have p3 := HP.out.at 3 _ rfl
              have f3 := HP.out.free 3
              have p4 := HP.out.at 4 _ rfl
              have f4 := HP.out.free 4
              have p5 := HP.out.at 5 _ rfl
              have f5 := HP.out.free 5
              have p6 := HP.out.at 6 _ rfl
              have f6 := HP.out.free 6
              have p7 := HP.out.at 7 _ rfl
              have f7 := HP.out.free 7
              have p8 := HP.out.at 8 _ rfl
              have f8 := HP.out.free 8
              have p9 := HP.out.at 9 _ rfl
              have f9 := HP.out.free 9
              obtain ⟨c0, c1, c2, c3, c4, c5, c6, c7, c8, c9⟩ := HSC.out.below hg HB0.out
              clear c0 c1 c2 c3 c4 c5 c6 c7 c8 c9
              go_wp2_with fail
              have HF := HP.out.st10 (.int .i64 d2) (.int .i64 y2) (.int .i64 v2) (.int .i64 n2) (.int .i64 o2) (.int .i64 t2) (.slice At2 lt2 ct2) (.slice Ah2 lh2 ch2) (.slice Ae2 le2 ce2) (.slice Ab2 lb2 cb2)
              have z0 := HF.at 0 _ rfl
              have z1 := HF.at 1 _ rfl
              have z2 := HF.at 2 _ rfl
              have z3 := HF.at 3 _ rfl
              have z4 := HF.at 4 _ rfl
              have z5 := HF.at 5 _ rfl
              have z6 := HF.at 6 _ rfl
              have z7 := HF.at 7 _ rfl
              have z8 := HF.at 8 _ rfl
              have z9 := HF.at 9 _ rfl
              refine bodyPost_ret (v := .tuple #[.agg #[.int .i64 d2, .int .i64 y2, .int .i64 v2, .int .i64 n2, .int .i64 o2, .int .i64 t2, .slice At2 lt2 ct2, .slice Ah2 lh2 ch2, .slice Ae2 le2 ce2, .slice Ab2 lb2 cb2], .bool true]) (by simp [results, Try.results32, go_sem, z0, z1, z2, z3, z4, z5, z6, z7, z8, z9]) rfl ?_
              exact ⟨_, ⟨rfl, HSV.out⟩, below_st10 HB.out (Nat.le_refl _) _ _ _ _ _ _ _ _ _ _⟩
            · have q3i : ¬ (j2 : Int) < (z3 : Int) := by omega
              obtain ⟨j3, hj3⟩ : ∃ j3, j2 = z3 + j3 := ⟨j2 - z3, by omega⟩
              have hw5 : IntKind.i64.wrap ((j2 : Int) - (z3 : Int)) = (j3 : Int) := by rw [IntWalk.i64_in _ (by omega)]; omega
              have HJ5 : Hid ((preL (ks.drop (k + 1)))[j3]? = some s) := Lib.hid (by have h1 := HJ3.out; rw [List.getElem?_append_right (by rw [preL_len, HZ3.out]; omega), preL_len, HZ3.out, hj3, Nat.add_sub_cancel_left] at h1; exact h1)
              have hj3m : j3 ≤ 1000000 := by omega
              clear HJ3 hj3
              go_wp2_with fail
              go_roundw
              case rel => exact ⟨k + 1, j3, by omega, by omega, rfl, by go_num, HJ5, HB, HB0, HP⟩
              case measure => simp [intOf]; omega
      · exfalso
        have h1 := HJ.out
        rw [List.drop_of_length_le (by rw [HL.out]; omega), preL] at h1
        cases h1
end Go.Proofs.Ytjpjmoejdkmglaa
