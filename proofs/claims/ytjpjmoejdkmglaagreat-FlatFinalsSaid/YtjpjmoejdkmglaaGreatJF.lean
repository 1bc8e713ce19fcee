/-
  The walks over size and Size.
  The walks over sameTerm and over the library's comparisons of lists of terms and of numbers.
  The walks over sameStep and over the library's comparison of lists of steps.
  The walk over Equal.
-/
import Derived.Test.YtjpjmoejdkmglaaGreatFlB
import Derived.Test.YtjpjmoejdkmglaaGreatFlEp
import Derived.Test.YtjpjmoejdkmglaaGreatFlO
import Derived.Laws.StructEq
namespace Go.Proofs.YtjpjmoejdkmglaaGreat
open Go.RowKit

set_option maxRecDepth 100000 in
set_option maxHeartbeats 4000000 in
theorem size_any (m : Nat) : ∀ (ks : List Sp) (l : Nat) (A : Option Addr) (c : Nat) (w : World) (r : Nat), ks.length = l → Sp.cntL ks ≤ m → Sp.cntL ks ≤ 1000000 → SOk w A c ks → Hid (sizeL ks = r) →
    Calls Tryz.prog 33 #[.slice A l c] w fun e w' => e = .returned (.int .i64 (r : Nat)) ∧ Below w.heap.size w w' := by
  induction m with
  | zero =>
    intro ks l A c w r hl hm hm' ht H
    have hk : ks = [] := by
      cases ks with
      | nil => rfl
      | cons k ks => have := Sp.cnt_pos k; simp only [Sp.cntL] at hm; omega
    subst hk
    have hl0 : l = 0 := hl.symm
    subst hl0
    have hr : r = 0 := by rw [← H.out, sizeL]
    subst hr
    clear ht H
    go_enter Tryz.func33, Tryz.ntmps33
    go_wp2_with fail
    go_loopw [3, 10] (fun u v wr => u = .int .i64 0 ∧ v = .int .i64 0 ∧ wr = w) (fun _ _ _ => 0)
    case atStart => exact ⟨rfl, rfl, rfl⟩
    case round =>
      obtain ⟨rfl, rfl, rfl⟩ := hrel
      go_wp2_with fail
      go_ret
      exact ⟨rfl, Below.refl _ _⟩
  | succ m ih =>
    intro ks l A c w r hl hm hm' ht H
    have IH := Lib.hid ih
    have HM := Lib.hid hm
    have HM' := Lib.hid hm'
    have HL := Lib.hid hl
    have HT := Lib.hid ht
    have hlm : l ≤ 1000000 := by have := Sp.len_cntL ks; omega
    have HRM : Hid (r ≤ 1000000) := Lib.hid (by rw [← H.out]; exact Nat.le_trans (sizeL_cnt ks) hm')
    have HS0 : Hid (l + sizeX (ks.drop 0) = r) := by show _ = _; rw [← H.out, List.drop_zero, sizeL_x, hl]
    clear ih hm hm' hl ht H
    go_enter Tryz.func33, Tryz.ntmps33
    go_wp2_with fail
    go_loopw [3, 10] (fun u v wr => ∃ k s : Nat, k ≤ l ∧ v = .int .i64 k ∧ u = .int .i64 (s : Nat) ∧ Hid (s + sizeX (ks.drop k) = r) ∧ Hid (Below w.heap.size w wr)) (fun _ v _ => l - (intOf v).toNat)
    case atStart => exact ⟨0, l, by omega, rfl, rfl, HS0, Lib.hid (Below.refl _ _)⟩
    case round =>
      clear HS0
      obtain ⟨k, s, hk, rfl, rfl, HS, HB⟩ := hrel
      by_cases hlt : k < l
      · have hkl : k < ks.length := by rw [HL.out]; exact hlt
        obtain ⟨d, x1, v, n, o, tn, tk, th, el, bs, g, f, At, ct, Ah, ch, Ae, ce, Ab, cb, hkid, hA, hg, hsc, htok, hth, hel, hbs⟩ := (HT.out.below HB.out).step k hkl
        subst hA
        obtain ⟨lt, hlt1⟩ : ∃ l, tk.length = l := ⟨_, rfl⟩
        obtain ⟨lh, hlh⟩ : ∃ l, th.length = l := ⟨_, rfl⟩
        obtain ⟨le, hle⟩ : ∃ l, el.length = l := ⟨_, rfl⟩
        obtain ⟨lb, hlb⟩ : ∃ l, bs.length = l := ⟨_, rfl⟩
        rw [hlt1, hlh, hle, hlb] at hsc
        rw [hlb] at hbs
        have hdr : ks.drop k = .mk d x1 v n (.mk o tn tk) th el bs :: ks.drop (k + 1) := by rw [List.drop_eq_getElem_cons hkl, hkid]
        have hcm : 1 + Tm.cnt (.mk o tn tk) + Sp.cntL th + Sp.cntL el ≤ m + 1 := by
          have := Sp.cntL_get ks k hkl
          rw [hkid] at this
          simp only [Sp.cnt] at this
          have := HM.out
          omega
        have HLT := Lib.hid hlt1
        have HLH := Lib.hid hlh
        have HLE := Lib.hid hle
        have HLB := Lib.hid hlb
        have HCM := Lib.hid hcm
        obtain ⟨c0, c1, c2, c3, c4, c5, c6, c7, c8, c9⟩ := hsc
        have hrm : r ≤ 1000000 := HRM.out
        obtain ⟨ra, hra⟩ : ∃ z, sizeL th = z := ⟨_, rfl⟩
        obtain ⟨rb, hrb⟩ : ∃ z, sizeL el = z := ⟨_, rfl⟩
        have HS2 : Hid (s + (ra + rb) + sizeX (ks.drop (k + 1)) = r) := by
          show _ = _
          have := HS.out
          rw [sizeX_drop hkl, hkid, sizeO, hra, hrb] at this
          omega
        have hs0 : s + (ra + rb) ≤ 1000000 := by have := HS2.out; omega
        have HRA := Lib.hid hra
        have HRB := Lib.hid hrb
        have HSM : Hid (Sp.cntL th ≤ 1000000 ∧ Sp.cntL el ≤ 1000000) := Lib.hid (by have := HM'.out; have := HM.out; have h3 := Sp.cntL_get ks k hkl; rw [hkid] at h3; simp only [Sp.cnt] at h3; omega)
        have hw1 : IntKind.i64.wrap ((ra : Int) + (rb : Int)) = ((ra + rb : Nat) : Int) := by rw [IntWalk.i64_in _ (by omega)]; omega
        have HW2 : Hid (Value.int .i64 (IntKind.i64.wrap ((s : Int) + ((ra : Int) + (rb : Int)))) = .int .i64 ((s + (ra + rb) : Nat) : Int)) := by show _ = _; rw [IntWalk.i64_in _ (by omega)]; congr 1 <;> omega
        have hlt' : (k : Int) < (l : Int) := by omega
        have HHH := Lib.hid hth
        have HHE := Lib.hid hel
        clear hkid hdr hcm hlt1 hlh hle hlb htok hth hel hbs hra hrb HS hs0
        have hba := (Below.refl wr.heap.size wr).alloc (Nat.le_refl _) (.cells #[.int .i64 d, .int .i64 x1, .int .i64 v, .int .i64 n, .int .i64 o, .int .i64 tn, .slice At lt ct, .slice Ah lh ch, .slice Ae le ce, .slice Ab lb cb] 56)
        have HBx := Lib.hid (HB.out.trans (hba.mono HB.out.size))
        have HHHx := Lib.hid (HHH.out.below hba)
        have HHEx := Lib.hid (HHE.out.below hba)
        have HN := Lib.hid (Cs.new wr #[.int .i64 d, .int .i64 x1, .int .i64 v, .int .i64 n, .int .i64 o, .int .i64 tn, .slice At lt ct, .slice Ah lh ch, .slice Ae le ce, .slice Ab lb cb] 56)
        clear hba HB HHH HHE
        have HB := HBx
        have HHH := HHHx
        have HHE := HHEx
        clear HBx HHHx HHEx
        go_upto_region 5 with fail
        obtain ⟨w4, hwn⟩ : ∃ w4, wr.alloc (.cells #[.int .i64 d, .int .i64 x1, .int .i64 v, .int .i64 n, .int .i64 o, .int .i64 tn, .slice At lt ct, .slice Ah lh ch, .slice Ae le ce, .slice Ab lb cb] 56) = w4 := ⟨_, rfl⟩
        obtain ⟨q, hqn⟩ : ∃ q, wr.heap.size = q := ⟨_, rfl⟩
        rw [hwn] at HN HB HHH HHE
        rw [hqn] at HN
        rw [hwn, hqn]
        clear hwn hqn c0 c1 c2 c3 c4 c5 c6 c7 c8 c9
        have KP : Hid (∀ W, Below w4.heap.size w4 W → (W.cell? ⟨q, 7, none⟩ = some (.slice Ah lh ch) ∧ W.cell? ⟨q, 8, none⟩ = some (.slice Ae le ce))) := fun W h => ⟨(HN.out.next h).at 7 _ rfl, (HN.out.next h).at 8 _ rfl⟩
        go_region_held3 (fun W => W.cell? ⟨q, 7, none⟩ = some (.slice Ah lh ch) ∧ W.cell? ⟨q, 8, none⟩ = some (.slice Ae le ce)) (first | exact KP.out _ (Below.refl _ _).drew | exact KP.out _ HD1.out | exact KP.out _ HD2.out) (first
          | (go_at_call 33; refine (IH.out el le Ae ce _ rb HLE.out (by have := HCM.out; omega) HSM.out.2 (HHE.out.below HD1.out) HRB).mono ?_; rintro e w6 ⟨rfl, hb2⟩; have HD2 := Lib.hid (HD1.out.trans (hb2.mono HD1.out.size)); clear hb2)
          | (go_at_call 33; refine (IH.out th lh Ah ch _ ra HLH.out (by have := HCM.out; omega) HSM.out.1 (HHH.out.below (Below.refl _ _).drew) HRA).mono ?_; rintro e w5 ⟨rfl, hb1⟩; have HD1 := Lib.hid ((Below.refl w4.heap.size w4).drew.trans (hb1.mono (Nat.le_refl _))); clear hb1))
        have HB6 := Lib.hid (HB.out.trans (HD2.out.mono HB.out.size))
        clear HD1 HD2 KP HN HB HHH HHE
        go_wp2_with fail
        go_roundw
        case rel => exact ⟨k + 1, s + (ra + rb), by omega, by go_num, HW2.out, HS2, HB6⟩
        case measure => simp [intOf]; omega
      · obtain rfl : k = l := by omega
        have hr : s = r := by rw [← HS.out, List.drop_of_length_le (by rw [HL.out]; exact Nat.le_refl _)]; rfl
        subst hr
        clear HS
        go_wp2_with fail
        go_ret
        exact ⟨rfl, HB.out⟩
theorem Size_b (Av : Option Addr) (lv cv : Nat) (Ag : Option Addr) (lg cg : Nat) (Ay : Option Addr) (ly cy : Nat) (ks : List Sp) (w : World) (hl : ks.length = ly) (hm : Sp.cntL ks ≤ 1000000) (hk : SOk w Ay cy ks) (r : Nat) (H : Hid (sizeL ks = r)) :
    Calls Tryz.prog 16 #[.agg #[.slice Av lv cv, .slice Ag lg cg, .slice Ay ly cy]] w fun e w' => e = .returned (.int .i64 (r : Nat)) ∧ Below w.heap.size w w' := by
  have hba := (Below.refl w.heap.size w).alloc (Nat.le_refl _) (.cells #[.slice Av lv cv, .slice Ag lg cg, .slice Ay ly cy] 26)
  have HB := Lib.hid hba
  have HK := Lib.hid (hk.below hba)
  have HL := Lib.hid hl
  have HM := Lib.hid hm
  clear hba hk hl hm
  go_enter Tryz.func16, Tryz.ntmps16
  go_wp2_with fail
  go_at_call 33
  refine (size_any (Sp.cntL ks) ks ly Ay cy _ r HL.out (Nat.le_refl _) HM.out HK.out H).mono ?_
  rintro e w2 ⟨rfl, hb⟩
  have HB2 := Lib.hid (HB.out.trans (hb.mono HB.out.size))
  clear hb HB HK
  go_wp2_with fail
  go_ret
  exact ⟨rfl, HB2.out⟩

set_option maxRecDepth 100000 in
set_option maxHeartbeats 8000000 in
theorem eqfT (m : Nat) (IH : Hid (∀ (o n : Int) (tk : List Tm) (lt : Nat) (At : Option Addr) (ct : Nat) (o' n' : Int) (tk' : List Tm) (lt' : Nat) (At' : Option Addr) (ct' : Nat) (w : World) (b : Bool), tk.length = lt → tk'.length = lt' → Tm.cnt (.mk o n tk) ≤ m → TOk w At ct tk → TOk w At' ct' tk' → Hid (eqT (.mk o n tk) (.mk o' n' tk') = b) → Calls Tryz.prog 35 #[.agg #[.int .i64 o, .int .i64 n, .slice At lt ct], .agg #[.int .i64 o', .int .i64 n', .slice At' lt' ct']] w fun e w' => e = .returned (.bool b) ∧ Below w.heap.size w w')) (ks ks' : List Tm) (l l' : Nat) (A A' : Option Addr) (c c' : Nat) (w : World) (b : Bool) (hl : ks.length = l) (hl' : ks'.length = l') (hm : Tm.cntL ks ≤ m) (ht : TOk w A c ks) (ht' : TOk w A' c' ks') (H : Hid (eqTL ks ks' = b)) :
    Calls Tryz.prog 68 #[.slice A l c, .slice A' l' c', .func (Fn.func 35) #[] #[]] w fun e w' => e = .returned (.bool b) ∧ Below w.heap.size w w' := by
  have HM := Lib.hid hm
  have HL := Lib.hid hl
  have HL' := Lib.hid hl'
  have HT := Lib.hid ht
  have HT' := Lib.hid ht'
  have hlm : l ≤ 9223372036854775807 := by have h1 := ht.1; have h2 := ht.2.1; unfold maxLen at h2; omega
  by_cases hll : l = l'
  case neg =>
    have hne : ((l : Int) != (l' : Int)) = true := bne_of (by omega)
    have hne2 : (l != l') = true := by simpa using hll
    have hb : b = false := by rw [← H.out]; exact eqTL_len (by rw [hl, hl']; exact hll)
    subst hb
    clear hm hl hl' ht ht' H hll
    go_enter Tryz.func68, Tryz.ntmps68
    go_wp2_with fail
    go_ret
    exact ⟨rfl, Below.refl _ _⟩
  subst hll
  clear hm hl hl' ht ht'
  go_enter Tryz.func68, Tryz.ntmps68
  go_wp2_with fail
  go_loopw [17] (fun v wr => ∃ k : Nat, k ≤ l ∧ v = .int .i64 k ∧ Hid (∀ (j : Nat) (h : j < ks.length) (h' : j < ks'.length), j < k → eqT ks[j] ks'[j] = true) ∧ Hid (Below w.heap.size w wr)) (fun v _ => l - (intOf v).toNat)
  case atStart => exact ⟨0, by omega, rfl, Lib.hid (fun j _ _ h => absurd h (by omega)), Lib.hid (Below.refl _ _)⟩
  case round =>
    obtain ⟨k, hk, rfl, HK, HB⟩ := hrel
    by_cases hlt : k < l
    · have hkl : k < ks.length := by rw [HL.out]; exact hlt
      have hkl' : k < ks'.length := by rw [HL'.out]; exact hlt
      obtain ⟨o, n, tk, g, f, At, ct, hkid, hA, hg, htok, c0, c1, c2⟩ := (HT.out.below HB.out).kid k hkl
      obtain ⟨o', n', tk', g', f', At', ct', hkid', hA', hg', htok', c0', c1', c2'⟩ := (HT'.out.below HB.out).kid k hkl'
      subst hA hA'
      obtain ⟨lt, hlt1⟩ : ∃ l, tk.length = l := ⟨_, rfl⟩
      obtain ⟨lt', hlt1'⟩ : ∃ l, tk'.length = l := ⟨_, rfl⟩
      rw [hlt1] at c2
      rw [hlt1'] at c2'
      have hcm : Tm.cnt (.mk o n tk) ≤ m := by have := Tm.cntL_get ks k hkl; rw [hkid] at this; have := HM.out; omega
      have HCM := Lib.hid hcm
      have HLT := Lib.hid hlt1
      have HLT' := Lib.hid hlt1'
      obtain ⟨b0, hb0⟩ : ∃ z, eqT ks[k] ks'[k] = z := ⟨_, rfl⟩
      have HB0 : Hid (eqT ks[k] ks'[k] = b0) := hb0
      rw [hkid, hkid'] at hb0
      have HBE := Lib.hid hb0
      have hlt' : (k : Int) < (l : Int) := by omega
      clear hb0
      have HK1 := Lib.hid htok
      have HK2 := Lib.hid htok'
      clear hkid hkid' htok htok' hlt1 hlt1' hcm
      have hba := (Below.refl wr.heap.size wr).alloc (Nat.le_refl _) (.cells #[.int .i64 o, .int .i64 n, .slice At lt ct] 53)
      have HBx := Lib.hid (HB.out.trans (hba.mono HB.out.size))
      have HK1x := Lib.hid (HK1.out.below hba)
      have HK2x := Lib.hid (HK2.out.below hba)
      have c0'x := (hba.cell (p := ⟨g', _, none⟩) hg').trans c0'
      have c1'x := (hba.cell (p := ⟨g', _, none⟩) hg').trans c1'
      have c2'x := (hba.cell (p := ⟨g', _, none⟩) hg').trans c2'
      have HN := Lib.hid (Cs.new wr #[.int .i64 o, .int .i64 n, .slice At lt ct] 53)
      clear hba HB HK1 HK2
      have HB := HBx
      have HK1 := HK1x
      have HK2 := HK2x
      clear HBx HK1x HK2x
      go_upto_region 6 with fail
      obtain ⟨w4, hwn⟩ : ∃ w4, wr.alloc (.cells #[.int .i64 o, .int .i64 n, .slice At lt ct] 53) = w4 := ⟨_, rfl⟩
      obtain ⟨q4, hqn⟩ : ∃ q4, wr.heap.size = q4 := ⟨_, rfl⟩
      rw [hwn] at HN HB HK1 HK2 c0'x c1'x c2'x
      rw [hqn] at HN
      rw [hwn, hqn]
      clear hwn hqn c0 c1 c2 c0' c1' c2'
      have hba := (Below.refl w4.heap.size w4).alloc (Nat.le_refl _) (.cells #[.int .i64 o', .int .i64 n', .slice At' lt' ct'] 53)
      have HBx := Lib.hid (HB.out.trans (hba.mono HB.out.size))
      have HK1x := Lib.hid (HK1.out.below hba)
      have HK2x := Lib.hid (HK2.out.below hba)
      have HNx := Lib.hid (HN.out.next hba)
      have HM2 := Lib.hid (Cs.new w4 #[.int .i64 o', .int .i64 n', .slice At' lt' ct'] 53)
      clear hba HB HK1 HK2 HN
      have HB := HBx
      have HK1 := HK1x
      have HK2 := HK2x
      have HN := HNx
      clear HBx HK1x HK2x HNx
      go_upto_region 7 with fail
      obtain ⟨w5, hwn⟩ : ∃ w5, w4.alloc (.cells #[.int .i64 o', .int .i64 n', .slice At' lt' ct'] 53) = w5 := ⟨_, rfl⟩
      obtain ⟨q5, hqn⟩ : ∃ q5, w4.heap.size = q5 := ⟨_, rfl⟩
      rw [hwn] at HM2 HB HK1 HK2 HN 
      rw [hqn] at HM2
      rw [hwn, hqn]
      clear hwn hqn c0'x c1'x c2'x
      have n0 := HN.out.at 0 _ rfl
      have m0 := HM2.out.at 0 _ rfl
      have n1 := HN.out.at 1 _ rfl
      have m1 := HM2.out.at 1 _ rfl
      have n2 := HN.out.at 2 _ rfl
      have m2 := HM2.out.at 2 _ rfl
      go_wp2_with fail
      go_at_call 35
      refine (IH.out o n tk lt At ct o' n' tk' lt' At' ct' _ b0 HLT.out HLT'.out HCM.out HK1.out HK2.out HBE).mono ?_
      rintro e w6 ⟨rfl, hb⟩
      have HB6 := Lib.hid (HB.out.trans (hb.mono HB.out.size))
      clear hb HB HN HM2 n0 m0 n1 m1 n2 m2
      cases b0 with
      | false =>
        have hb : b = false := by rw [← H.out]; exact eqTL_get hkl hkl' HB0.out
        subst hb
        clear H HK
        go_wp2_with fail
        go_ret
        exact ⟨rfl, HB6.out⟩
      | true =>
        have HK' : Hid (∀ (j : Nat) (h : j < ks.length) (h' : j < ks'.length), j < k + 1 → eqT ks[j] ks'[j] = true) := fun j h h' hj => by
          by_cases e : j = k
          · subst e; exact HB0.out
          · exact HK.out j h h' (by omega)
        clear HK
        go_wp2_with fail
        go_roundw
        case rel => exact ⟨k + 1, by omega, by go_num, HK', HB6⟩
        case measure => simp [intOf]; omega
    · obtain rfl : k = l := by omega
      have hb : b = true := by rw [← H.out]; exact eqTL_all (by rw [HL.out, HL'.out]) fun i h h' => HK.out i h h' (by rw [← HL.out]; exact h)
      subst hb
      clear H HK
      go_wp2_with fail
      go_ret
      exact ⟨rfl, HB.out⟩

set_option maxRecDepth 100000 in
set_option maxHeartbeats 4000000 in
theorem sameTerm_any (m : Nat) : (∀ (o n : Int) (tk : List Tm) (lt : Nat) (At : Option Addr) (ct : Nat) (o' n' : Int) (tk' : List Tm) (lt' : Nat) (At' : Option Addr) (ct' : Nat) (w : World) (b : Bool), tk.length = lt → tk'.length = lt' → Tm.cnt (.mk o n tk) ≤ m → TOk w At ct tk → TOk w At' ct' tk' → Hid (eqT (.mk o n tk) (.mk o' n' tk') = b) → Calls Tryz.prog 35 #[.agg #[.int .i64 o, .int .i64 n, .slice At lt ct], .agg #[.int .i64 o', .int .i64 n', .slice At' lt' ct']] w fun e w' => e = .returned (.bool b) ∧ Below w.heap.size w w') := by
  induction m with
  | zero => intro o n tk lt At ct o' n' tk' lt' At' ct' w b _ _ h; have := Tm.cnt_pos (.mk o n tk); omega
  | succ m ih =>
    intro o n tk lt At ct o' n' tk' lt' At' ct' w b hl hl' hm ht ht' H
    have IH := Lib.hid ih
    have hml : Tm.cntL tk ≤ m := by simp only [Tm.cnt] at hm; omega
    have HML := Lib.hid hml
    have HL := Lib.hid hl
    have HL' := Lib.hid hl'
    obtain ⟨bt, hbt⟩ : ∃ z, eqTL tk tk' = z := ⟨_, rfl⟩
    have HBT := Lib.hid hbt
    have hsum : ((o == o') && ((n == n') && bt)) = b := by rw [← H.out, eqT, hbt]
    have hb1 := (Below.refl w.heap.size w).alloc (Nat.le_refl _) (.cells #[.int .i64 o, .int .i64 n, .slice At lt ct] 53)
    have hb2 := hb1.alloc hb1.size (.cells #[.int .i64 o', .int .i64 n', .slice At' lt' ct'] 53)
    have HB := Lib.hid hb2
    have HN := Lib.hid ((Cs.new w #[.int .i64 o, .int .i64 n, .slice At lt ct] 53).alloc (.cells #[.int .i64 o', .int .i64 n', .slice At' lt' ct'] 53))
    have HM2 := Lib.hid (Cs.new1 w (.cells #[.int .i64 o, .int .i64 n, .slice At lt ct] 53) #[.int .i64 o', .int .i64 n', .slice At' lt' ct'] 53)
    have HK1 := Lib.hid (ht.below hb2)
    have HK2 := Lib.hid (ht'.below hb2)
    have HSUM := Lib.hid hsum
    clear ih hm hml hl hl' ht ht' H hb1 hb2 hbt hsum
    go_enter Tryz.func35, Tryz.ntmps35
    go_upto_region 1 with fail
    obtain ⟨w1, hw1⟩ : ∃ w1, (w.alloc (.cells #[.int .i64 o, .int .i64 n, .slice At lt ct] 53)).alloc (.cells #[.int .i64 o', .int .i64 n', .slice At' lt' ct'] 53) = w1 := ⟨_, rfl⟩
    rw [hw1] at HB HN HM2 HK1 HK2
    rw [hw1]
    clear hw1
    have n0 := HN.out.at 0 _ rfl
    have n1 := HN.out.at 1 _ rfl
    have n2 := HN.out.at 2 _ rfl
    have m0 := HM2.out.at 0 _ rfl
    have m1 := HM2.out.at 1 _ rfl
    have m2 := HM2.out.at 2 _ rfl
    by_cases e1 : o = o'
    case neg =>
      have eb := beq_of e1
      have hb : b = false := by rw [← HSUM.out, eb]; rfl
      subst hb
      clear HSUM e1
      go_wp2_with fail
      go_ret
      exact ⟨rfl, HB.out⟩
    subst e1
    by_cases e2 : n = n'
    case neg =>
      have eb := beq_of e2
      have hb : b = false := by rw [← HSUM.out, eb]; simp
      subst hb
      clear HSUM e2
      go_wp2_with fail
      go_ret
      exact ⟨rfl, HB.out⟩
    subst e2
    have hb : bt = b := by have := HSUM.out; simpa using this
    subst hb
    clear HSUM
    go_wp2_with fail
    go_at_call 68
    refine (eqfT m IH tk tk' lt lt' At At' ct ct' _ bt HL.out HL'.out HML.out HK1.out HK2.out HBT).mono ?_
    rintro e w2 ⟨rfl, hb⟩
    have HB6 := Lib.hid (HB.out.trans (hb.mono HB.out.size))
    clear hb
    go_wp2_with fail
    go_ret
    exact ⟨rfl, HB6.out⟩

theorem beqL_len {a b : List Int} (h : a.length ≠ b.length) : (a == b) = false := by
  rw [beq_eq_false_iff_ne]; exact fun e => h (by rw [e])
theorem beqL_get {a b : List Int} {i : Nat} (hf : a.getD i 0 ≠ b.getD i 0) : (a == b) = false := by
  rw [beq_eq_false_iff_ne]; exact fun e => hf (by rw [e])
theorem beqL_all {a b : List Int} (hl : a.length = b.length) (h : ∀ i, i < a.length → a.getD i 0 = b.getD i 0) : (a == b) = true := by
  rw [beq_iff_eq]
  refine List.ext_getElem hl fun i h1 h2 => ?_
  have := h i h1
  rwa [List.getD_eq_getElem?_getD, List.getD_eq_getElem?_getD, List.getElem?_eq_getElem h1, List.getElem?_eq_getElem h2] at this

set_option maxHeartbeats 4000000 in
theorem eqInts_b (bs bs' : List Int) (A A' : Option Addr) (l c l' c' : Nat) (b : Bool) (H : Hid ((bs == bs') = b)) (w : World) (hz : Zs w A l c bs) (hz' : Zs w A' l' c' bs') :
    Calls Tryz.prog 69 #[.slice A l c, .slice A' l' c'] w fun e w' => e = .returned (.bool b) ∧ Below w.heap.size w w' := by
  have HZ := Lib.hid hz
  have HZ' := Lib.hid hz'
  have HL := Lib.hid hz.len
  have HL' := Lib.hid hz'.len
  have hlm : l ≤ 9223372036854775807 := by have h1 := hz.cap; have h2 := hz.big; unfold maxLen at h2; omega
  by_cases hll : l = l'
  case neg =>
    have hne : ((l : Int) != (l' : Int)) = true := bne_of (by omega)
    have hne2 : (l != l') = true := by simpa using hll
    have hb : b = false := by rw [← H.out]; exact beqL_len (by rw [hz.len, hz'.len]; exact hll)
    subst hb
    clear hz hz' H hll
    go_enter Tryz.func69, Tryz.ntmps69
    go_wp2_with fail
    go_ret
    exact ⟨rfl, Below.refl _ _⟩
  subst hll
  clear hz hz'
  go_enter Tryz.func69, Tryz.ntmps69
  go_wp2_with fail
  go_loopw [13] (fun v wr => ∃ k : Nat, k ≤ l ∧ v = .int .i64 k ∧ Hid (∀ j, j < k → bs.getD j 0 = bs'.getD j 0) ∧ Hid (Below w.heap.size w wr)) (fun v _ => l - (intOf v).toNat)
  case atStart => exact ⟨0, by omega, rfl, Lib.hid (fun j h => absurd h (by omega)), Lib.hid (Below.refl _ _)⟩
  case round =>
    obtain ⟨k, hk, rfl, HK, HB⟩ := hrel
    by_cases hlt : k < l
    · obtain ⟨g, f, hA, hg, hc⟩ := (HZ.out.below HB.out).mem (by omega)
      obtain ⟨g', f', hA', hg', hc'⟩ := (HZ'.out.below HB.out).mem (by omega)
      subst hA hA'
      have hlt' : (k : Int) < (l : Int) := by omega
      have hk0 : (0 : Int) ≤ (k : Int) := by omega
      have ck := hc k hlt
      have ck' := hc' k hlt
      obtain ⟨x, hx⟩ : ∃ x, bs.getD k 0 = x := ⟨_, rfl⟩
      obtain ⟨x', hx'⟩ : ∃ x, bs'.getD k 0 = x := ⟨_, rfl⟩
      rw [hx] at ck
      rw [hx'] at ck'
      have HX := Lib.hid hx
      have HX' := Lib.hid hx'
      clear hc hc' hx hx'
      by_cases hxx : x = x'
      · subst hxx
        have HK' : Hid (∀ j, j < k + 1 → bs.getD j 0 = bs'.getD j 0) := fun j hj => by
          by_cases e : j = k
          · subst e; rw [HX.out, HX'.out]
          · exact HK.out j (by omega)
        clear HK
        go_wp2_with fail
        go_quiet (fail)
        go_wp2_with fail
        go_roundw
        case rel => exact ⟨k + 1, by omega, by go_num, HK', Lib.hid (below_drewN HB.out _)⟩
        case measure => simp [intOf]; omega
      · have hb : b = false := by rw [← H.out]; exact beqL_get (i := k) (by rw [HX.out, HX'.out]; exact hxx)
        subst hb
        have hne := bne_of hxx
        clear H HK hxx
        go_wp2_with fail
        go_quiet (fail)
        go_wp2_with fail
        go_ret
        exact ⟨rfl, below_drewN HB.out _⟩
    · obtain rfl : k = l := by omega
      have hb : b = true := by rw [← H.out]; exact beqL_all (by rw [HL.out, HL'.out]) fun i h => HK.out i (by rw [← HL.out]; exact h)
      subst hb
      clear H HK
      go_wp2_with fail
      go_ret
      exact ⟨rfl, HB.out⟩

set_option maxRecDepth 100000 in
set_option maxHeartbeats 8000000 in
theorem eqfS (m : Nat) (IH : Hid (∀ (d x1 v n o tn : Int) (tk : List Tm) (th el : List Sp) (bs : List Int) (At : Option Addr) (lt ct : Nat) (Ah : Option Addr) (lh ch : Nat) (Ae : Option Addr) (le ce : Nat) (Ab : Option Addr) (lb cb : Nat) (d' x1' v' n' o' tn' : Int) (tk' : List Tm) (th' el' : List Sp) (bs' : List Int) (At' : Option Addr) (lt' ct' : Nat) (Ah' : Option Addr) (lh' ch' : Nat) (Ae' : Option Addr) (le' ce' : Nat) (Ab' : Option Addr) (lb' cb' : Nat) (w : World) (b : Bool), tk.length = lt → th.length = lh → el.length = le → tk'.length = lt' → th'.length = lh' → el'.length = le' → Sp.cnt (.mk d x1 v n (.mk o tn tk) th el bs) ≤ m → TOk w At ct tk → SOk w Ah ch th → SOk w Ae ce el → Zs w Ab lb cb bs → TOk w At' ct' tk' → SOk w Ah' ch' th' → SOk w Ae' ce' el' → Zs w Ab' lb' cb' bs' → Hid (eqS (.mk d x1 v n (.mk o tn tk) th el bs) (.mk d' x1' v' n' (.mk o' tn' tk') th' el' bs') = b) → Calls Tryz.prog 39 #[.agg #[.int .i64 d, .int .i64 x1, .int .i64 v, .int .i64 n, .int .i64 o, .int .i64 tn, .slice At lt ct, .slice Ah lh ch, .slice Ae le ce, .slice Ab lb cb], .agg #[.int .i64 d', .int .i64 x1', .int .i64 v', .int .i64 n', .int .i64 o', .int .i64 tn', .slice At' lt' ct', .slice Ah' lh' ch', .slice Ae' le' ce', .slice Ab' lb' cb']] w fun e w' => e = .returned (.bool b) ∧ Below w.heap.size w w')) (ks ks' : List Sp) (l l' : Nat) (A A' : Option Addr) (c c' : Nat) (w : World) (b : Bool) (hl : ks.length = l) (hl' : ks'.length = l') (hm : Sp.cntL ks ≤ m) (ht : SOk w A c ks) (ht' : SOk w A' c' ks') (H : Hid (eqSL ks ks' = b)) :
    Calls Tryz.prog 38 #[.slice A l c, .slice A' l' c', .func (Fn.func 39) #[] #[]] w fun e w' => e = .returned (.bool b) ∧ Below w.heap.size w w' := by
  have HM := Lib.hid hm
  have HL := Lib.hid hl
  have HL' := Lib.hid hl'
  have HT := Lib.hid ht
  have HT' := Lib.hid ht'
  have hlm : l ≤ 9223372036854775807 := by have h1 := ht.1; have h2 := ht.2.1; unfold maxLen at h2; omega
  by_cases hll : l = l'
  case neg =>
    have hne : ((l : Int) != (l' : Int)) = true := bne_of (by omega)
    have hne2 : (l != l') = true := by simpa using hll
    have hb : b = false := by rw [← H.out]; exact eqSL_len (by rw [hl, hl']; exact hll)
    subst hb
    clear hm hl hl' ht ht' H hll
    go_enter Tryz.func38, Tryz.ntmps38
    go_wp2_with fail
    go_ret
    exact ⟨rfl, Below.refl _ _⟩
  subst hll
  clear hm hl hl' ht ht'
  go_enter Tryz.func38, Tryz.ntmps38
  go_wp2_with fail
  go_loopw [17] (fun v wr => ∃ k : Nat, k ≤ l ∧ v = .int .i64 k ∧ Hid (∀ (j : Nat) (h : j < ks.length) (h' : j < ks'.length), j < k → eqS ks[j] ks'[j] = true) ∧ Hid (Below w.heap.size w wr)) (fun v _ => l - (intOf v).toNat)
  case atStart => exact ⟨0, by omega, rfl, Lib.hid (fun j _ _ h => absurd h (by omega)), Lib.hid (Below.refl _ _)⟩
  case round =>
    obtain ⟨k, hk, rfl, HK, HB⟩ := hrel
    by_cases hlt : k < l
    · have hkl : k < ks.length := by rw [HL.out]; exact hlt
      have hkl' : k < ks'.length := by rw [HL'.out]; exact hlt
      obtain ⟨d, x1, v, n, o, tn, tk, th, el, bs, g, f, At, ct, Ah, ch, Ae, ce, Ab, cb, hkid, hA, hg, hsc, htok, hth, hel, hbs⟩ := (HT.out.below HB.out).step k hkl
      obtain ⟨d', x1', v', n', o', tn', tk', th', el', bs', g', f', At', ct', Ah', ch', Ae', ce', Ab', cb', hkid', hA', hg', hsc', htok', hth', hel', hbs'⟩ := (HT'.out.below HB.out).step k hkl'
      subst hA hA'
      obtain ⟨lt, hlt1⟩ : ∃ l, tk.length = l := ⟨_, rfl⟩
      obtain ⟨lh, hlh⟩ : ∃ l, th.length = l := ⟨_, rfl⟩
      obtain ⟨le, hle⟩ : ∃ l, el.length = l := ⟨_, rfl⟩
      obtain ⟨lb, hlb⟩ : ∃ l, bs.length = l := ⟨_, rfl⟩
      rw [hlt1, hlh, hle, hlb] at hsc
      rw [hlb] at hbs
      have HLT := Lib.hid hlt1
      have HLH := Lib.hid hlh
      have HLE := Lib.hid hle
      obtain ⟨c0, c1, c2, c3, c4, c5, c6, c7, c8, c9⟩ := hsc
      obtain ⟨lt', hlt1'⟩ : ∃ l, tk'.length = l := ⟨_, rfl⟩
      obtain ⟨lh', hlh'⟩ : ∃ l, th'.length = l := ⟨_, rfl⟩
      obtain ⟨le', hle'⟩ : ∃ l, el'.length = l := ⟨_, rfl⟩
      obtain ⟨lb', hlb'⟩ : ∃ l, bs'.length = l := ⟨_, rfl⟩
      rw [hlt1', hlh', hle', hlb'] at hsc'
      rw [hlb'] at hbs'
      have HLT' := Lib.hid hlt1'
      have HLH' := Lib.hid hlh'
      have HLE' := Lib.hid hle'
      obtain ⟨c0', c1', c2', c3', c4', c5', c6', c7', c8', c9'⟩ := hsc'
      have hcm : Sp.cnt (.mk d x1 v n (.mk o tn tk) th el bs) ≤ m := by have := Sp.cntL_get ks k hkl; rw [hkid] at this; have := HM.out; omega
      have HCM := Lib.hid hcm
      obtain ⟨b0, hb0⟩ : ∃ z, eqS ks[k] ks'[k] = z := ⟨_, rfl⟩
      have HB0 : Hid (eqS ks[k] ks'[k] = b0) := hb0
      rw [hkid, hkid'] at hb0
      have HBE := Lib.hid hb0
      have hlt' : (k : Int) < (l : Int) := by omega
      clear hb0
      have HK1 := Lib.hid htok
      have HK2 := Lib.hid hth
      have HK3 := Lib.hid hel
      have HK4 := Lib.hid hbs
      have HK5 := Lib.hid htok'
      have HK6 := Lib.hid hth'
      have HK7 := Lib.hid hel'
      have HK8 := Lib.hid hbs'
      clear hkid hkid' htok hth hel hbs htok' hth' hel' hbs' hlt1 hlh hle hlb hlt1' hlh' hle' hlb' hcm
      have hba := (Below.refl wr.heap.size wr).alloc (Nat.le_refl _) (.cells #[.int .i64 d, .int .i64 x1, .int .i64 v, .int .i64 n, .int .i64 o, .int .i64 tn, .slice At lt ct, .slice Ah lh ch, .slice Ae le ce, .slice Ab lb cb] 56)
      have HBx := Lib.hid (HB.out.trans (hba.mono HB.out.size))
      have HK1x := Lib.hid (HK1.out.below hba)
      have HK2x := Lib.hid (HK2.out.below hba)
      have HK3x := Lib.hid (HK3.out.below hba)
      have HK4x := Lib.hid (HK4.out.below hba)
      have HK5x := Lib.hid (HK5.out.below hba)
      have HK6x := Lib.hid (HK6.out.below hba)
      have HK7x := Lib.hid (HK7.out.below hba)
      have HK8x := Lib.hid (HK8.out.below hba)
      have c0'x := (hba.cell (p := ⟨g', _, none⟩) hg').trans c0'
      have c1'x := (hba.cell (p := ⟨g', _, none⟩) hg').trans c1'
      have c2'x := (hba.cell (p := ⟨g', _, none⟩) hg').trans c2'
      have c3'x := (hba.cell (p := ⟨g', _, none⟩) hg').trans c3'
      have c4'x := (hba.cell (p := ⟨g', _, none⟩) hg').trans c4'
      have c5'x := (hba.cell (p := ⟨g', _, none⟩) hg').trans c5'
      have c6'x := (hba.cell (p := ⟨g', _, none⟩) hg').trans c6'
      have c7'x := (hba.cell (p := ⟨g', _, none⟩) hg').trans c7'
      have c8'x := (hba.cell (p := ⟨g', _, none⟩) hg').trans c8'
      have c9'x := (hba.cell (p := ⟨g', _, none⟩) hg').trans c9'
      have HN := Lib.hid (Cs.new wr #[.int .i64 d, .int .i64 x1, .int .i64 v, .int .i64 n, .int .i64 o, .int .i64 tn, .slice At lt ct, .slice Ah lh ch, .slice Ae le ce, .slice Ab lb cb] 56)
      clear hba HB HK1 HK2 HK3 HK4 HK5 HK6 HK7 HK8
      have HB := HBx
      have HK1 := HK1x
      have HK2 := HK2x
      have HK3 := HK3x
      have HK4 := HK4x
      have HK5 := HK5x
      have HK6 := HK6x
      have HK7 := HK7x
      have HK8 := HK8x
      clear HBx HK1x HK2x HK3x HK4x HK5x HK6x HK7x HK8x
      go_upto_region 6 with fail
      obtain ⟨w4, hwn⟩ : ∃ w4, wr.alloc (.cells #[.int .i64 d, .int .i64 x1, .int .i64 v, .int .i64 n, .int .i64 o, .int .i64 tn, .slice At lt ct, .slice Ah lh ch, .slice Ae le ce, .slice Ab lb cb] 56) = w4 := ⟨_, rfl⟩
      obtain ⟨q4, hqn⟩ : ∃ q4, wr.heap.size = q4 := ⟨_, rfl⟩
      rw [hwn] at HN HB HK1 HK2 HK3 HK4 HK5 HK6 HK7 HK8 c0'x c1'x c2'x c3'x c4'x c5'x c6'x c7'x c8'x c9'x
      rw [hqn] at HN
      rw [hwn, hqn]
      clear hwn hqn c0 c1 c2 c3 c4 c5 c6 c7 c8 c9 c0' c1' c2' c3' c4' c5' c6' c7' c8' c9'
      have hba := (Below.refl w4.heap.size w4).alloc (Nat.le_refl _) (.cells #[.int .i64 d', .int .i64 x1', .int .i64 v', .int .i64 n', .int .i64 o', .int .i64 tn', .slice At' lt' ct', .slice Ah' lh' ch', .slice Ae' le' ce', .slice Ab' lb' cb'] 56)
      have HBx := Lib.hid (HB.out.trans (hba.mono HB.out.size))
      have HK1x := Lib.hid (HK1.out.below hba)
      have HK2x := Lib.hid (HK2.out.below hba)
      have HK3x := Lib.hid (HK3.out.below hba)
      have HK4x := Lib.hid (HK4.out.below hba)
      have HK5x := Lib.hid (HK5.out.below hba)
      have HK6x := Lib.hid (HK6.out.below hba)
      have HK7x := Lib.hid (HK7.out.below hba)
      have HK8x := Lib.hid (HK8.out.below hba)
      have HNx := Lib.hid (HN.out.next hba)
      have HM2 := Lib.hid (Cs.new w4 #[.int .i64 d', .int .i64 x1', .int .i64 v', .int .i64 n', .int .i64 o', .int .i64 tn', .slice At' lt' ct', .slice Ah' lh' ch', .slice Ae' le' ce', .slice Ab' lb' cb'] 56)
      clear hba HB HK1 HK2 HK3 HK4 HK5 HK6 HK7 HK8 HN
      have HB := HBx
      have HK1 := HK1x
      have HK2 := HK2x
      have HK3 := HK3x
      have HK4 := HK4x
      have HK5 := HK5x
      have HK6 := HK6x
      have HK7 := HK7x
      have HK8 := HK8x
      have HN := HNx
      clear HBx HK1x HK2x HK3x HK4x HK5x HK6x HK7x HK8x HNx
      go_upto_region 7 with fail
      obtain ⟨w5, hwn⟩ : ∃ w5, w4.alloc (.cells #[.int .i64 d', .int .i64 x1', .int .i64 v', .int .i64 n', .int .i64 o', .int .i64 tn', .slice At' lt' ct', .slice Ah' lh' ch', .slice Ae' le' ce', .slice Ab' lb' cb'] 56) = w5 := ⟨_, rfl⟩
      obtain ⟨q5, hqn⟩ : ∃ q5, w4.heap.size = q5 := ⟨_, rfl⟩
      rw [hwn] at HM2 HB HK1 HK2 HK3 HK4 HK5 HK6 HK7 HK8 HN 
      rw [hqn] at HM2
      rw [hwn, hqn]
      clear hwn hqn c0'x c1'x c2'x c3'x c4'x c5'x c6'x c7'x c8'x c9'x
      have n0 := HN.out.at 0 _ rfl
      have m0 := HM2.out.at 0 _ rfl
      have n1 := HN.out.at 1 _ rfl
      have m1 := HM2.out.at 1 _ rfl
      have n2 := HN.out.at 2 _ rfl
      have m2 := HM2.out.at 2 _ rfl
      have n3 := HN.out.at 3 _ rfl
      have m3 := HM2.out.at 3 _ rfl
      have n4 := HN.out.at 4 _ rfl
      have m4 := HM2.out.at 4 _ rfl
      have n5 := HN.out.at 5 _ rfl
      have m5 := HM2.out.at 5 _ rfl
      have n6 := HN.out.at 6 _ rfl
      have m6 := HM2.out.at 6 _ rfl
      have n7 := HN.out.at 7 _ rfl
      have m7 := HM2.out.at 7 _ rfl
      have n8 := HN.out.at 8 _ rfl
      have m8 := HM2.out.at 8 _ rfl
      have n9 := HN.out.at 9 _ rfl
      have m9 := HM2.out.at 9 _ rfl
      go_wp2_with fail
      go_at_call 39
      refine (IH.out d x1 v n o tn tk th el bs At lt ct Ah lh ch Ae le ce Ab lb cb d' x1' v' n' o' tn' tk' th' el' bs' At' lt' ct' Ah' lh' ch' Ae' le' ce' Ab' lb' cb' _ b0 HLT.out HLH.out HLE.out HLT'.out HLH'.out HLE'.out HCM.out HK1.out HK2.out HK3.out HK4.out HK5.out HK6.out HK7.out HK8.out HBE).mono ?_
      rintro e w6 ⟨rfl, hb⟩
      have HB6 := Lib.hid (HB.out.trans (hb.mono HB.out.size))
      clear hb HB HN HM2 n0 m0 n1 m1 n2 m2 n3 m3 n4 m4 n5 m5 n6 m6 n7 m7 n8 m8 n9 m9
      cases b0 with
      | false =>
        have hb : b = false := by rw [← H.out]; exact eqSL_get hkl hkl' HB0.out
        subst hb
        clear H HK
        go_wp2_with fail
        go_ret
        exact ⟨rfl, HB6.out⟩
      | true =>
        have HK' : Hid (∀ (j : Nat) (h : j < ks.length) (h' : j < ks'.length), j < k + 1 → eqS ks[j] ks'[j] = true) := fun j h h' hj => by
          by_cases e : j = k
          · subst e; exact HB0.out
          · exact HK.out j h h' (by omega)
        clear HK
        go_wp2_with fail
        go_roundw
        case rel => exact ⟨k + 1, by omega, by go_num, HK', HB6⟩
        case measure => simp [intOf]; omega
    · obtain rfl : k = l := by omega
      have hb : b = true := by rw [← H.out]; exact eqSL_all (by rw [HL.out, HL'.out]) fun i h h' => HK.out i h h' (by rw [← HL.out]; exact h)
      subst hb
      clear H HK
      go_wp2_with fail
      go_ret
      exact ⟨rfl, HB.out⟩

set_option maxRecDepth 100000 in
set_option maxHeartbeats 8000000 in
theorem sameStep_any (m : Nat) : (∀ (d x1 v n o tn : Int) (tk : List Tm) (th el : List Sp) (bs : List Int) (At : Option Addr) (lt ct : Nat) (Ah : Option Addr) (lh ch : Nat) (Ae : Option Addr) (le ce : Nat) (Ab : Option Addr) (lb cb : Nat) (d' x1' v' n' o' tn' : Int) (tk' : List Tm) (th' el' : List Sp) (bs' : List Int) (At' : Option Addr) (lt' ct' : Nat) (Ah' : Option Addr) (lh' ch' : Nat) (Ae' : Option Addr) (le' ce' : Nat) (Ab' : Option Addr) (lb' cb' : Nat) (w : World) (b : Bool), tk.length = lt → th.length = lh → el.length = le → tk'.length = lt' → th'.length = lh' → el'.length = le' → Sp.cnt (.mk d x1 v n (.mk o tn tk) th el bs) ≤ m → TOk w At ct tk → SOk w Ah ch th → SOk w Ae ce el → Zs w Ab lb cb bs → TOk w At' ct' tk' → SOk w Ah' ch' th' → SOk w Ae' ce' el' → Zs w Ab' lb' cb' bs' → Hid (eqS (.mk d x1 v n (.mk o tn tk) th el bs) (.mk d' x1' v' n' (.mk o' tn' tk') th' el' bs') = b) → Calls Tryz.prog 39 #[.agg #[.int .i64 d, .int .i64 x1, .int .i64 v, .int .i64 n, .int .i64 o, .int .i64 tn, .slice At lt ct, .slice Ah lh ch, .slice Ae le ce, .slice Ab lb cb], .agg #[.int .i64 d', .int .i64 x1', .int .i64 v', .int .i64 n', .int .i64 o', .int .i64 tn', .slice At' lt' ct', .slice Ah' lh' ch', .slice Ae' le' ce', .slice Ab' lb' cb']] w fun e w' => e = .returned (.bool b) ∧ Below w.heap.size w w') := by
  induction m with
  | zero => intro d x1 v n o tn tk th el bs At lt ct Ah lh ch Ae le ce Ab lb cb d' x1' v' n' o' tn' tk' th' el' bs' At' lt' ct' Ah' lh' ch' Ae' le' ce' Ab' lb' cb' w b _ _ _ _ _ _ h; have := Sp.cnt_pos (.mk d x1 v n (.mk o tn tk) th el bs); omega
  | succ m ih =>
    intro d x1 v n o tn tk th el bs At lt ct Ah lh ch Ae le ce Ab lb cb d' x1' v' n' o' tn' tk' th' el' bs' At' lt' ct' Ah' lh' ch' Ae' le' ce' Ab' lb' cb' w b hlt hlh hle hlt' hlh' hle' hm k1 k2 k3 k4 k5 k6 k7 k8 H
    have IH := Lib.hid ih
    have hml : Sp.cntL th ≤ m ∧ Sp.cntL el ≤ m := by simp only [Sp.cnt] at hm; omega
    have HCM := Lib.hid hml
    have HLT := Lib.hid hlt
    have HLH := Lib.hid hlh
    have HLE := Lib.hid hle
    have HLT' := Lib.hid hlt'
    have HLH' := Lib.hid hlh'
    have HLE' := Lib.hid hle'
    obtain ⟨bt, hbt⟩ : ∃ z, eqT (.mk o tn tk) (.mk o' tn' tk') = z := ⟨_, rfl⟩
    obtain ⟨bh, hbh⟩ : ∃ z, eqSL th th' = z := ⟨_, rfl⟩
    obtain ⟨be, hbe⟩ : ∃ z, eqSL el el' = z := ⟨_, rfl⟩
    obtain ⟨bz, hbz⟩ : ∃ z, (bs == bs') = z := ⟨_, rfl⟩
    have hsum : ((d == d') && ((x1 == x1') && ((v == v') && ((n == n') && (bt && (bh && (be && bz))))))) = b := by rw [← H.out, eqS, hbt, hbh, hbe, hbz]
    have HBT := Lib.hid hbt
    have HBH := Lib.hid hbh
    have HBE := Lib.hid hbe
    have HBZ := Lib.hid hbz
    have hb1 := (Below.refl w.heap.size w).alloc (Nat.le_refl _) (.cells #[.int .i64 d, .int .i64 x1, .int .i64 v, .int .i64 n, .int .i64 o, .int .i64 tn, .slice At lt ct, .slice Ah lh ch, .slice Ae le ce, .slice Ab lb cb] 56)
    have hb2 := hb1.alloc hb1.size (.cells #[.int .i64 d', .int .i64 x1', .int .i64 v', .int .i64 n', .int .i64 o', .int .i64 tn', .slice At' lt' ct', .slice Ah' lh' ch', .slice Ae' le' ce', .slice Ab' lb' cb'] 56)
    have HB := Lib.hid hb2
    have HN := Lib.hid ((Cs.new w #[.int .i64 d, .int .i64 x1, .int .i64 v, .int .i64 n, .int .i64 o, .int .i64 tn, .slice At lt ct, .slice Ah lh ch, .slice Ae le ce, .slice Ab lb cb] 56).alloc (.cells #[.int .i64 d', .int .i64 x1', .int .i64 v', .int .i64 n', .int .i64 o', .int .i64 tn', .slice At' lt' ct', .slice Ah' lh' ch', .slice Ae' le' ce', .slice Ab' lb' cb'] 56))
    have HM2 := Lib.hid (Cs.new1 w (.cells #[.int .i64 d, .int .i64 x1, .int .i64 v, .int .i64 n, .int .i64 o, .int .i64 tn, .slice At lt ct, .slice Ah lh ch, .slice Ae le ce, .slice Ab lb cb] 56) #[.int .i64 d', .int .i64 x1', .int .i64 v', .int .i64 n', .int .i64 o', .int .i64 tn', .slice At' lt' ct', .slice Ah' lh' ch', .slice Ae' le' ce', .slice Ab' lb' cb'] 56)
    have HK1 := Lib.hid (k1.below hb2)
    have HK2 := Lib.hid (k2.below hb2)
    have HK3 := Lib.hid (k3.below hb2)
    have HK4 := Lib.hid (k4.below hb2)
    have HK5 := Lib.hid (k5.below hb2)
    have HK6 := Lib.hid (k6.below hb2)
    have HK7 := Lib.hid (k7.below hb2)
    have HK8 := Lib.hid (k8.below hb2)
    have HSUM := Lib.hid hsum
    clear ih hm hml hlt hlh hle hlt' hlh' hle' k1 k2 k3 k4 k5 k6 k7 k8 H hb1 hb2 hbt hbh hbe hbz hsum
    go_enter Tryz.func39, Tryz.ntmps39
    go_upto_region 1 with fail
    obtain ⟨w1, hw1⟩ : ∃ w1, (w.alloc (.cells #[.int .i64 d, .int .i64 x1, .int .i64 v, .int .i64 n, .int .i64 o, .int .i64 tn, .slice At lt ct, .slice Ah lh ch, .slice Ae le ce, .slice Ab lb cb] 56)).alloc (.cells #[.int .i64 d', .int .i64 x1', .int .i64 v', .int .i64 n', .int .i64 o', .int .i64 tn', .slice At' lt' ct', .slice Ah' lh' ch', .slice Ae' le' ce', .slice Ab' lb' cb'] 56) = w1 := ⟨_, rfl⟩
    rw [hw1] at HB HN HM2 HK1 HK2 HK3 HK4 HK5 HK6 HK7 HK8
    rw [hw1]
    clear hw1
    have n0 := HN.out.at 0 _ rfl
    have m0 := HM2.out.at 0 _ rfl
    have n1 := HN.out.at 1 _ rfl
    have m1 := HM2.out.at 1 _ rfl
    have n2 := HN.out.at 2 _ rfl
    have m2 := HM2.out.at 2 _ rfl
    have n3 := HN.out.at 3 _ rfl
    have m3 := HM2.out.at 3 _ rfl
    have n4 := HN.out.at 4 _ rfl
    have m4 := HM2.out.at 4 _ rfl
    have n5 := HN.out.at 5 _ rfl
    have m5 := HM2.out.at 5 _ rfl
    have n6 := HN.out.at 6 _ rfl
    have m6 := HM2.out.at 6 _ rfl
    have n7 := HN.out.at 7 _ rfl
    have m7 := HM2.out.at 7 _ rfl
    have n8 := HN.out.at 8 _ rfl
    have m8 := HM2.out.at 8 _ rfl
    have n9 := HN.out.at 9 _ rfl
    have m9 := HM2.out.at 9 _ rfl
    by_cases e0 : d = d'
    case neg =>
      have eb := beq_of e0
      have hb : b = false := by rw [← HSUM.out, eb]; simp
      subst hb
      clear HSUM e0
      go_wp2_with fail
      go_ret
      exact ⟨rfl, HB.out⟩
    subst e0
    by_cases e1 : x1 = x1'
    case neg =>
      have eb := beq_of e1
      have hb : b = false := by rw [← HSUM.out, eb]; simp
      subst hb
      clear HSUM e1
      go_wp2_with fail
      go_ret
      exact ⟨rfl, HB.out⟩
    subst e1
    by_cases e2 : v = v'
    case neg =>
      have eb := beq_of e2
      have hb : b = false := by rw [← HSUM.out, eb]; simp
      subst hb
      clear HSUM e2
      go_wp2_with fail
      go_ret
      exact ⟨rfl, HB.out⟩
    subst e2
    by_cases e3 : n = n'
    case neg =>
      have eb := beq_of e3
      have hb : b = false := by rw [← HSUM.out, eb]; simp
      subst hb
      clear HSUM e3
      go_wp2_with fail
      go_ret
      exact ⟨rfl, HB.out⟩
    subst e3
    go_wp2_with fail
    go_at_call 35
    refine (sameTerm_any (Tm.cnt (.mk o tn tk)) o tn tk lt At ct o' tn' tk' lt' At' ct' _ bt HLT.out HLT'.out (Nat.le_refl _) HK1.out HK5.out HBT).mono ?_
    rintro e w2 ⟨rfl, hb⟩
    have HBx := Lib.hid (HB.out.trans (hb.mono HB.out.size))
    have HNx := Lib.hid (HN.out.next hb)
    have HM2x := Lib.hid (HM2.out.next hb)
    have HK1x := Lib.hid (HK1.out.below hb)
    have HK2x := Lib.hid (HK2.out.below hb)
    have HK3x := Lib.hid (HK3.out.below hb)
    have HK4x := Lib.hid (HK4.out.below hb)
    have HK5x := Lib.hid (HK5.out.below hb)
    have HK6x := Lib.hid (HK6.out.below hb)
    have HK7x := Lib.hid (HK7.out.below hb)
    have HK8x := Lib.hid (HK8.out.below hb)
    clear hb HB HN HM2 HK1 HK2 HK3 HK4 HK5 HK6 HK7 HK8 n0 m0 n1 m1 n2 m2 n3 m3 n4 m4 n5 m5 n6 m6 n7 m7 n8 m8 n9 m9
    have HB := HBx
    have HN := HNx
    have HM2 := HM2x
    have HK1 := HK1x
    have HK2 := HK2x
    have HK3 := HK3x
    have HK4 := HK4x
    have HK5 := HK5x
    have HK6 := HK6x
    have HK7 := HK7x
    have HK8 := HK8x
    clear HBx HNx HM2x HK1x HK2x HK3x HK4x HK5x HK6x HK7x HK8x
    have n0 := HN.out.at 0 _ rfl
    have m0 := HM2.out.at 0 _ rfl
    have n1 := HN.out.at 1 _ rfl
    have m1 := HM2.out.at 1 _ rfl
    have n2 := HN.out.at 2 _ rfl
    have m2 := HM2.out.at 2 _ rfl
    have n3 := HN.out.at 3 _ rfl
    have m3 := HM2.out.at 3 _ rfl
    have n4 := HN.out.at 4 _ rfl
    have m4 := HM2.out.at 4 _ rfl
    have n5 := HN.out.at 5 _ rfl
    have m5 := HM2.out.at 5 _ rfl
    have n6 := HN.out.at 6 _ rfl
    have m6 := HM2.out.at 6 _ rfl
    have n7 := HN.out.at 7 _ rfl
    have m7 := HM2.out.at 7 _ rfl
    have n8 := HN.out.at 8 _ rfl
    have m8 := HM2.out.at 8 _ rfl
    have n9 := HN.out.at 9 _ rfl
    have m9 := HM2.out.at 9 _ rfl
    cases bt
    case false =>
      have hb : b = false := by rw [← HSUM.out]; simp
      subst hb
      clear HSUM 
      go_wp2_with fail
      go_ret
      exact ⟨rfl, HB.out⟩
    go_wp2_with fail
    go_at_call 38
    refine (eqfS m IH th th' lh lh' Ah Ah' ch ch' _ bh HLH.out HLH'.out HCM.out.1 HK2.out HK6.out HBH).mono ?_
    rintro e w3 ⟨rfl, hb⟩
    have HBx := Lib.hid (HB.out.trans (hb.mono HB.out.size))
    have HNx := Lib.hid (HN.out.next hb)
    have HM2x := Lib.hid (HM2.out.next hb)
    have HK1x := Lib.hid (HK1.out.below hb)
    have HK2x := Lib.hid (HK2.out.below hb)
    have HK3x := Lib.hid (HK3.out.below hb)
    have HK4x := Lib.hid (HK4.out.below hb)
    have HK5x := Lib.hid (HK5.out.below hb)
    have HK6x := Lib.hid (HK6.out.below hb)
    have HK7x := Lib.hid (HK7.out.below hb)
    have HK8x := Lib.hid (HK8.out.below hb)
    clear hb HB HN HM2 HK1 HK2 HK3 HK4 HK5 HK6 HK7 HK8 n0 m0 n1 m1 n2 m2 n3 m3 n4 m4 n5 m5 n6 m6 n7 m7 n8 m8 n9 m9
    have HB := HBx
    have HN := HNx
    have HM2 := HM2x
    have HK1 := HK1x
    have HK2 := HK2x
    have HK3 := HK3x
    have HK4 := HK4x
    have HK5 := HK5x
    have HK6 := HK6x
    have HK7 := HK7x
    have HK8 := HK8x
    clear HBx HNx HM2x HK1x HK2x HK3x HK4x HK5x HK6x HK7x HK8x
    have n0 := HN.out.at 0 _ rfl
    have m0 := HM2.out.at 0 _ rfl
    have n1 := HN.out.at 1 _ rfl
    have m1 := HM2.out.at 1 _ rfl
    have n2 := HN.out.at 2 _ rfl
    have m2 := HM2.out.at 2 _ rfl
    have n3 := HN.out.at 3 _ rfl
    have m3 := HM2.out.at 3 _ rfl
    have n4 := HN.out.at 4 _ rfl
    have m4 := HM2.out.at 4 _ rfl
    have n5 := HN.out.at 5 _ rfl
    have m5 := HM2.out.at 5 _ rfl
    have n6 := HN.out.at 6 _ rfl
    have m6 := HM2.out.at 6 _ rfl
    have n7 := HN.out.at 7 _ rfl
    have m7 := HM2.out.at 7 _ rfl
    have n8 := HN.out.at 8 _ rfl
    have m8 := HM2.out.at 8 _ rfl
    have n9 := HN.out.at 9 _ rfl
    have m9 := HM2.out.at 9 _ rfl
    cases bh
    case false =>
      have hb : b = false := by rw [← HSUM.out]; simp
      subst hb
      clear HSUM 
      go_wp2_with fail
      go_ret
      exact ⟨rfl, HB.out⟩
    go_wp2_with fail
    go_at_call 38
    refine (eqfS m IH el el' le le' Ae Ae' ce ce' _ be HLE.out HLE'.out HCM.out.2 HK3.out HK7.out HBE).mono ?_
    rintro e w4 ⟨rfl, hb⟩
    have HBx := Lib.hid (HB.out.trans (hb.mono HB.out.size))
    have HNx := Lib.hid (HN.out.next hb)
    have HM2x := Lib.hid (HM2.out.next hb)
    have HK1x := Lib.hid (HK1.out.below hb)
    have HK2x := Lib.hid (HK2.out.below hb)
    have HK3x := Lib.hid (HK3.out.below hb)
    have HK4x := Lib.hid (HK4.out.below hb)
    have HK5x := Lib.hid (HK5.out.below hb)
    have HK6x := Lib.hid (HK6.out.below hb)
    have HK7x := Lib.hid (HK7.out.below hb)
    have HK8x := Lib.hid (HK8.out.below hb)
    clear hb HB HN HM2 HK1 HK2 HK3 HK4 HK5 HK6 HK7 HK8 n0 m0 n1 m1 n2 m2 n3 m3 n4 m4 n5 m5 n6 m6 n7 m7 n8 m8 n9 m9
    have HB := HBx
    have HN := HNx
    have HM2 := HM2x
    have HK1 := HK1x
    have HK2 := HK2x
    have HK3 := HK3x
    have HK4 := HK4x
    have HK5 := HK5x
    have HK6 := HK6x
    have HK7 := HK7x
    have HK8 := HK8x
    clear HBx HNx HM2x HK1x HK2x HK3x HK4x HK5x HK6x HK7x HK8x
    have n0 := HN.out.at 0 _ rfl
    have m0 := HM2.out.at 0 _ rfl
    have n1 := HN.out.at 1 _ rfl
    have m1 := HM2.out.at 1 _ rfl
    have n2 := HN.out.at 2 _ rfl
    have m2 := HM2.out.at 2 _ rfl
    have n3 := HN.out.at 3 _ rfl
    have m3 := HM2.out.at 3 _ rfl
    have n4 := HN.out.at 4 _ rfl
    have m4 := HM2.out.at 4 _ rfl
    have n5 := HN.out.at 5 _ rfl
    have m5 := HM2.out.at 5 _ rfl
    have n6 := HN.out.at 6 _ rfl
    have m6 := HM2.out.at 6 _ rfl
    have n7 := HN.out.at 7 _ rfl
    have m7 := HM2.out.at 7 _ rfl
    have n8 := HN.out.at 8 _ rfl
    have m8 := HM2.out.at 8 _ rfl
    have n9 := HN.out.at 9 _ rfl
    have m9 := HM2.out.at 9 _ rfl
    cases be
    case false =>
      have hb : b = false := by rw [← HSUM.out]; simp
      subst hb
      clear HSUM 
      go_wp2_with fail
      go_ret
      exact ⟨rfl, HB.out⟩
    have hb : bz = b := by have := HSUM.out; simpa using this
    subst hb
    clear HSUM
    go_wp2_with fail
    go_at_call 69
    refine (eqInts_b bs bs' Ab Ab' lb cb lb' cb' bz HBZ _ HK4.out HK8.out).mono ?_
    rintro e w5 ⟨rfl, hb⟩
    have HB6 := Lib.hid (HB.out.trans (hb.mono HB.out.size))
    clear hb
    go_wp2_with fail
    go_ret
    exact ⟨rfl, HB6.out⟩

theorem varGuard : Tryz.prog.eqGuardType Tryz.prog.depth 48 = false := by kernel_rfl
theorem varHeld : Tryz.prog.stoodInHeld 48 = false := by kernel_rfl
set_option maxRecDepth 100000 in
set_option maxHeartbeats 4000000 in
theorem eqVars_b (vs vs' : List Vr) (A A' : Option Addr) (l c l' c' : Nat) (b : Bool) (H : Hid (eqB eqV vs vs' = b)) (w : World) (hz : VOk w A l c vs) (hz' : VOk w A' l' c' vs') :
    Calls Tryz.prog 36 #[.slice A l c, .slice A' l' c'] w fun e w' => e = .returned (.bool b) ∧ Below w.heap.size w w' := by
  have HZ := Lib.hid hz
  have HZ' := Lib.hid hz'
  have HL := Lib.hid hz.len
  have HL' := Lib.hid hz'.len
  have hlm : l ≤ 9223372036854775807 := by have h1 := hz.cap; have h2 := hz.big; unfold maxLen at h2; omega
  by_cases hll : l = l'
  case neg =>
    have hne : ((l : Int) != (l' : Int)) = true := bne_of (by omega)
    have hne2 : (l != l') = true := by simpa using hll
    have hb : b = false := by rw [← H.out]; exact eqB_len (by rw [hz.len, hz'.len]; exact hll)
    subst hb
    clear hz hz' H hll
    go_enter Tryz.func36, Tryz.ntmps36
    go_wp2_with fail
    go_ret
    exact ⟨rfl, Below.refl _ _⟩
  subst hll
  clear hz hz'
  go_enter Tryz.func36, Tryz.ntmps36
  go_wp2_with fail
  go_loopw [13] (fun v wr => ∃ k : Nat, k ≤ l ∧ v = .int .i64 k ∧ Hid (∀ (j : Nat) (x y : Vr), vs[j]? = some x → vs'[j]? = some y → j < k → eqV x y = true) ∧ Hid (Below w.heap.size w wr)) (fun v _ => l - (intOf v).toNat)
  case atStart => exact ⟨0, by omega, rfl, Lib.hid (fun j _ _ _ _ h => absurd h (by omega)), Lib.hid (Below.refl _ _)⟩
  case round =>
    obtain ⟨k, hk, rfl, HK, HB⟩ := hrel
    by_cases hlt : k < l
    · obtain ⟨nm, kd, lo, hi, ii, g, f, hx, hsz, hA, hg, c0, c1, c2, c3, c4⟩ := (HZ.out.below HB.out).at k hlt
      obtain ⟨nm2, kd2, lo2, hi2, ii2, g', f', hx', hsz', hA', hg', c0', c1', c2', c3', c4'⟩ := (HZ'.out.below HB.out).at k hlt
      subst hA hA'
      have HX := Lib.hid hx
      have HX' := Lib.hid hx'
      have hlt' : (k : Int) < (l : Int) := by omega
      have hk0 : (0 : Int) ≤ (k : Int) := by omega
      have hg1 := varGuard
      have hg2 := varHeld
      clear hx hx' hsz hsz'
      cases e0 : (nm.toList == nm2.toList) with
      | false =>
        have hf : eqV ⟨nm, kd, lo, hi, ii⟩ ⟨nm2, kd2, lo2, hi2, ii2⟩ = false := by unfold eqV; simp only [e0, Bool.false_and]
        have hb : b = false := by rw [← H.out]; exact eqB_get HX.out HX'.out hf
        subst hb
        clear H HK hf HX HX'
        go_wp2_with fail
        go_quiet (fail)
        go_wp2_with fail
        go_ret
        exact ⟨rfl, below_drewN HB.out _⟩
      | true =>
      cases e1 : (kd == kd2) with
      | false =>
        have hf : eqV ⟨nm, kd, lo, hi, ii⟩ ⟨nm2, kd2, lo2, hi2, ii2⟩ = false := by unfold eqV; simp only [e0, e1, Bool.true_and, Bool.false_and]
        have hb : b = false := by rw [← H.out]; exact eqB_get HX.out HX'.out hf
        subst hb
        clear H HK hf HX HX'
        go_wp2_with fail
        go_quiet (fail)
        go_wp2_with fail
        go_ret
        exact ⟨rfl, below_drewN HB.out _⟩
      | true =>
      cases e2 : (lo == lo2) with
      | false =>
        have hf : eqV ⟨nm, kd, lo, hi, ii⟩ ⟨nm2, kd2, lo2, hi2, ii2⟩ = false := by unfold eqV; simp only [e0, e1, e2, Bool.true_and, Bool.false_and]
        have hb : b = false := by rw [← H.out]; exact eqB_get HX.out HX'.out hf
        subst hb
        clear H HK hf HX HX'
        go_wp2_with fail
        go_quiet (fail)
        go_wp2_with fail
        go_ret
        exact ⟨rfl, below_drewN HB.out _⟩
      | true =>
      cases e3 : (hi == hi2) with
      | false =>
        have hf : eqV ⟨nm, kd, lo, hi, ii⟩ ⟨nm2, kd2, lo2, hi2, ii2⟩ = false := by unfold eqV; simp only [e0, e1, e2, e3, Bool.true_and, Bool.false_and]
        have hb : b = false := by rw [← H.out]; exact eqB_get HX.out HX'.out hf
        subst hb
        clear H HK hf HX HX'
        go_wp2_with fail
        go_quiet (fail)
        go_wp2_with fail
        go_ret
        exact ⟨rfl, below_drewN HB.out _⟩
      | true =>
      cases e4 : (ii == ii2) with
      | false =>
        have hf : eqV ⟨nm, kd, lo, hi, ii⟩ ⟨nm2, kd2, lo2, hi2, ii2⟩ = false := by unfold eqV; simp only [e0, e1, e2, e3, e4, Bool.true_and]
        have hb : b = false := by rw [← H.out]; exact eqB_get HX.out HX'.out hf
        subst hb
        clear H HK hf HX HX'
        go_wp2_with fail
        go_quiet (fail)
        go_wp2_with fail
        go_ret
        exact ⟨rfl, below_drewN HB.out _⟩
      | true =>
        have ht : eqV ⟨nm, kd, lo, hi, ii⟩ ⟨nm2, kd2, lo2, hi2, ii2⟩ = true := by unfold eqV; simp only [e0, e1, e2, e3, e4, Bool.true_and]
        have HT := Lib.hid ht
        have HK' : Hid (∀ (j : Nat) (x y : Vr), vs[j]? = some x → vs'[j]? = some y → j < k + 1 → eqV x y = true) := fun j x y h h' hj => by
          by_cases e : j = k
          · subst e; rw [HX.out] at h; rw [HX'.out] at h'; injection h with h; injection h' with h'; rw [← h, ← h']; exact HT.out
          · exact HK.out j x y h h' (by omega)
        clear HK ht
        go_wp2_with fail
        go_quiet (fail)
        go_wp2_with fail
        go_roundw
        case rel => exact ⟨k + 1, by omega, by go_num, HK', Lib.hid (below_drewN HB.out _)⟩
        case measure => simp [intOf]; omega
    · obtain rfl : k = l := by omega
      have hb : b = true := by rw [← H.out]; exact eqB_all (by rw [HL.out, HL'.out]) fun i x y h h' => HK.out i x y h h' (by rw [← HL.out]; exact (List.getElem?_eq_some_iff.1 h).1)
      subst hb
      clear H HK
      go_wp2_with fail
      go_ret
      exact ⟨rfl, HB.out⟩

set_option maxRecDepth 100000 in
set_option maxHeartbeats 4000000 in
theorem hsameE_b (s s' : ByteArray) (lo hi o n lo' hi' o' n' : Int) (tk tk' : List Tm) (At : Option Addr) (lt ct : Nat) (At' : Option Addr) (lt' ct' : Nat) (hlt : tk.length = lt) (hlt' : tk'.length = lt') (b : Bool) (H : Hid (eqH ⟨s, lo, hi, .mk o n tk⟩ ⟨s', lo', hi', .mk o' n' tk'⟩ = b)) (w : World) (ht : TOk w At ct tk) (ht' : TOk w At' ct' tk') :
    Calls Tryz.prog 34 #[.agg #[.string s, .int .i64 lo, .int .i64 hi, .int .i64 o, .int .i64 n, .slice At lt ct], .agg #[.string s', .int .i64 lo', .int .i64 hi', .int .i64 o', .int .i64 n', .slice At' lt' ct']] w fun e w' => e = .returned (.bool b) ∧ Below w.heap.size w w' := by
  obtain ⟨bt, hbt⟩ : ∃ z, eqT (.mk o n tk) (.mk o' n' tk') = z := ⟨_, rfl⟩
  have HBT := Lib.hid hbt
  have hsum : ((s.toList == s'.toList) && ((lo == lo') && ((hi == hi') && bt))) = b := by rw [← H.out, eqH, hbt]
  have HSUM := Lib.hid hsum
  have HL := Lib.hid hlt
  have HL' := Lib.hid hlt'
  have hb1 := (Below.refl w.heap.size w).alloc (Nat.le_refl _) (.cells #[.string s, .int .i64 lo, .int .i64 hi, .int .i64 o, .int .i64 n, .slice At lt ct] 62)
  have hb2 := hb1.alloc hb1.size (.cells #[.string s', .int .i64 lo', .int .i64 hi', .int .i64 o', .int .i64 n', .slice At' lt' ct'] 62)
  have HB := Lib.hid hb2
  have HN := Lib.hid ((Cs.new w #[.string s, .int .i64 lo, .int .i64 hi, .int .i64 o, .int .i64 n, .slice At lt ct] 62).alloc (.cells #[.string s', .int .i64 lo', .int .i64 hi', .int .i64 o', .int .i64 n', .slice At' lt' ct'] 62))
  have HM2 := Lib.hid (Cs.new1 w (.cells #[.string s, .int .i64 lo, .int .i64 hi, .int .i64 o, .int .i64 n, .slice At lt ct] 62) #[.string s', .int .i64 lo', .int .i64 hi', .int .i64 o', .int .i64 n', .slice At' lt' ct'] 62)
  have HK1 := Lib.hid (ht.below hb2)
  have HK2 := Lib.hid (ht'.below hb2)
  clear hlt hlt' ht ht' H hb1 hb2 hbt hsum
  go_enter Tryz.func34, Tryz.ntmps34
  go_upto_region 1 with fail
  obtain ⟨w1, hw1⟩ : ∃ w1, (w.alloc (.cells #[.string s, .int .i64 lo, .int .i64 hi, .int .i64 o, .int .i64 n, .slice At lt ct] 62)).alloc (.cells #[.string s', .int .i64 lo', .int .i64 hi', .int .i64 o', .int .i64 n', .slice At' lt' ct'] 62) = w1 := ⟨_, rfl⟩
  rw [hw1] at HB HN HM2 HK1 HK2
  rw [hw1]
  clear hw1
  have n0 := HN.out.at 0 _ rfl
  have m0 := HM2.out.at 0 _ rfl
  have n1 := HN.out.at 1 _ rfl
  have m1 := HM2.out.at 1 _ rfl
  have n2 := HN.out.at 2 _ rfl
  have m2 := HM2.out.at 2 _ rfl
  have n3 := HN.out.at 3 _ rfl
  have m3 := HM2.out.at 3 _ rfl
  have n4 := HN.out.at 4 _ rfl
  have m4 := HM2.out.at 4 _ rfl
  have n5 := HN.out.at 5 _ rfl
  have m5 := HM2.out.at 5 _ rfl
  cases e1 : (s.toList == s'.toList) with
  | false =>
    have hb : b = false := by rw [← HSUM.out, e1]; rfl
    subst hb
    clear HSUM
    go_wp2_with fail
    go_ret
    exact ⟨rfl, HB.out⟩
  | true =>
  by_cases e2 : lo = lo'
  case neg =>
    have eb := beq_of e2
    have hb : b = false := by rw [← HSUM.out, eb]; simp
    subst hb
    clear HSUM e2
    go_wp2_with fail
    go_ret
    exact ⟨rfl, HB.out⟩
  subst e2
  by_cases e3 : hi = hi'
  case neg =>
    have eb := beq_of e3
    have hb : b = false := by rw [← HSUM.out, eb]; simp
    subst hb
    clear HSUM e3
    go_wp2_with fail
    go_ret
    exact ⟨rfl, HB.out⟩
  subst e3
  have hb : bt = b := by have := HSUM.out; rw [e1] at this; simpa using this
  subst hb
  clear HSUM
  go_wp2_with fail
  go_at_call 35
  refine (sameTerm_any (Tm.cnt (.mk o n tk)) o n tk lt At ct o' n' tk' lt' At' ct' _ bt HL.out HL'.out (Nat.le_refl _) HK1.out HK2.out HBT).mono ?_
  rintro e w2 ⟨rfl, hb⟩
  have HB6 := Lib.hid (HB.out.trans (hb.mono HB.out.size))
  clear hb
  go_wp2_with fail
  go_ret
  exact ⟨rfl, HB6.out⟩

set_option maxRecDepth 100000 in
set_option maxHeartbeats 8000000 in
theorem eqfH (hs hs' : List Ht) (l l' : Nat) (A A' : Option Addr) (c c' : Nat) (w : World) (b : Bool) (ht : HOk w A l c hs) (ht' : HOk w A' l' c' hs') (H : Hid (eqB eqH hs hs' = b)) :
    Calls Tryz.prog 37 #[.slice A l c, .slice A' l' c', .func (Fn.func 34) #[] #[]] w fun e w' => e = .returned (.bool b) ∧ Below w.heap.size w w' := by
  have HL := Lib.hid ht.len
  have HL' := Lib.hid ht'.len
  have HT := Lib.hid ht
  have HT' := Lib.hid ht'
  have hlm : l ≤ 9223372036854775807 := by have h1 := ht.cap; have h2 := ht.big; unfold maxLen at h2; omega
  by_cases hll : l = l'
  case neg =>
    have hne : ((l : Int) != (l' : Int)) = true := bne_of (by omega)
    have hne2 : (l != l') = true := by simpa using hll
    have hb : b = false := by rw [← H.out]; exact eqB_len (by rw [ht.len, ht'.len]; exact hll)
    subst hb
    clear ht ht' H hll
    go_enter Tryz.func37, Tryz.ntmps37
    go_wp2_with fail
    go_ret
    exact ⟨rfl, Below.refl _ _⟩
  subst hll
  clear ht ht'
  go_enter Tryz.func37, Tryz.ntmps37
  go_wp2_with fail
  go_loopw [17] (fun v wr => ∃ k : Nat, k ≤ l ∧ v = .int .i64 k ∧ Hid (∀ (j : Nat) (x y : Ht), hs[j]? = some x → hs'[j]? = some y → j < k → eqH x y = true) ∧ Hid (Below w.heap.size w wr)) (fun v _ => l - (intOf v).toNat)
  case atStart => exact ⟨0, by omega, rfl, Lib.hid (fun j _ _ _ _ h => absurd h (by omega)), Lib.hid (Below.refl _ _)⟩
  case round =>
    obtain ⟨k, hk, rfl, HK, HB⟩ := hrel
    by_cases hlt : k < l
    · obtain ⟨s, lo, hi, o, n, tk, g, f, At, ct, hx, hsz, hA, hg, c0, c1, c2, c3, c4, c5, htk⟩ := (HT.out.below HB.out).at k hlt
      obtain ⟨s', lo', hi', o', n', tk', g', f', At', ct', hx', hsz', hA', hg', c0', c1', c2', c3', c4', c5', htk'⟩ := (HT'.out.below HB.out).at k hlt
      subst hA hA'
      obtain ⟨lt, hlt1⟩ : ∃ l, tk.length = l := ⟨_, rfl⟩
      obtain ⟨lt', hlt1'⟩ : ∃ l, tk'.length = l := ⟨_, rfl⟩
      rw [hlt1] at c5
      rw [hlt1'] at c5'
      have HLT := Lib.hid hlt1
      have HLT' := Lib.hid hlt1'
      have HX := Lib.hid hx
      have HX' := Lib.hid hx'
      obtain ⟨b0, hb0⟩ : ∃ z, eqH ⟨s, lo, hi, .mk o n tk⟩ ⟨s', lo', hi', .mk o' n' tk'⟩ = z := ⟨_, rfl⟩
      have HBE := Lib.hid hb0
      have hlt' : (k : Int) < (l : Int) := by omega
      have HK1 := Lib.hid htk
      have HK2 := Lib.hid htk'
      clear hb0 hx hx' hsz hsz' htk htk' hlt1 hlt1'
      have hba := (Below.refl wr.heap.size wr).alloc (Nat.le_refl _) (.cells #[.string s, .int .i64 lo, .int .i64 hi, .int .i64 o, .int .i64 n, .slice At lt ct] 62)
      have HBx := Lib.hid (HB.out.trans (hba.mono HB.out.size))
      have HK1x := Lib.hid (HK1.out.below hba)
      have HK2x := Lib.hid (HK2.out.below hba)
      have c0'x := (hba.cell (p := ⟨g', _, none⟩) hg').trans c0'
      have c1'x := (hba.cell (p := ⟨g', _, none⟩) hg').trans c1'
      have c2'x := (hba.cell (p := ⟨g', _, none⟩) hg').trans c2'
      have c3'x := (hba.cell (p := ⟨g', _, none⟩) hg').trans c3'
      have c4'x := (hba.cell (p := ⟨g', _, none⟩) hg').trans c4'
      have c5'x := (hba.cell (p := ⟨g', _, none⟩) hg').trans c5'
      have HN := Lib.hid (Cs.new wr #[.string s, .int .i64 lo, .int .i64 hi, .int .i64 o, .int .i64 n, .slice At lt ct] 62)
      clear hba HB HK1 HK2
      have HB := HBx
      have HK1 := HK1x
      have HK2 := HK2x
      clear HBx HK1x HK2x
      go_upto_region 6 with fail
      obtain ⟨w4, hwn⟩ : ∃ w4, wr.alloc (.cells #[.string s, .int .i64 lo, .int .i64 hi, .int .i64 o, .int .i64 n, .slice At lt ct] 62) = w4 := ⟨_, rfl⟩
      obtain ⟨q4, hqn⟩ : ∃ q4, wr.heap.size = q4 := ⟨_, rfl⟩
      rw [hwn] at HN HB HK1 HK2 c0'x c1'x c2'x c3'x c4'x c5'x
      rw [hqn] at HN
      rw [hwn, hqn]
      clear hwn hqn c0 c0' c1 c1' c2 c2' c3 c3' c4 c4' c5 c5'
      have hba := (Below.refl w4.heap.size w4).alloc (Nat.le_refl _) (.cells #[.string s', .int .i64 lo', .int .i64 hi', .int .i64 o', .int .i64 n', .slice At' lt' ct'] 62)
      have HBx := Lib.hid (HB.out.trans (hba.mono HB.out.size))
      have HK1x := Lib.hid (HK1.out.below hba)
      have HK2x := Lib.hid (HK2.out.below hba)
      have HNx := Lib.hid (HN.out.next hba)
      have HM2 := Lib.hid (Cs.new w4 #[.string s', .int .i64 lo', .int .i64 hi', .int .i64 o', .int .i64 n', .slice At' lt' ct'] 62)
      clear hba HB HK1 HK2 HN
      have HB := HBx
      have HK1 := HK1x
      have HK2 := HK2x
      have HN := HNx
      clear HBx HK1x HK2x HNx
      go_upto_region 7 with fail
      obtain ⟨w5, hwn⟩ : ∃ w5, w4.alloc (.cells #[.string s', .int .i64 lo', .int .i64 hi', .int .i64 o', .int .i64 n', .slice At' lt' ct'] 62) = w5 := ⟨_, rfl⟩
      obtain ⟨q5, hqn⟩ : ∃ q5, w4.heap.size = q5 := ⟨_, rfl⟩
      rw [hwn] at HM2 HB HK1 HK2 HN 
      rw [hqn] at HM2
      rw [hwn, hqn]
      clear hwn hqn c0'x c1'x c2'x c3'x c4'x c5'x
      have n0 := HN.out.at 0 _ rfl
      have m0 := HM2.out.at 0 _ rfl
      have n1 := HN.out.at 1 _ rfl
      have m1 := HM2.out.at 1 _ rfl
      have n2 := HN.out.at 2 _ rfl
      have m2 := HM2.out.at 2 _ rfl
      have n3 := HN.out.at 3 _ rfl
      have m3 := HM2.out.at 3 _ rfl
      have n4 := HN.out.at 4 _ rfl
      have m4 := HM2.out.at 4 _ rfl
      have n5 := HN.out.at 5 _ rfl
      have m5 := HM2.out.at 5 _ rfl
      go_wp2_with fail
      go_at_call 34
      refine (hsameE_b s s' lo hi o n lo' hi' o' n' tk tk' At lt ct At' lt' ct' HLT.out HLT'.out b0 HBE _ HK1.out HK2.out).mono ?_
      rintro e w6 ⟨rfl, hb⟩
      have HB6 := Lib.hid (HB.out.trans (hb.mono HB.out.size))
      clear hb HB HN HM2 n0 m0 n1 m1 n2 m2 n3 m3 n4 m4 n5 m5
      cases b0 with
      | false =>
        have hb : b = false := by rw [← H.out]; exact eqB_get HX.out HX'.out HBE.out
        subst hb
        clear H HK
        go_wp2_with fail
        go_ret
        exact ⟨rfl, HB6.out⟩
      | true =>
        have HK' : Hid (∀ (j : Nat) (x y : Ht), hs[j]? = some x → hs'[j]? = some y → j < k + 1 → eqH x y = true) := fun j x y h h' hj => by
          by_cases e : j = k
          · subst e; rw [HX.out] at h; rw [HX'.out] at h'; injection h with h; injection h' with h'; rw [← h, ← h']; exact HBE.out
          · exact HK.out j x y h h' (by omega)
        clear HK
        go_wp2_with fail
        go_roundw
        case rel => exact ⟨k + 1, by omega, by go_num, HK', HB6⟩
        case measure => simp [intOf]; omega
    · obtain rfl : k = l := by omega
      have hb : b = true := by rw [← H.out]; exact eqB_all (by rw [HL.out, HL'.out]) fun i x y h h' => HK.out i x y h h' (by rw [← HL.out]; exact (List.getElem?_eq_some_iff.1 h).1)
      subst hb
      clear H HK
      go_wp2_with fail
      go_ret
      exact ⟨rfl, HB.out⟩

/-- Are two programs equal? -/
def eqF (vs vs' : List Vr) (hs hs' : List Ht) (ks ks' : List Sp) : Bool := eqB eqV vs vs' && (eqB eqH hs hs' && eqSL ks ks')
set_option maxRecDepth 100000 in
set_option maxHeartbeats 4000000 in
theorem Equal_b (vs vs' : List Vr) (hs hs' : List Ht) (ks ks' : List Sp) (Av : Option Addr) (lv cv : Nat) (Ag : Option Addr) (lg cg : Nat) (Ay : Option Addr) (ly cy : Nat) (Av' : Option Addr) (lv' cv' : Nat) (Ag' : Option Addr) (lg' cg' : Nat) (Ay' : Option Addr) (ly' cy' : Nat) (w : World) (hv : VOk w Av lv cv vs) (hh : HOk w Ag lg cg hs) (hl : ks.length = ly) (hk : SOk w Ay cy ks) (hv' : VOk w Av' lv' cv' vs') (hh' : HOk w Ag' lg' cg' hs') (hl' : ks'.length = ly') (hk' : SOk w Ay' cy' ks') (b : Bool) (H : Hid (eqF vs vs' hs hs' ks ks' = b)) :
    Calls Tryz.prog 17 #[.agg #[.slice Av lv cv, .slice Ag lg cg, .slice Ay ly cy], .agg #[.slice Av' lv' cv', .slice Ag' lg' cg', .slice Ay' ly' cy']] w fun e w' => e = .returned (.bool b) ∧ Below w.heap.size w w' := by
  obtain ⟨b1, hb1⟩ : ∃ z, eqB eqV vs vs' = z := ⟨_, rfl⟩
  obtain ⟨b2, hb2⟩ : ∃ z, eqB eqH hs hs' = z := ⟨_, rfl⟩
  obtain ⟨b3, hb3⟩ : ∃ z, eqSL ks ks' = z := ⟨_, rfl⟩
  have HB1 := Lib.hid hb1
  have HB2 := Lib.hid hb2
  have HB3 := Lib.hid hb3
  have hsum : (b1 && (b2 && b3)) = b := by rw [← H.out, eqF, hb1, hb2, hb3]
  have HSUM := Lib.hid hsum
  have HL := Lib.hid hl
  have HL' := Lib.hid hl'
  have ha1 := (Below.refl w.heap.size w).alloc (Nat.le_refl _) (.cells #[.slice Av lv cv, .slice Ag lg cg, .slice Ay ly cy] 26)
  have ha2 := ha1.alloc ha1.size (.cells #[.slice Av' lv' cv', .slice Ag' lg' cg', .slice Ay' ly' cy'] 26)
  have HB := Lib.hid ha2
  have HN := Lib.hid ((Cs.new w #[.slice Av lv cv, .slice Ag lg cg, .slice Ay ly cy] 26).alloc (.cells #[.slice Av' lv' cv', .slice Ag' lg' cg', .slice Ay' ly' cy'] 26))
  have HM2 := Lib.hid (Cs.new1 w (.cells #[.slice Av lv cv, .slice Ag lg cg, .slice Ay ly cy] 26) #[.slice Av' lv' cv', .slice Ag' lg' cg', .slice Ay' ly' cy'] 26)
  have K1 := Lib.hid (hv.below ha2)
  have K2 := Lib.hid (hh.below ha2)
  have K3 := Lib.hid (hk.below ha2)
  have K4 := Lib.hid (hv'.below ha2)
  have K5 := Lib.hid (hh'.below ha2)
  have K6 := Lib.hid (hk'.below ha2)
  clear hl hl' hv hh hk hv' hh' hk' H hb1 hb2 hb3 hsum ha1 ha2
  go_enter Tryz.func17, Tryz.ntmps17
  go_upto_region 1 with fail
  obtain ⟨w1, hw1⟩ : ∃ w1, (w.alloc (.cells #[.slice Av lv cv, .slice Ag lg cg, .slice Ay ly cy] 26)).alloc (.cells #[.slice Av' lv' cv', .slice Ag' lg' cg', .slice Ay' ly' cy'] 26) = w1 := ⟨_, rfl⟩
  rw [hw1] at HB HN HM2 K1 K2 K3 K4 K5 K6
  rw [hw1]
  clear hw1
  have n0 := HN.out.at 0 _ rfl
  have m0 := HM2.out.at 0 _ rfl
  have n1 := HN.out.at 1 _ rfl
  have m1 := HM2.out.at 1 _ rfl
  have n2 := HN.out.at 2 _ rfl
  have m2 := HM2.out.at 2 _ rfl
  go_wp2_with fail
  go_at_call 36
  refine (eqVars_b vs vs' Av Av' lv cv lv' cv' b1 HB1 _ K1.out K4.out).mono ?_
  rintro e w2 ⟨rfl, hb⟩
  have HBx := Lib.hid (HB.out.trans (hb.mono HB.out.size))
  have HNx := Lib.hid (HN.out.next hb)
  have HM2x := Lib.hid (HM2.out.next hb)
  have K1x := Lib.hid (K1.out.below hb)
  have K2x := Lib.hid (K2.out.below hb)
  have K3x := Lib.hid (K3.out.below hb)
  have K4x := Lib.hid (K4.out.below hb)
  have K5x := Lib.hid (K5.out.below hb)
  have K6x := Lib.hid (K6.out.below hb)
  clear hb HB HN HM2 K1 K2 K3 K4 K5 K6 n0 n1 n2 m0 m1 m2
  have HB := HBx
  have HN := HNx
  have HM2 := HM2x
  have K1 := K1x
  have K2 := K2x
  have K3 := K3x
  have K4 := K4x
  have K5 := K5x
  have K6 := K6x
  clear HBx HNx HM2x K1x K2x K3x K4x K5x K6x
  have n0 := HN.out.at 0 _ rfl
  have m0 := HM2.out.at 0 _ rfl
  have n1 := HN.out.at 1 _ rfl
  have m1 := HM2.out.at 1 _ rfl
  have n2 := HN.out.at 2 _ rfl
  have m2 := HM2.out.at 2 _ rfl
  cases b1 with
  | false =>
    have hb : b = false := by rw [← HSUM.out]; rfl
    subst hb
    clear HSUM
    go_wp2_with fail
    go_ret
    exact ⟨rfl, HB.out⟩
  | true =>
  go_wp2_with fail
  go_at_call 37
  refine (eqfH hs hs' lg lg' Ag Ag' cg cg' _ b2 K2.out K5.out HB2).mono ?_
  rintro e w3 ⟨rfl, hb⟩
  have HBx := Lib.hid (HB.out.trans (hb.mono HB.out.size))
  have HNx := Lib.hid (HN.out.next hb)
  have HM2x := Lib.hid (HM2.out.next hb)
  have K1x := Lib.hid (K1.out.below hb)
  have K2x := Lib.hid (K2.out.below hb)
  have K3x := Lib.hid (K3.out.below hb)
  have K4x := Lib.hid (K4.out.below hb)
  have K5x := Lib.hid (K5.out.below hb)
  have K6x := Lib.hid (K6.out.below hb)
  clear hb HB HN HM2 K1 K2 K3 K4 K5 K6 n0 n1 n2 m0 m1 m2
  have HB := HBx
  have HN := HNx
  have HM2 := HM2x
  have K1 := K1x
  have K2 := K2x
  have K3 := K3x
  have K4 := K4x
  have K5 := K5x
  have K6 := K6x
  clear HBx HNx HM2x K1x K2x K3x K4x K5x K6x
  have n0 := HN.out.at 0 _ rfl
  have m0 := HM2.out.at 0 _ rfl
  have n1 := HN.out.at 1 _ rfl
  have m1 := HM2.out.at 1 _ rfl
  have n2 := HN.out.at 2 _ rfl
  have m2 := HM2.out.at 2 _ rfl
  cases b2 with
  | false =>
    have hb : b = false := by rw [← HSUM.out]; rfl
    subst hb
    clear HSUM
    go_wp2_with fail
    go_ret
    exact ⟨rfl, HB.out⟩
  | true =>
  have hb3 : b3 = b := by rw [← HSUM.out]; rfl
  subst hb3
  clear HSUM
  go_wp2_with fail
  go_at_call 38
  refine (eqfS (Sp.cntL ks) (Lib.hid (sameStep_any (Sp.cntL ks))) ks ks' ly ly' Ay Ay' cy cy' _ b3 HL.out HL'.out (Nat.le_refl _) K3.out K6.out HB3).mono ?_
  rintro e w4 ⟨rfl, hb⟩
  have HB6 := Lib.hid (HB.out.trans (hb.mono HB.out.size))
  clear hb
  go_wp2_with fail
  go_ret
  exact ⟨rfl, HB6.out⟩
end Go.Proofs.YtjpjmoejdkmglaaGreat
