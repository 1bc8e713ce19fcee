/-
  The walks over sameStep and over the library's comparison of lists of steps.
-/
import Derived.Test.YtjpjmoejdkmglaaFlMg
namespace Go.Proofs.Ytjpjmoejdkmglaa
open Go.RowKit

set_option maxRecDepth 100000 in
set_option maxHeartbeats 8000000 in
theorem eqfS (m : Nat) (IH : Hid (∀ (d x1 v n o tn : Int) (tk : List Tm) (th el : List Sp) (bs : List Int) (At : Option Addr) (lt ct : Nat) (Ah : Option Addr) (lh ch : Nat) (Ae : Option Addr) (le ce : Nat) (Ab : Option Addr) (lb cb : Nat) (d' x1' v' n' o' tn' : Int) (tk' : List Tm) (th' el' : List Sp) (bs' : List Int) (At' : Option Addr) (lt' ct' : Nat) (Ah' : Option Addr) (lh' ch' : Nat) (Ae' : Option Addr) (le' ce' : Nat) (Ab' : Option Addr) (lb' cb' : Nat) (w : World) (b : Bool), tk.length = lt → th.length = lh → el.length = le → tk'.length = lt' → th'.length = lh' → el'.length = le' → Sp.cnt (.mk d x1 v n (.mk o tn tk) th el bs) ≤ m → TOk w At ct tk → SOk w Ah ch th → SOk w Ae ce el → Zs w Ab lb cb bs → TOk w At' ct' tk' → SOk w Ah' ch' th' → SOk w Ae' ce' el' → Zs w Ab' lb' cb' bs' → Hid (eqS (.mk d x1 v n (.mk o tn tk) th el bs) (.mk d' x1' v' n' (.mk o' tn' tk') th' el' bs') = b) → Calls Try.prog 76 #[.agg #[.int .i64 d, .int .i64 x1, .int .i64 v, .int .i64 n, .int .i64 o, .int .i64 tn, .slice At lt ct, .slice Ah lh ch, .slice Ae le ce, .slice Ab lb cb], .agg #[.int .i64 d', .int .i64 x1', .int .i64 v', .int .i64 n', .int .i64 o', .int .i64 tn', .slice At' lt' ct', .slice Ah' lh' ch', .slice Ae' le' ce', .slice Ab' lb' cb']] w fun e w' => e = .returned (.bool b) ∧ Below w.heap.size w w')) (ks ks' : List Sp) (l l' : Nat) (A A' : Option Addr) (c c' : Nat) (w : World) (b : Bool) (hl : ks.length = l) (hl' : ks'.length = l') (hm : Sp.cntL ks ≤ m) (ht : SOk w A c ks) (ht' : SOk w A' c' ks') (H : Hid (eqSL ks ks' = b)) :
    Calls Try.prog 75 #[.slice A l c, .slice A' l' c', .func (Fn.func 76) #[] #[]] w fun e w' => e = .returned (.bool b) ∧ Below w.heap.size w w' := by
  have HM := Lib.hid hm
  have HL := Lib.hid hl
  have HL' := Lib.hid hl'
  have HT := Lib.hid ht
  have HT' := Lib.hid ht'
  have hlm : l ≤ 9223372036854775807 := by have h1 := ht.1; have h2 := ht.2.1; unfold maxLen at h2; omega
  by_cases hll : l = l'
  case neg =>
    have hne : ((l : Int) != (l' : Int)) = true := bne_of (by omega)
    have hne2 : (l != l') = true := by simpa using hll
    have hb : b = false := by rw [← H.out]; exact eqSL_len (by rw [hl, hl']; exact hll)
    subst hb
    clear hm hl hl' ht ht' H hll
    go_enter Try.func75, Try.ntmps75
    go_wp2_with fail
    go_ret
    exact ⟨rfl, Below.refl _ _⟩
  subst hll
  clear hm hl hl' ht ht'
  go_enter Try.func75, Try.ntmps75
  go_wp2_with fail
  go_loopw [17] (fun v wr => ∃ k : Nat, k ≤ l ∧ v = .int .i64 k ∧ Hid (∀ (j : Nat) (h : j < ks.length) (h' : j < ks'.length), j < k → eqS ks[j] ks'[j] = true) ∧ Hid (Below w.heap.size w wr)) (fun v _ => l - (intOf v).toNat)
  case atStart => exact ⟨0, by omega, rfl, Lib.hid (fun j _ _ h => absurd h (by omega)), Lib.hid (Below.refl _ _)⟩
  case round =>
    obtain ⟨k, hk, rfl, HK, HB⟩ := hrel
    by_cases hlt : k < l
    · have hkl : k < ks.length := by rw [HL.out]; exact hlt
      have hkl' : k < ks'.length := by rw [HL'.out]; exact hlt
      obtain ⟨d, x1, v, n, o, tn, tk, th, el, bs, g, f, At, ct, Ah, ch, Ae, ce, Ab, cb, hkid, hA, hg, hsc, htok, hth, hel, hbs⟩ := (HT.out.below HB.out).step k hkl
      obtain ⟨d', x1', v', n', o', tn', tk', th', el', bs', g', f', At', ct', Ah', ch', Ae', ce', Ab', cb', hkid', hA', hg', hsc', htok', hth', hel', hbs'⟩ := (HT'.out.below HB.out).step k hkl'
      subst hA hA'
      obtain ⟨lt, hlt1⟩ : ∃ l, tk.length = l := ⟨_, rfl⟩
      obtain ⟨lh, hlh⟩ : ∃ l, th.length = l := ⟨_, rfl⟩
      obtain ⟨le, hle⟩ : ∃ l, el.length = l := ⟨_, rfl⟩
      obtain ⟨lb, hlb⟩ : ∃ l, bs.length = l := ⟨_, rfl⟩
      rw [hlt1, hlh, hle, hlb] at hsc
      rw [hlb] at hbs
      have HLT := Lib.hid hlt1
      have HLH := Lib.hid hlh
      have HLE := Lib.hid hle
      obtain ⟨c0, c1, c2, c3, c4, c5, c6, c7, c8, c9⟩ := hsc
      obtain ⟨lt', hlt1'⟩ : ∃ l, tk'.length = l := ⟨_, rfl⟩
      obtain ⟨lh', hlh'⟩ : ∃ l, th'.length = l := ⟨_, rfl⟩
      obtain ⟨le', hle'⟩ : ∃ l, el'.length = l := ⟨_, rfl⟩
      obtain ⟨lb', hlb'⟩ : ∃ l, bs'.length = l := ⟨_, rfl⟩
      rw [hlt1', hlh', hle', hlb'] at hsc'
      rw [hlb'] at hbs'
      have HLT' := Lib.hid hlt1'
      have HLH' := Lib.hid hlh'
      have HLE' := Lib.hid hle'
      obtain ⟨c0', c1', c2', c3', c4', c5', c6', c7', c8', c9'⟩ := hsc'
      have hcm : Sp.cnt (.mk d x1 v n (.mk o tn tk) th el bs) ≤ m := by have := Sp.cntL_get ks k hkl; rw [hkid] at this; have := HM.out; omega
      have HCM := Lib.hid hcm
      obtain ⟨b0, hb0⟩ : ∃ z, eqS ks[k] ks'[k] = z := ⟨_, rfl⟩
      have HB0 : Hid (eqS ks[k] ks'[k] = b0) := hb0
      rw [hkid, hkid'] at hb0
      have HBE := Lib.hid hb0
      have hlt' : (k : Int) < (l : Int) := by omega
      clear hb0
      have HK1 := Lib.hid htok
      have HK2 := Lib.hid hth
      have HK3 := Lib.hid hel
      have HK4 := Lib.hid hbs
      have HK5 := Lib.hid htok'
      have HK6 := Lib.hid hth'
      have HK7 := Lib.hid hel'
      have HK8 := Lib.hid hbs'
      clear hkid hkid' htok hth hel hbs htok' hth' hel' hbs' hlt1 hlh hle hlb hlt1' hlh' hle' hlb' hcm
      have hba := (Below.refl wr.heap.size wr).alloc (Nat.le_refl _) (.cells #[.int .i64 d, .int .i64 x1, .int .i64 v, .int .i64 n, .int .i64 o, .int .i64 tn, .slice At lt ct, .slice Ah lh ch, .slice Ae le ce, .slice Ab lb cb] 53)
      have HBx := Lib.hid (HB.out.trans (hba.mono HB.out.size))
      have HK1x := Lib.hid (HK1.out.below hba)
      have HK2x := Lib.hid (HK2.out.below hba)
      have HK3x := Lib.hid (HK3.out.below hba)
      have HK4x := Lib.hid (HK4.out.below hba)
      have HK5x := Lib.hid (HK5.out.below hba)
      have HK6x := Lib.hid (HK6.out.below hba)
      have HK7x := Lib.hid (HK7.out.below hba)
      have HK8x := Lib.hid (HK8.out.below hba)
      have c0'x := (hba.cell (p := ⟨g', _, none⟩) hg').trans c0'
      have c1'x := (hba.cell (p := ⟨g', _, none⟩) hg').trans c1'
      have c2'x := (hba.cell (p := ⟨g', _, none⟩) hg').trans c2'
      have c3'x := (hba.cell (p := ⟨g', _, none⟩) hg').trans c3'
      have c4'x := (hba.cell (p := ⟨g', _, none⟩) hg').trans c4'
      have c5'x := (hba.cell (p := ⟨g', _, none⟩) hg').trans c5'
      have c6'x := (hba.cell (p := ⟨g', _, none⟩) hg').trans c6'
      have c7'x := (hba.cell (p := ⟨g', _, none⟩) hg').trans c7'
      have c8'x := (hba.cell (p := ⟨g', _, none⟩) hg').trans c8'
      have c9'x := (hba.cell (p := ⟨g', _, none⟩) hg').trans c9'
      have HN := Lib.hid (Cs.new wr #[.int .i64 d, .int .i64 x1, .int .i64 v, .int .i64 n, .int .i64 o, .int .i64 tn, .slice At lt ct, .slice Ah lh ch, .slice Ae le ce, .slice Ab lb cb] 53)
      clear hba HB HK1 HK2 HK3 HK4 HK5 HK6 HK7 HK8
      have HB := HBx
      have HK1 := HK1x
      have HK2 := HK2x
      have HK3 := HK3x
      have HK4 := HK4x
      have HK5 := HK5x
      have HK6 := HK6x
      have HK7 := HK7x
      have HK8 := HK8x
      clear HBx HK1x HK2x HK3x HK4x HK5x HK6x HK7x HK8x
      go_upto_region 6 with fail
      obtain ⟨w4, hwn⟩ : ∃ w4, wr.alloc (.cells #[.int .i64 d, .int .i64 x1, .int .i64 v, .int .i64 n, .int .i64 o, .int .i64 tn, .slice At lt ct, .slice Ah lh ch, .slice Ae le ce, .slice Ab lb cb] 53) = w4 := ⟨_, rfl⟩
      obtain ⟨q4, hqn⟩ : ∃ q4, wr.heap.size = q4 := ⟨_, rfl⟩
      rw [hwn] at HN HB HK1 HK2 HK3 HK4 HK5 HK6 HK7 HK8 c0'x c1'x c2'x c3'x c4'x c5'x c6'x c7'x c8'x c9'x
      rw [hqn] at HN
      rw [hwn, hqn]
      clear hwn hqn c0 c1 c2 c3 c4 c5 c6 c7 c8 c9 c0' c1' c2' c3' c4' c5' c6' c7' c8' c9'
      have hba := (Below.refl w4.heap.size w4).alloc (Nat.le_refl _) (.cells #[.int .i64 d', .int .i64 x1', .int .i64 v', .int .i64 n', .int .i64 o', .int .i64 tn', .slice At' lt' ct', .slice Ah' lh' ch', .slice Ae' le' ce', .slice Ab' lb' cb'] 53)
      have HBx := Lib.hid (HB.out.trans (hba.mono HB.out.size))
      have HK1x := Lib.hid (HK1.out.below hba)
      have HK2x := Lib.hid (HK2.out.below hba)
      have HK3x := Lib.hid (HK3.out.below hba)
      have HK4x := Lib.hid (HK4.out.below hba)
      have HK5x := Lib.hid (HK5.out.below hba)
      have HK6x := Lib.hid (HK6.out.below hba)
      have HK7x := Lib.hid (HK7.out.below hba)
      have HK8x := Lib.hid (HK8.out.below hba)
      have HNx := Lib.hid (HN.out.next hba)
      have HM2 := Lib.hid (Cs.new w4 #[.int .i64 d', .int .i64 x1', .int .i64 v', .int .i64 n', .int .i64 o', .int .i64 tn', .slice At' lt' ct', .slice Ah' lh' ch', .slice Ae' le' ce', .slice Ab' lb' cb'] 53)
      clear hba HB HK1 HK2 HK3 HK4 HK5 HK6 HK7 HK8 HN
      have HB := HBx
      have HK1 := HK1x
      have HK2 := HK2x
      have HK3 := HK3x
      have HK4 := HK4x
      have HK5 := HK5x
      have HK6 := HK6x
      have HK7 := HK7x
      have HK8 := HK8x
      have HN := HNx
      clear HBx HK1x HK2x HK3x HK4x HK5x HK6x HK7x HK8x HNx
      go_upto_region 7 with fail
      obtain ⟨w5, hwn⟩ : ∃ w5, w4.alloc (.cells #[.int .i64 d', .int .i64 x1', .int .i64 v', .int .i64 n', .int .i64 o', .int .i64 tn', .slice At' lt' ct', .slice Ah' lh' ch', .slice Ae' le' ce', .slice Ab' lb' cb'] 53) = w5 := ⟨_, rfl⟩
      obtain ⟨q5, hqn⟩ : ∃ q5, w4.heap.size = q5 := ⟨_, rfl⟩
      rw [hwn] at HM2 HB HK1 HK2 HK3 HK4 HK5 HK6 HK7 HK8 HN 
      rw [hqn] at HM2
      rw [hwn, hqn]
      clear hwn hqn c0'x c1'x c2'x c3'x c4'x c5'x c6'x c7'x c8'x c9'x
      have n0 := HN.out.at 0 _ rfl
      have m0 := HM2.out.at 0 _ rfl
      have n1 := HN.out.at 1 _ rfl
      have m1 := HM2.out.at 1 _ rfl
      have n2 := HN.out.at 2 _ rfl
      have m2 := HM2.out.at 2 _ rfl
      have n3 := HN.out.at 3 _ rfl
      have m3 := HM2.out.at 3 _ rfl
      have n4 := HN.out.at 4 _ rfl
      have m4 := HM2.out.at 4 _ rfl
      have n5 := HN.out.at 5 _ rfl
      have m5 := HM2.out.at 5 _ rfl
      have n6 := HN.out.at 6 _ rfl
      have m6 := HM2.out.at 6 _ rfl
      have n7 := HN.out.at 7 _ rfl
      have m7 := HM2.out.at 7 _ rfl
      have n8 := HN.out.at 8 _ rfl
      have m8 := HM2.out.at 8 _ rfl
      have n9 := HN.out.at 9 _ rfl
      have m9 := HM2.out.at 9 _ rfl
      go_wp2_with fail
      go_at_call 76
      refine (IH.out d x1 v n o tn tk th el bs At lt ct Ah lh ch Ae le ce Ab lb cb d' x1' v' n' o' tn' tk' th' el' bs' At' lt' ct' Ah' lh' ch' Ae' le' ce' Ab' lb' cb' _ b0 HLT.out HLH.out HLE.out HLT'.out HLH'.out HLE'.out HCM.out HK1.out HK2.out HK3.out HK4.out HK5.out HK6.out HK7.out HK8.out HBE).mono ?_
      rintro e w6 ⟨rfl, hb⟩
      have HB6 := Lib.hid (HB.out.trans (hb.mono HB.out.size))
      clear hb HB HN HM2 n0 m0 n1 m1 n2 m2 n3 m3 n4 m4 n5 m5 n6 m6 n7 m7 n8 m8 n9 m9
      cases b0 with
      | false =>
        have hb : b = false := by rw [← H.out]; exact eqSL_get hkl hkl' HB0.out
        subst hb
        clear H HK
        go_wp2_with fail
        go_ret
        exact ⟨rfl, HB6.out⟩
      | true =>
        have HK' : Hid (∀ (j : Nat) (h : j < ks.length) (h' : j < ks'.length), j < k + 1 → eqS ks[j] ks'[j] = true) := fun j h h' hj => by
          by_cases e : j = k
          · subst e; exact HB0.out
          · exact HK.out j h h' (by omega)
        clear HK
        go_wp2_with fail
        go_roundw
        case rel => exact ⟨k + 1, by omega, by go_num, HK', HB6⟩
        case measure => simp [intOf]; omega
    · obtain rfl : k = l := by omega
      have hb : b = true := by rw [← H.out]; exact eqSL_all (by rw [HL.out, HL'.out]) fun i h h' => HK.out i h h' (by rw [← HL.out]; exact h)
      subst hb
      clear H HK
      go_wp2_with fail
      go_ret
      exact ⟨rfl, HB.out⟩

set_option maxRecDepth 100000 in
set_option maxHeartbeats 8000000 in
theorem sameStep_any (m : Nat) : (∀ (d x1 v n o tn : Int) (tk : List Tm) (th el : List Sp) (bs : List Int) (At : Option Addr) (lt ct : Nat) (Ah : Option Addr) (lh ch : Nat) (Ae : Option Addr) (le ce : Nat) (Ab : Option Addr) (lb cb : Nat) (d' x1' v' n' o' tn' : Int) (tk' : List Tm) (th' el' : List Sp) (bs' : List Int) (At' : Option Addr) (lt' ct' : Nat) (Ah' : Option Addr) (lh' ch' : Nat) (Ae' : Option Addr) (le' ce' : Nat) (Ab' : Option Addr) (lb' cb' : Nat) (w : World) (b : Bool), tk.length = lt → th.length = lh → el.length = le → tk'.length = lt' → th'.length = lh' → el'.length = le' → Sp.cnt (.mk d x1 v n (.mk o tn tk) th el bs) ≤ m → TOk w At ct tk → SOk w Ah ch th → SOk w Ae ce el → Zs w Ab lb cb bs → TOk w At' ct' tk' → SOk w Ah' ch' th' → SOk w Ae' ce' el' → Zs w Ab' lb' cb' bs' → Hid (eqS (.mk d x1 v n (.mk o tn tk) th el bs) (.mk d' x1' v' n' (.mk o' tn' tk') th' el' bs') = b) → Calls Try.prog 76 #[.agg #[.int .i64 d, .int .i64 x1, .int .i64 v, .int .i64 n, .int .i64 o, .int .i64 tn, .slice At lt ct, .slice Ah lh ch, .slice Ae le ce, .slice Ab lb cb], .agg #[.int .i64 d', .int .i64 x1', .int .i64 v', .int .i64 n', .int .i64 o', .int .i64 tn', .slice At' lt' ct', .slice Ah' lh' ch', .slice Ae' le' ce', .slice Ab' lb' cb']] w fun e w' => e = .returned (.bool b) ∧ Below w.heap.size w w') := by
  induction m with
  | zero => intro d x1 v n o tn tk th el bs At lt ct Ah lh ch Ae le ce Ab lb cb d' x1' v' n' o' tn' tk' th' el' bs' At' lt' ct' Ah' lh' ch' Ae' le' ce' Ab' lb' cb' w b _ _ _ _ _ _ h; have := Sp.cnt_pos (.mk d x1 v n (.mk o tn tk) th el bs); omega
  | succ m ih =>
    intro d x1 v n o tn tk th el bs At lt ct Ah lh ch Ae le ce Ab lb cb d' x1' v' n' o' tn' tk' th' el' bs' At' lt' ct' Ah' lh' ch' Ae' le' ce' Ab' lb' cb' w b hlt hlh hle hlt' hlh' hle' hm k1 k2 k3 k4 k5 k6 k7 k8 H
    have IH := Lib.hid ih
    have hml : Sp.cntL th ≤ m ∧ Sp.cntL el ≤ m := by simp only [Sp.cnt] at hm; omega
    have HCM := Lib.hid hml
    have HLT := Lib.hid hlt
    have HLH := Lib.hid hlh
    have HLE := Lib.hid hle
    have HLT' := Lib.hid hlt'
    have HLH' := Lib.hid hlh'
    have HLE' := Lib.hid hle'
    obtain ⟨bt, hbt⟩ : ∃ z, eqT (.mk o tn tk) (.mk o' tn' tk') = z := ⟨_, rfl⟩
    obtain ⟨bh, hbh⟩ : ∃ z, eqSL th th' = z := ⟨_, rfl⟩
    obtain ⟨be, hbe⟩ : ∃ z, eqSL el el' = z := ⟨_, rfl⟩
    obtain ⟨bz, hbz⟩ : ∃ z, (bs == bs') = z := ⟨_, rfl⟩
    have hsum : ((d == d') && ((x1 == x1') && ((v == v') && ((n == n') && (bt && (bh && (be && bz))))))) = b := by rw [← H.out, eqS, hbt, hbh, hbe, hbz]
    have HBT := Lib.hid hbt
    have HBH := Lib.hid hbh
    have HBE := Lib.hid hbe
    have HBZ := Lib.hid hbz
    have hb1 := (Below.refl w.heap.size w).alloc (Nat.le_refl _) (.cells #[.int .i64 d, .int .i64 x1, .int .i64 v, .int .i64 n, .int .i64 o, .int .i64 tn, .slice At lt ct, .slice Ah lh ch, .slice Ae le ce, .slice Ab lb cb] 53)
    have hb2 := hb1.alloc hb1.size (.cells #[.int .i64 d', .int .i64 x1', .int .i64 v', .int .i64 n', .int .i64 o', .int .i64 tn', .slice At' lt' ct', .slice Ah' lh' ch', .slice Ae' le' ce', .slice Ab' lb' cb'] 53)
    have HB := Lib.hid hb2
    have HN := Lib.hid ((Cs.new w #[.int .i64 d, .int .i64 x1, .int .i64 v, .int .i64 n, .int .i64 o, .int .i64 tn, .slice At lt ct, .slice Ah lh ch, .slice Ae le ce, .slice Ab lb cb] 53).alloc (.cells #[.int .i64 d', .int .i64 x1', .int .i64 v', .int .i64 n', .int .i64 o', .int .i64 tn', .slice At' lt' ct', .slice Ah' lh' ch', .slice Ae' le' ce', .slice Ab' lb' cb'] 53))
    have HM2 := Lib.hid (Cs.new1 w (.cells #[.int .i64 d, .int .i64 x1, .int .i64 v, .int .i64 n, .int .i64 o, .int .i64 tn, .slice At lt ct, .slice Ah lh ch, .slice Ae le ce, .slice Ab lb cb] 53) #[.int .i64 d', .int .i64 x1', .int .i64 v', .int .i64 n', .int .i64 o', .int .i64 tn', .slice At' lt' ct', .slice Ah' lh' ch', .slice Ae' le' ce', .slice Ab' lb' cb'] 53)
    have HK1 := Lib.hid (k1.below hb2)
    have HK2 := Lib.hid (k2.below hb2)
    have HK3 := Lib.hid (k3.below hb2)
    have HK4 := Lib.hid (k4.below hb2)
    have HK5 := Lib.hid (k5.below hb2)
    have HK6 := Lib.hid (k6.below hb2)
    have HK7 := Lib.hid (k7.below hb2)
    have HK8 := Lib.hid (k8.below hb2)
    have HSUM := Lib.hid hsum
    clear ih hm hml hlt hlh hle hlt' hlh' hle' k1 k2 k3 k4 k5 k6 k7 k8 H hb1 hb2 hbt hbh hbe hbz hsum
    go_enter Try.func76, Try.ntmps76
    go_upto_region 1 with fail
    obtain ⟨w1, hw1⟩ : ∃ w1, (w.alloc (.cells #[.int .i64 d, .int .i64 x1, .int .i64 v, .int .i64 n, .int .i64 o, .int .i64 tn, .slice At lt ct, .slice Ah lh ch, .slice Ae le ce, .slice Ab lb cb] 53)).alloc (.cells #[.int .i64 d', .int .i64 x1', .int .i64 v', .int .i64 n', .int .i64 o', .int .i64 tn', .slice At' lt' ct', .slice Ah' lh' ch', .slice Ae' le' ce', .slice Ab' lb' cb'] 53) = w1 := ⟨_, rfl⟩
    rw [hw1] at HB HN HM2 HK1 HK2 HK3 HK4 HK5 HK6 HK7 HK8
    rw [hw1]
    clear hw1
    have n0 := HN.out.at 0 _ rfl
    have m0 := HM2.out.at 0 _ rfl
    have n1 := HN.out.at 1 _ rfl
    have m1 := HM2.out.at 1 _ rfl
    have n2 := HN.out.at 2 _ rfl
    have m2 := HM2.out.at 2 _ rfl
    have n3 := HN.out.at 3 _ rfl
    have m3 := HM2.out.at 3 _ rfl
    have n4 := HN.out.at 4 _ rfl
    have m4 := HM2.out.at 4 _ rfl
    have n5 := HN.out.at 5 _ rfl
    have m5 := HM2.out.at 5 _ rfl
    have n6 := HN.out.at 6 _ rfl
    have m6 := HM2.out.at 6 _ rfl
    have n7 := HN.out.at 7 _ rfl
    have m7 := HM2.out.at 7 _ rfl
    have n8 := HN.out.at 8 _ rfl
    have m8 := HM2.out.at 8 _ rfl
    have n9 := HN.out.at 9 _ rfl
    have m9 := HM2.out.at 9 _ rfl
    by_cases e0 : d = d'
    case neg =>
      have eb := beq_of e0
      have hb : b = false := by rw [← HSUM.out, eb]; simp
      subst hb
      clear HSUM e0
      go_wp2_with fail
      go_ret
      exact ⟨rfl, HB.out⟩
    subst e0
    by_cases e1 : x1 = x1'
    case neg =>
      have eb := beq_of e1
      have hb : b = false := by rw [← HSUM.out, eb]; simp
      subst hb
      clear HSUM e1
      go_wp2_with fail
      go_ret
      exact ⟨rfl, HB.out⟩
    subst e1
    by_cases e2 : v = v'
    case neg =>
      have eb := beq_of e2
      have hb : b = false := by rw [← HSUM.out, eb]; simp
      subst hb
      clear HSUM e2
      go_wp2_with fail
      go_ret
      exact ⟨rfl, HB.out⟩
    subst e2
    by_cases e3 : n = n'
    case neg =>
      have eb := beq_of e3
      have hb : b = false := by rw [← HSUM.out, eb]; simp
      subst hb
      clear HSUM e3
      go_wp2_with fail
      go_ret
      exact ⟨rfl, HB.out⟩
    subst e3
    go_wp2_with fail
    go_at_call 72
    refine (sameTerm_any (Tm.cnt (.mk o tn tk)) o tn tk lt At ct o' tn' tk' lt' At' ct' _ bt HLT.out HLT'.out (Nat.le_refl _) HK1.out HK5.out HBT).mono ?_
    rintro e w2 ⟨rfl, hb⟩
    have HBx := Lib.hid (HB.out.trans (hb.mono HB.out.size))
    have HNx := Lib.hid (HN.out.next hb)
    have HM2x := Lib.hid (HM2.out.next hb)
    have HK1x := Lib.hid (HK1.out.below hb)
    have HK2x := Lib.hid (HK2.out.below hb)
    have HK3x := Lib.hid (HK3.out.below hb)
    have HK4x := Lib.hid (HK4.out.below hb)
    have HK5x := Lib.hid (HK5.out.below hb)
    have HK6x := Lib.hid (HK6.out.below hb)
    have HK7x := Lib.hid (HK7.out.below hb)
    have HK8x := Lib.hid (HK8.out.below hb)
    clear hb HB HN HM2 HK1 HK2 HK3 HK4 HK5 HK6 HK7 HK8 n0 m0 n1 m1 n2 m2 n3 m3 n4 m4 n5 m5 n6 m6 n7 m7 n8 m8 n9 m9
    have HB := HBx
    have HN := HNx
    have HM2 := HM2x
    have HK1 := HK1x
    have HK2 := HK2x
    have HK3 := HK3x
    have HK4 := HK4x
    have HK5 := HK5x
    have HK6 := HK6x
    have HK7 := HK7x
    have HK8 := HK8x
    clear HBx HNx HM2x HK1x HK2x HK3x HK4x HK5x HK6x HK7x HK8x
    have n0 := HN.out.at 0 _ rfl
    have m0 := HM2.out.at 0 _ rfl
    have n1 := HN.out.at 1 _ rfl
    have m1 := HM2.out.at 1 _ rfl
    have n2 := HN.out.at 2 _ rfl
    have m2 := HM2.out.at 2 _ rfl
    have n3 := HN.out.at 3 _ rfl
    have m3 := HM2.out.at 3 _ rfl
    have n4 := HN.out.at 4 _ rfl
    have m4 := HM2.out.at 4 _ rfl
    have n5 := HN.out.at 5 _ rfl
    have m5 := HM2.out.at 5 _ rfl
    have n6 := HN.out.at 6 _ rfl
    have m6 := HM2.out.at 6 _ rfl
    have n7 := HN.out.at 7 _ rfl
    have m7 := HM2.out.at 7 _ rfl
    have n8 := HN.out.at 8 _ rfl
    have m8 := HM2.out.at 8 _ rfl
    have n9 := HN.out.at 9 _ rfl
    have m9 := HM2.out.at 9 _ rfl
    cases bt
    case false =>
      have hb : b = false := by rw [← HSUM.out]; simp
      subst hb
      clear HSUM 
      go_wp2_with fail
      go_ret
      exact ⟨rfl, HB.out⟩
    go_wp2_with fail
    go_at_call 75
    refine (eqfS m IH th th' lh lh' Ah Ah' ch ch' _ bh HLH.out HLH'.out HCM.out.1 HK2.out HK6.out HBH).mono ?_
    rintro e w3 ⟨rfl, hb⟩
    have HBx := Lib.hid (HB.out.trans (hb.mono HB.out.size))
    have HNx := Lib.hid (HN.out.next hb)
    have HM2x := Lib.hid (HM2.out.next hb)
    have HK1x := Lib.hid (HK1.out.below hb)
    have HK2x := Lib.hid (HK2.out.below hb)
    have HK3x := Lib.hid (HK3.out.below hb)
    have HK4x := Lib.hid (HK4.out.below hb)
    have HK5x := Lib.hid (HK5.out.below hb)
    have HK6x := Lib.hid (HK6.out.below hb)
    have HK7x := Lib.hid (HK7.out.below hb)
    have HK8x := Lib.hid (HK8.out.below hb)
    clear hb HB HN HM2 HK1 HK2 HK3 HK4 HK5 HK6 HK7 HK8 n0 m0 n1 m1 n2 m2 n3 m3 n4 m4 n5 m5 n6 m6 n7 m7 n8 m8 n9 m9
    have HB := HBx
    have HN := HNx
    have HM2 := HM2x
    have HK1 := HK1x
    have HK2 := HK2x
    have HK3 := HK3x
    have HK4 := HK4x
    have HK5 := HK5x
    have HK6 := HK6x
    have HK7 := HK7x
    have HK8 := HK8x
    clear HBx HNx HM2x HK1x HK2x HK3x HK4x HK5x HK6x HK7x HK8x
    have n0 := HN.out.at 0 _ rfl
    have m0 := HM2.out.at 0 _ rfl
    have n1 := HN.out.at 1 _ rfl
    have m1 := HM2.out.at 1 _ rfl
    have n2 := HN.out.at 2 _ rfl
    have m2 := HM2.out.at 2 _ rfl
    have n3 := HN.out.at 3 _ rfl
    have m3 := HM2.out.at 3 _ rfl
    have n4 := HN.out.at 4 _ rfl
    have m4 := HM2.out.at 4 _ rfl
    have n5 := HN.out.at 5 _ rfl
    have m5 := HM2.out.at 5 _ rfl
    have n6 := HN.out.at 6 _ rfl
    have m6 := HM2.out.at 6 _ rfl
    have n7 := HN.out.at 7 _ rfl
    have m7 := HM2.out.at 7 _ rfl
    have n8 := HN.out.at 8 _ rfl
    have m8 := HM2.out.at 8 _ rfl
    have n9 := HN.out.at 9 _ rfl
    have m9 := HM2.out.at 9 _ rfl
    cases bh
    case false =>
      have hb : b = false := by rw [← HSUM.out]; simp
      subst hb
      clear HSUM 
      go_wp2_with fail
      go_ret
      exact ⟨rfl, HB.out⟩
    go_wp2_with fail
    go_at_call 75
    refine (eqfS m IH el el' le le' Ae Ae' ce ce' _ be HLE.out HLE'.out HCM.out.2 HK3.out HK7.out HBE).mono ?_
    rintro e w4 ⟨rfl, hb⟩
    have HBx := Lib.hid (HB.out.trans (hb.mono HB.out.size))
    have HNx := Lib.hid (HN.out.next hb)
    have HM2x := Lib.hid (HM2.out.next hb)
    have HK1x := Lib.hid (HK1.out.below hb)
    have HK2x := Lib.hid (HK2.out.below hb)
    have HK3x := Lib.hid (HK3.out.below hb)
    have HK4x := Lib.hid (HK4.out.below hb)
    have HK5x := Lib.hid (HK5.out.below hb)
    have HK6x := Lib.hid (HK6.out.below hb)
    have HK7x := Lib.hid (HK7.out.below hb)
    have HK8x := Lib.hid (HK8.out.below hb)
    clear hb HB HN HM2 HK1 HK2 HK3 HK4 HK5 HK6 HK7 HK8 n0 m0 n1 m1 n2 m2 n3 m3 n4 m4 n5 m5 n6 m6 n7 m7 n8 m8 n9 m9
    have HB := HBx
    have HN := HNx
    have HM2 := HM2x
    have HK1 := HK1x
    have HK2 := HK2x
    have HK3 := HK3x
    have HK4 := HK4x
    have HK5 := HK5x
    have HK6 := HK6x
    have HK7 := HK7x
    have HK8 := HK8x
    clear HBx HNx HM2x HK1x HK2x HK3x HK4x HK5x HK6x HK7x HK8x
    have n0 := HN.out.at 0 _ rfl
    have m0 := HM2.out.at 0 _ rfl
    have n1 := HN.out.at 1 _ rfl
    have m1 := HM2.out.at 1 _ rfl
    have n2 := HN.out.at 2 _ rfl
    have m2 := HM2.out.at 2 _ rfl
    have n3 := HN.out.at 3 _ rfl
    have m3 := HM2.out.at 3 _ rfl
    have n4 := HN.out.at 4 _ rfl
    have m4 := HM2.out.at 4 _ rfl
    have n5 := HN.out.at 5 _ rfl
    have m5 := HM2.out.at 5 _ rfl
    have n6 := HN.out.at 6 _ rfl
    have m6 := HM2.out.at 6 _ rfl
    have n7 := HN.out.at 7 _ rfl
    have m7 := HM2.out.at 7 _ rfl
    have n8 := HN.out.at 8 _ rfl
    have m8 := HM2.out.at 8 _ rfl
    have n9 := HN.out.at 9 _ rfl
    have m9 := HM2.out.at 9 _ rfl
    cases be
    case false =>
      have hb : b = false := by rw [← HSUM.out]; simp
      subst hb
      clear HSUM 
      go_wp2_with fail
      go_ret
      exact ⟨rfl, HB.out⟩
    have hb : bz = b := by have := HSUM.out; simpa using this
    subst hb
    clear HSUM
    go_wp2_with fail
    go_at_call 103
    refine (eqInts_b bs bs' Ab Ab' lb cb lb' cb' bz HBZ _ HK4.out HK8.out).mono ?_
    rintro e w5 ⟨rfl, hb⟩
    have HB6 := Lib.hid (HB.out.trans (hb.mono HB.out.size))
    clear hb
    go_wp2_with fail
    go_ret
    exact ⟨rfl, HB6.out⟩
end Go.Proofs.Ytjpjmoejdkmglaa
