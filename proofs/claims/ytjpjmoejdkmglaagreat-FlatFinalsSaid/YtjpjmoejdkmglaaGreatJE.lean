/-
  The law's Few: plain, and the walks.
  The law's Few: the walk.
-/
import Derived.Test.YtjpjmoejdkmglaaGreatFlB
import Derived.Test.YtjpjmoejdkmglaaGreatFlXc
import Derived.Deep.CutRange
namespace Go.Proofs.YtjpjmoejdkmglaaGreat
open Go.RowKit

mutual
/-- What is left of a number of nodes after those of a term. -/
def lT : Int → Tm → Int
  | x, .mk _ _ ks => lTL (x - 1) ks
def lTL : Int → List Tm → Int
  | x, [] => x
  | x, k :: ks => if 0 ≤ x then lTL (lT x k) ks else x
end
theorem lTL_neg {x : Int} (ks : List Tm) (h : x < 0) : lTL x ks = x := by
  cases ks with
  | nil => rw [lTL]
  | cons k ks => rw [lTL, if_neg (by omega)]
mutual
theorem lT_in : ∀ (x : Int) (t : Tm), lT x t ≤ x - 1 ∧ (0 ≤ x → -1 ≤ lT x t) ∧ (x < 0 → lT x t = x - 1) ∧ (0 ≤ lT x t → lT x t = x - (Tm.cnt t : Nat))
  | x, .mk o n ks => by
    have h := lTL_in (x - 1) ks
    rw [lT]
    refine ⟨h.1, fun h0 => ?_, fun h0 => lTL_neg ks (by omega), fun h0 => ?_⟩
    · by_cases e : 0 ≤ x - 1
      · exact h.2.1 e
      · rw [lTL_neg ks (by omega)]; omega
    · have := h.2.2 h0
      simp only [Tm.cnt]; omega
theorem lTL_in : ∀ (x : Int) (ks : List Tm), lTL x ks ≤ x ∧ (0 ≤ x → -1 ≤ lTL x ks) ∧ (0 ≤ lTL x ks → lTL x ks = x - (Tm.cntL ks : Nat))
  | x, [] => by rw [lTL]; refine ⟨Int.le_refl _, fun h => by omega, fun h => ?_⟩; simp [Tm.cntL]
  | x, k :: ks => by
    by_cases e : 0 ≤ x
    · rw [lTL, if_pos e]
      have h1 := lT_in x k
      have h2 := lTL_in (lT x k) ks
      refine ⟨by omega, fun _ => ?_, fun h0 => ?_⟩
      · by_cases e2 : 0 ≤ lT x k
        · exact h2.2.1 e2
        · rw [lTL_neg ks (by omega)]; exact h1.2.1 e
      · have h3 := h2.2.2 h0
        have h4 := h1.2.2.2 (by omega)
        simp only [Tm.cntL]; omega
    · rw [lTL, if_neg e]
      exact ⟨Int.le_refl _, fun h => absurd h e, fun h => absurd h e⟩
end
mutual
/-- What is left of a number of nodes after a step. -/
def sO : Int → Sp → Int
  | x, .mk _ _ _ _ t th el bs => if lT (x - 1) t < (bs.length : Int) then -1 else sL (sL (lT (x - 1) t - (bs.length : Int)) th) el
def sL : Int → List Sp → Int
  | x, [] => x
  | x, k :: ks => if 0 ≤ x then sL (sO x k) ks else x
end
theorem sL_neg {x : Int} (ks : List Sp) (h : x < 0) : sL x ks = x := by
  cases ks with
  | nil => rw [sL]
  | cons k ks => rw [sL, if_neg (by omega)]
mutual
theorem sO_in : ∀ (x : Int) (k : Sp), 0 ≤ x → sO x k ≤ x ∧ -1 ≤ sO x k ∧ (0 ≤ sO x k → (Sp.cnt k : Int) ≤ x - sO x k)
  | x, .mk d c v n t th el bs, h0 => by
    rw [sO]
    split
    · exact ⟨by omega, by omega, fun h => by omega⟩
    · rename_i hb
      have h1 := lT_in (x - 1) t
      have h2 := sL_in (lT (x - 1) t - (bs.length : Int)) th
      have h3 := sL_in (sL (lT (x - 1) t - (bs.length : Int)) th) el
      refine ⟨by omega, ?_, fun h => ?_⟩
      · by_cases e : 0 ≤ sL (lT (x - 1) t - (bs.length : Int)) th
        · exact h3.2.1 e
        · rw [sL_neg el (by omega)]; exact h2.2.1 (by omega)
      · have h4 := h3.2.2 h
        have h5 := h2.2.2 (by omega)
        have h6 := h1.2.2.2 (by omega)
        simp only [Sp.cnt]; omega
theorem sL_in : ∀ (x : Int) (ks : List Sp), sL x ks ≤ x ∧ (0 ≤ x → -1 ≤ sL x ks) ∧ (0 ≤ sL x ks → (Sp.cntL ks : Int) ≤ x - sL x ks)
  | x, [] => by rw [sL]; refine ⟨Int.le_refl _, fun h => by omega, fun h => ?_⟩; simp [Sp.cntL]
  | x, k :: ks => by
    by_cases e : 0 ≤ x
    · rw [sL, if_pos e]
      have h1 := sO_in x k e
      have h2 := sL_in (sO x k) ks
      refine ⟨by omega, fun _ => ?_, fun h0 => ?_⟩
      · by_cases e2 : 0 ≤ sO x k
        · exact h2.2.1 e2
        · rw [sL_neg ks (by omega)]; exact h1.2.1
      · have h3 := h2.2.2 h0
        have h4 := h1.2.2 (by omega)
        simp only [Sp.cntL]; omega
    · rw [sL, if_neg e]
      exact ⟨Int.le_refl _, fun h => absurd h e, fun h => absurd h e⟩
end

set_option maxRecDepth 100000 in
set_option maxHeartbeats 4000000 in
theorem termLeft_any (m : Nat) : ∀ (o n : Int) (ks : List Tm) (l : Nat) (A : Option Addr) (c : Nat) (x : Int) (w : World) (r : Int), ks.length = l → Tm.cnt (.mk o n ks) ≤ m → TOk w A c ks → -1000000 ≤ x → x ≤ 1000000 → Hid (lT x (.mk o n ks) = r) →
    Calls Tryz.prog 19 #[.agg #[.int .i64 o, .int .i64 n, .slice A l c], .int .i64 x] w fun e w' => e = .returned (.int .i64 r) ∧ Below w.heap.size w w' := by
  induction m with
  | zero => intro o n ks l A c x w r _ h; have := Tm.cnt_pos (.mk o n ks); omega
  | succ m ih =>
    intro o n ks l A c x w r hl hm ht hx1 hx2 H
    have IH := Lib.hid ih
    have HM : Hid (Tm.cntL ks ≤ m) := by show _ ≤ _; simp only [Tm.cnt] at hm; omega
    have HL := Lib.hid hl
    have HT := Lib.hid ht
    have hlm : l ≤ 9223372036854775807 := by have h1 := ht.1; have h2 := ht.2.1; unfold maxLen at h2; omega
    have HC := Lib.hid (boxT_cs w o n A l c)
    have HB := Lib.hid (boxT_below w o n A l c)
    have HS0 : Hid (lTL (x - 1) (ks.drop 0) = r) := by show _ = _; rw [← H.out, List.drop_zero, lT]
    clear ih hm hl ht H
    go_enter Tryz.func19, Tryz.ntmps19
    go_wp2_with fail
    go_loopw [1, 5] (fun u v wr => ∃ (k : Nat) (y : Int), k ≤ l ∧ -1000001 ≤ y ∧ y ≤ 1000000 ∧ u = .int .i64 y ∧ v = .int .i64 k ∧ Hid (lTL y (ks.drop k) = r) ∧ Hid (Below w.heap.size w wr) ∧ Hid (Cs wr w.heap.size [.int .i64 o, .int .i64 n, .slice A l c])) (fun _ v _ => l - (intOf v).toNat)
    case atStart => exact ⟨0, x - 1, by omega, by omega, by omega, by go_num, rfl, HS0, HB, HC⟩
    case round =>
      clear HS0 HB HC
      obtain ⟨k, y, hk, hy1, hy2, rfl, rfl, HS, HB, HC⟩ := hrel
      have r0 := HC.out.at 0 _ rfl
      have r1 := HC.out.at 1 _ rfl
      have r2 := HC.out.at 2 _ rfl
      by_cases hlt : k < l
      · have hkl : k < ks.length := by rw [HL.out]; exact hlt
        have hlt' : (k : Int) < (l : Int) := by omega
        by_cases hy : 0 ≤ y
        · obtain ⟨o', n', ks', g, f, A', c', hkid, hA, hg, hok, k0, k1, k2⟩ := (HT.out.below HB.out).kid k hkl
          subst hA
          obtain ⟨l', hl'⟩ : ∃ l', ks'.length = l' := ⟨_, rfl⟩
          rw [hl'] at k2
          obtain ⟨z, hz⟩ : ∃ z, lT y (.mk o' n' ks') = z := ⟨_, rfl⟩
          have hzb : -1 ≤ z ∧ z ≤ 1000000 := by have := lT_in y (.mk o' n' ks'); rw [hz] at this; exact ⟨this.2.1 hy, by omega⟩
          obtain ⟨hz1, hz2⟩ := hzb
          have HZ := Lib.hid hz
          have hcm : Tm.cnt (.mk o' n' ks') ≤ m := by have := Tm.cntL_get ks k hkl; rw [hkid] at this; exact Nat.le_trans this HM.out
          have HCM := Lib.hid hcm
          have HS2 : Hid (lTL z (ks.drop (k + 1)) = r) := by
            show _ = _
            have := HS.out
            rw [List.drop_eq_getElem_cons hkl, hkid, lTL, if_pos hy, hz] at this
            exact this
          have HOK := Lib.hid hok
          have HL' := Lib.hid hl'
          have hd : decide (0 ≤ y) = true := decide_eq_true hy
          clear hok hkid hl' hz hcm HS
          go_wp2_with fail
          go_at_call 19
          refine (IH.out o' n' ks' l' A' c' y _ z HL'.out HCM.out HOK.out (by omega) (by omega) HZ).mono ?_
          rintro e w3 ⟨rfl, hb3⟩
          have HB3 := Lib.hid (HB.out.trans (hb3.mono HB.out.size))
          have HC3 := Lib.hid (HC.out.next hb3)
          clear hb3 HB HC HOK k0 k1 k2 r0 r1 r2
          go_wp2_with fail
          go_roundw
          case rel => exact ⟨k + 1, z, by omega, by omega, by omega, rfl, by go_num, HS2, HB3, HC3⟩
          case measure => simp [intOf]; omega
        · have hr : y = r := by rw [← HS.out, lTL_neg _ (by omega)]
          subst hr
          have hd : decide (0 ≤ y) = false := decide_eq_false hy
          clear HS
          go_wp2_with fail
          go_ret
          exact ⟨rfl, HB.out⟩
      · obtain rfl : k = l := by omega
        have hr : y = r := by rw [← HS.out, List.drop_of_length_le (by rw [HL.out]; exact Nat.le_refl _), lTL]
        subst hr
        clear HS
        go_wp2_with fail
        go_ret
        exact ⟨rfl, HB.out⟩

set_option maxRecDepth 100000 in
set_option maxHeartbeats 4000000 in
theorem stepsLeft_any (m : Nat) : ∀ (ks : List Sp) (l : Nat) (A : Option Addr) (c : Nat) (x : Int) (w : World) (r : Int), ks.length = l → Sp.cntL ks ≤ m → SOk w A c ks → -1000000 ≤ x → x ≤ 1000000 → Hid (sL x ks = r) →
    Calls Tryz.prog 18 #[.slice A l c, .int .i64 x] w fun e w' => e = .returned (.int .i64 r) ∧ Below w.heap.size w w' := by
  induction m with
  | zero =>
    intro ks l A c x w r hl hm ht hx1 hx2 H
    have hk : ks = [] := by
      cases ks with
      | nil => rfl
      | cons k ks => have := Sp.cnt_pos k; simp only [Sp.cntL] at hm; omega
    subst hk
    have hl0 : l = 0 := hl.symm
    subst hl0
    have hr : r = x := by rw [← H.out, sL]
    subst hr
    clear ht H
    go_enter Tryz.func18, Tryz.ntmps18
    go_wp2_with fail
    go_loopw [1, 5] (fun u v wr => u = .int .i64 r ∧ v = .int .i64 0 ∧ wr = w) (fun _ _ _ => 0)
    case atStart => exact ⟨rfl, rfl, rfl⟩
    case round =>
      obtain ⟨rfl, rfl, rfl⟩ := hrel
      go_wp2_with fail
      go_ret
      exact ⟨rfl, Below.refl _ _⟩
  | succ m ih =>
    intro ks l A c x w r hl hm ht hx1 hx2 H
    have IH := Lib.hid ih
    have HM := Lib.hid hm
    have HL := Lib.hid hl
    have HT := Lib.hid ht
    have hlm : l ≤ 9223372036854775807 := by have h1 := ht.1; have h2 := ht.2.1; unfold maxLen at h2; omega
    have HS0 : Hid (sL x (ks.drop 0) = r) := by show _ = _; rw [← H.out, List.drop_zero]
    clear ih hm hl ht H
    go_enter Tryz.func18, Tryz.ntmps18
    go_wp2_with fail
    go_loopw [1, 5] (fun u v wr => ∃ (k : Nat) (y : Int), k ≤ l ∧ -1000001 ≤ y ∧ y ≤ 1000000 ∧ u = .int .i64 y ∧ v = .int .i64 k ∧ Hid (sL y (ks.drop k) = r) ∧ Hid (Below w.heap.size w wr)) (fun _ v _ => l - (intOf v).toNat)
    case atStart => exact ⟨0, x, by omega, by omega, by omega, rfl, rfl, HS0, Lib.hid (Below.refl _ _)⟩
    case round =>
      clear HS0
      obtain ⟨k, y, hk, hy1, hy2, rfl, rfl, HS, HB⟩ := hrel
      by_cases hlt : k < l
      · have hkl : k < ks.length := by rw [HL.out]; exact hlt
        have hlt' : (k : Int) < (l : Int) := by omega
        by_cases hy : 0 ≤ y
        · have hd : decide (0 ≤ y) = true := decide_eq_true hy
          obtain ⟨d, x1, v, n, o, tn, tk, th, el, bs, g, f, At, ct, Ah, ch, Ae, ce, Ab, cb, hkid, hA, hg, hsc, htok, hth, hel, hbs⟩ := (HT.out.below HB.out).step k hkl
          subst hA
          obtain ⟨lt, hlt1⟩ : ∃ l, tk.length = l := ⟨_, rfl⟩
          obtain ⟨lh, hlh⟩ : ∃ l, th.length = l := ⟨_, rfl⟩
          obtain ⟨le, hle⟩ : ∃ l, el.length = l := ⟨_, rfl⟩
          obtain ⟨lb, hlb⟩ : ∃ l, bs.length = l := ⟨_, rfl⟩
          rw [hlt1, hlh, hle, hlb] at hsc
          rw [hlb] at hbs
          have hdr : ks.drop k = .mk d x1 v n (.mk o tn tk) th el bs :: ks.drop (k + 1) := by rw [List.drop_eq_getElem_cons hkl, hkid]
          have hcm : 1 + Tm.cnt (.mk o tn tk) + Sp.cntL th + Sp.cntL el ≤ m + 1 := by
            have := Sp.cntL_get ks k hkl
            rw [hkid] at this
            simp only [Sp.cnt] at this
            have := HM.out
            omega
          have HLT := Lib.hid hlt1
          have HLH := Lib.hid hlh
          have HLE := Lib.hid hle
          have HLB := Lib.hid hlb
          have HCM := Lib.hid hcm
          obtain ⟨c0, c1, c2, c3, c4, c5, c6, c7, c8, c9⟩ := hsc
          have hlbm : lb ≤ 9223372036854775807 := by have h1 := hbs.cap; have h2 := hbs.big; unfold maxLen at h2; omega
          have hci : lb ≤ cb := hbs.cap
          obtain ⟨a, ha⟩ : ∃ z, lT (y - 1) (.mk o tn tk) = z := ⟨_, rfl⟩
          have hab : -2 ≤ a ∧ a ≤ 1000000 := by
            have := lT_in (y - 1) (.mk o tn tk)
            rw [ha] at this
            refine ⟨?_, by omega⟩
            by_cases e : 0 ≤ y - 1
            · have := this.2.1 e; omega
            · have := this.2.2.1 (by omega); omega
          obtain ⟨ha1, ha2⟩ := hab
          have HA := Lib.hid ha
          have HS2 : Hid (sL (if a < (lb : Int) then -1 else sL (sL (a - (lb : Int)) th) el) (ks.drop (k + 1)) = r) := by
            show _ = _
            have := HS.out
            rw [hdr, sL, if_pos hy, sO, ha, hlb] at this
            exact this
          have HTK := Lib.hid htok
          have HHH := Lib.hid hth
          have HHE := Lib.hid hel
          clear hkid hdr hcm hlt1 hlh hle hlb htok hth hel hbs ha HS
          have HCELL : Hid (∀ W, Below wr.heap.size wr W → SCell W g (f + k * 10) d x1 v n o tn At lt ct Ah lh ch Ae le ce Ab lb cb) := Lib.hid fun W hb => SCell.below ⟨c0, c1, c2, c3, c4, c5, c6, c7, c8, c9⟩ hg hb
          go_wp2_with fail
          go_at_call 19
          refine (termLeft_any (Tm.cnt (.mk o tn tk)) o tn tk lt At ct (y - 1) _ a HLT.out (Nat.le_refl _) HTK.out (by omega) (by omega) HA).mono ?_
          rintro e w2 ⟨rfl, hb2⟩
          obtain ⟨e0, e1, e2, e3, e4, e5, e6, e7, e8, e9⟩ := HCELL.out w2 hb2
          have HB2 := Lib.hid hb2
          have hg2 : g < w2.heap.size := Nat.lt_of_lt_of_le hg hb2.size
          clear hb2 c0 c1 c2 c3 c4 c5 c6 c7 c8 c9
          by_cases hab : a < (lb : Int)
          · have hr : r = -1 := by have := HS2.out; rw [if_pos hab, sL_neg _ (by decide)] at this; exact this.symm
            subst hr
            have hd2 : decide (a < (lb : Int)) = true := decide_eq_true hab
            clear HS2
            go_wp2_with fail
            go_ret
            exact ⟨rfl, HB.out.trans (HB2.out.mono HB.out.size)⟩
          · have hd2 : decide (a < (lb : Int)) = false := decide_eq_false hab
            obtain ⟨b1, hb1⟩ : ∃ z, sL (a - (lb : Int)) th = z := ⟨_, rfl⟩
            obtain ⟨b2, hb2⟩ : ∃ z, sL b1 el = z := ⟨_, rfl⟩
            have hq1 : -1 ≤ b1 ∧ b1 ≤ 1000000 := by have := sL_in (a - (lb : Int)) th; rw [hb1] at this; exact ⟨this.2.1 (by omega), by omega⟩
            obtain ⟨hq1, hq2⟩ := hq1
            have hq3 : -1 ≤ b2 ∧ b2 ≤ 1000000 := by
              have := sL_in b1 el
              rw [hb2] at this
              refine ⟨?_, by omega⟩
              by_cases e : 0 ≤ b1
              · exact this.2.1 e
              · rw [sL_neg el (by omega)] at hb2; omega
            obtain ⟨hq3, hq4⟩ := hq3
            have HS3 : Hid (sL b2 (ks.drop (k + 1)) = r) := by
              show _ = _
              have := HS2.out
              rw [if_neg hab, hb1, hb2] at this
              exact this
            have HB1 := Lib.hid hb1
            have HBB2 := Lib.hid hb2
            have hw1 : IntKind.i64.wrap (a - (lb : Int)) = a - (lb : Int) := IntWalk.i64_in _ (by omega)
            go_upto_region 7 with fail
            clear HS2 hb1 hb2 e0 e1 e2 e3 e4 e5 e6 e7 e8 e9
            have KP : Hid (∀ W, Below w2.heap.size w2 W → (W.cell? ⟨g, f + k * 10 + 8, none⟩ = some (.slice Ae le ce) ∧ W.cell? ⟨g, f + k * 10 + 7, none⟩ = some (.slice Ah lh ch) ∧ W.cell? ⟨g, f + k * 10 + 9, none⟩ = some (.slice Ab lb cb))) := Lib.hid fun W hb => by
              have h := HCELL.out W (HB2.out.trans (hb.mono HB2.out.size))
              exact ⟨h.c8, h.c7, h.c9⟩
            go_region_held3 (fun W => W.cell? ⟨g, f + k * 10 + 8, none⟩ = some (.slice Ae le ce) ∧ W.cell? ⟨g, f + k * 10 + 7, none⟩ = some (.slice Ah lh ch) ∧ W.cell? ⟨g, f + k * 10 + 9, none⟩ = some (.slice Ab lb cb)) (first | exact KP.out _ (Below.refl _ _).drew | exact KP.out _ HD1.out | exact KP.out _ HD2.out) (first
              | (go_at_call 18; refine (IH.out el le Ae ce b1 _ b2 HLE.out (by have := HCM.out; have := Tm.cnt_pos (.mk o tn tk); omega) ((HHE.out.below HB2.out).below HD1.out) (by omega) (by omega) HBB2).mono ?_; rintro e w6 ⟨rfl, hbz⟩; have HD2 := Lib.hid (HD1.out.trans (hbz.mono HD1.out.size)); clear hbz)
              | (go_at_call 18; refine (IH.out th lh Ah ch (a - (lb : Int)) _ b1 HLH.out (by have := HCM.out; have := Tm.cnt_pos (.mk o tn tk); omega) ((HHH.out.below HB2.out).below (Below.refl _ _).drew) (by omega) (by omega) HB1).mono ?_; rintro e w5 ⟨rfl, hby⟩; have HD1 := Lib.hid ((Below.refl w2.heap.size w2).drew.trans (hby.mono (Nat.le_refl _))); clear hby))
            have HB6 := Lib.hid (HB.out.trans ((HB2.out.trans (HD2.out.mono HB2.out.size)).mono HB.out.size))
            clear HD1 HD2 KP HB HHH HHE HCELL HB2
            go_wp2_with fail
            go_roundw
            case rel => exact ⟨k + 1, b2, by omega, by omega, by omega, rfl, by go_num, HS3, HB6⟩
            case measure => simp [intOf]; omega
        · have hr : y = r := by rw [← HS.out, sL_neg _ (by omega)]
          subst hr
          have hd : decide (0 ≤ y) = false := decide_eq_false hy
          clear HS
          go_wp2_with fail
          go_ret
          exact ⟨rfl, HB.out⟩
      · obtain rfl : k = l := by omega
        have hr : y = r := by rw [← HS.out, List.drop_of_length_le (by rw [HL.out]; exact Nat.le_refl _), sL]
        subst hr
        clear HS
        go_wp2_with fail
        go_ret
        exact ⟨rfl, HB.out⟩

/-- What is left of a number of nodes after the hatches' terms. -/
def lH : Int → List Ht → Int
  | x, [] => x
  | x, h :: hs => lH (lT x h.t) hs
theorem lH_in : ∀ (x : Int) (hs : List Ht), lH x hs ≤ x - (hs.length : Nat) ∧ (0 ≤ lH x hs → lH x hs = x - (hcnt hs : Nat))
  | x, [] => by rw [lH]; refine ⟨by simp, fun h => ?_⟩; simp [hcnt]
  | x, h :: hs => by
    rw [lH]
    have h1 := lT_in x h.t
    have h2 := lH_in (lT x h.t) hs
    refine ⟨by simp only [List.length_cons]; omega, fun h0 => ?_⟩
    have h3 := h2.2 h0
    have h4 := h1.2.2.2 (by omega)
    simp only [hcnt]; omega
/-- Few. -/
def fewB (vs : List Vr) (hs : List Ht) (ks : List Sp) (a x : Int) : Bool :=
  if a < (vs.length : Nat) ∨ a < (hs.length : Nat) then false else decide (0 ≤ lH (sL x ks) hs)
theorem few_small {vs : List Vr} {hs : List Ht} {ks : List Sp} {a x : Int} (h : fewB vs hs ks a x = true) : (vs.length : Int) ≤ a ∧ (hs.length : Int) ≤ a ∧ ((hcnt hs + Sp.cntL ks : Nat) : Int) ≤ x := by
  unfold fewB at h
  split at h
  · cases h
  · rename_i hn
    have h0 := of_decide_eq_true h
    have h1 := (lH_in (sL x ks) hs).2 h0
    have h3 := (lH_in (sL x ks) hs).1
    have h2 := (sL_in x ks).2.2 (by omega)
    omega
set_option maxRecDepth 100000 in
set_option maxHeartbeats 4000000 in
theorem Few_b (vs : List Vr) (hs : List Ht) (ks : List Sp) (a x : Int) (Av : Option Addr) (lv cv : Nat) (Ag : Option Addr) (lg cg : Nat) (Ay : Option Addr) (ly cy : Nat) (w : World) (hv : vs.length = lv) (hh : HOk w Ag lg cg hs) (hl : ks.length = ly) (hk : SOk w Ay cy ks) (ha : a ≤ 1000) (hx0 : 0 ≤ x) (hx : x ≤ 10000) (b : Bool) (H : Hid (fewB vs hs ks a x = b)) :
    Calls Tryz.prog 6 #[.agg #[.slice Av lv cv, .slice Ag lg cg, .slice Ay ly cy], .int .i64 a, .int .i64 x] w fun e w' => e = .returned (.bool b) ∧ Below w.heap.size w w' := by
  have HHL := Lib.hid hh.len
  have HL := Lib.hid hl
  have HB := Lib.hid ((Below.refl w.heap.size w).alloc (Nat.le_refl _) (.cells #[.slice Av lv cv, .slice Ag lg cg, .slice Ay ly cy] 26))
  have HHS := Lib.hid hh
  have HK := Lib.hid hk
  have HC0 := Lib.hid (Cs.new w #[.slice Av lv cv, .slice Ag lg cg, .slice Ay ly cy] 26)
  have hsum : (if a < (lv : Int) ∨ a < (lg : Int) then false else decide (0 ≤ lH (sL x ks) hs)) = b := by rw [← H.out, fewB, hv, hh.len]
  have HS := Lib.hid hsum
  clear hv hh hl hk H hsum
  by_cases hbig : a < (lv : Int) ∨ a < (lg : Int)
  · have hb : b = false := by rw [← HS.out, if_pos hbig]
    subst hb
    clear HS
    by_cases h1 : a < (lv : Int)
    · have hd1 : decide (a < (lv : Int)) = true := decide_eq_true h1
      go_enter Tryz.func6, Tryz.ntmps6
      go_wp2_with fail
      go_ret
      exact ⟨rfl, HB.out⟩
    · have hd1 : decide (a < (lv : Int)) = false := decide_eq_false h1
      have h2 : a < (lg : Int) := by omega
      have hd2 : decide (a < (lg : Int)) = true := decide_eq_true h2
      clear hbig
      go_enter Tryz.func6, Tryz.ntmps6
      go_wp2_with fail
      go_ret
      exact ⟨rfl, HB.out⟩
  have h1 : ¬ a < (lv : Int) := fun h => hbig (.inl h)
  have h2 : ¬ a < (lg : Int) := fun h => hbig (.inr h)
  have hd1 : decide (a < (lv : Int)) = false := decide_eq_false h1
  have hd2 : decide (a < (lg : Int)) = false := decide_eq_false h2
  obtain ⟨y, hy⟩ : ∃ z, sL x ks = z := ⟨_, rfl⟩
  have hyb : -1 ≤ y ∧ y ≤ 10000 := by have := sL_in x ks; rw [hy] at this; exact ⟨this.2.1 hx0, by omega⟩
  obtain ⟨hy1, hy2⟩ := hyb
  have HS0 : Hid (decide (0 ≤ lH y (hs.drop 0)) = b) := by show _ = _; rw [← HS.out, if_neg hbig, List.drop_zero, hy]
  have HY := Lib.hid hy
  clear hbig HS hy
  go_enter Tryz.func6, Tryz.ntmps6
  go_upto_region 3 with fail
  obtain ⟨w1, hw1⟩ : ∃ w1, w.alloc (.cells #[.slice Av lv cv, .slice Ag lg cg, .slice Ay ly cy] 26) = w1 := ⟨_, rfl⟩
  rw [hw1] at HB HC0
  rw [hw1]
  clear hw1 hd1 hd2
  have m1 := HC0.out.at 1 _ rfl
  have m2 := HC0.out.at 2 _ rfl
  go_wp2_with fail
  go_at_call 18
  refine (stepsLeft_any (Sp.cntL ks) ks ly Ay cy x _ y HL.out (Nat.le_refl _) (HK.out.below HB.out) (by omega) (by omega) HY).mono ?_
  rintro e w2 ⟨rfl, hb2⟩
  have HB2 := Lib.hid (HB.out.trans (hb2.mono HB.out.size))
  have HC2 := Lib.hid (HC0.out.next hb2)
  clear hb2 HB HC0 m1 m2
  have m1 := HC2.out.at 1 _ rfl
  go_wp2_with fail
  go_loopw [7, 29] (fun u v wr => ∃ (k : Nat) (s : Int), k ≤ lg ∧ -1 - (k : Int) ≤ s ∧ s ≤ 10000 ∧ u = .int .i64 s ∧ v = .int .i64 k ∧ Hid (decide (0 ≤ lH s (hs.drop k)) = b) ∧ Hid (Below w.heap.size w wr) ∧ Hid (Cs wr w.heap.size [.slice Av lv cv, .slice Ag lg cg, .slice Ay ly cy])) (fun _ v _ => lg - (intOf v).toNat)
  case atStart => exact ⟨0, y, by omega, by omega, by omega, rfl, rfl, HS0, HB2, HC2⟩
  case round =>
    clear HS0 HB2 HC2 m1
    obtain ⟨k, s, hk, hs1, hs2, rfl, rfl, HS, HB, HC0⟩ := hrel
    by_cases hlt : k < lg
    · obtain ⟨hs_, lo, hi, o, n, tk, g, f, At, ct, hvs, hsz, hA, hg, c0, c1, c2, c3, c4, c5, htk⟩ := (HHS.out.below HB.out).at k hlt
      subst hA
      obtain ⟨lt, hlt1⟩ : ∃ z, tk.length = z := ⟨_, rfl⟩
      rw [hlt1] at c5
      have hkl : k < hs.length := by rw [HHL.out]; exact hlt
      have hel : hs[k] = ⟨hs_, lo, hi, .mk o n tk⟩ := by rw [List.getElem?_eq_getElem hkl] at hvs; injection hvs
      have hlt' : (k : Int) < (lg : Int) := by omega
      have HLT := Lib.hid hlt1
      obtain ⟨z, hz⟩ : ∃ z, lT s (.mk o n tk) = z := ⟨_, rfl⟩
      have hzb : -1 - ((k + 1 : Nat) : Int) ≤ z ∧ z ≤ 10000 := by
        have := lT_in s (.mk o n tk)
        rw [hz] at this
        refine ⟨?_, by omega⟩
        by_cases e : 0 ≤ s
        · have := this.2.1 e; omega
        · have := this.2.2.1 (by omega); omega
      obtain ⟨hz1, hz2⟩ := hzb
      have HZ := Lib.hid hz
      have HS2 : Hid (decide (0 ≤ lH z (hs.drop (k + 1))) = b) := by
        show _ = _
        have := HS.out
        rw [List.drop_eq_getElem_cons hkl, hel, lH, hz] at this
        exact this
      have hsb : -1000000 ≤ s ∧ s ≤ 1000000 := by omega
      clear hz HS
      clear hsz hvs hlt1 hel
      have HTK := Lib.hid htk
      clear htk
      have hba := (Below.refl wr.heap.size wr).alloc (Nat.le_refl _) (.cells #[.string hs_, .int .i64 lo, .int .i64 hi, .int .i64 o, .int .i64 n, .slice At lt ct] 62)
      have HBx := Lib.hid (HB.out.trans (hba.mono HB.out.size))
      have HC0x := Lib.hid (HC0.out.next hba)
      have HTKx := Lib.hid (HTK.out.below hba)
      have HN := Lib.hid (Cs.new wr #[.string hs_, .int .i64 lo, .int .i64 hi, .int .i64 o, .int .i64 n, .slice At lt ct] 62)
      clear hba HB HC0 HTK
      have HB := HBx
      have HC0 := HC0x
      have HTK := HTKx
      clear HBx HC0x HTKx
      go_upto_region 7 with fail
      obtain ⟨w4, hwn⟩ : ∃ w4, wr.alloc (.cells #[.string hs_, .int .i64 lo, .int .i64 hi, .int .i64 o, .int .i64 n, .slice At lt ct] 62) = w4 := ⟨_, rfl⟩
      obtain ⟨q, hqn⟩ : ∃ q, wr.heap.size = q := ⟨_, rfl⟩
      rw [hwn] at HN HB HC0 HTK 
      rw [hqn] at HN
      rw [hwn, hqn]
      clear hwn hqn c0 c1 c2 c3 c4 c5
      have n3 := HN.out.at 3 _ rfl
      have n4 := HN.out.at 4 _ rfl
      have n5 := HN.out.at 5 _ rfl
      go_wp2_with fail
      go_at_call 19
      refine (termLeft_any (Tm.cnt (.mk o n tk)) o n tk lt At ct s _ z HLT.out (Nat.le_refl _) HTK.out hsb.1 hsb.2 HZ).mono ?_
      rintro e w5 ⟨rfl, hb5⟩
      have HB5 := Lib.hid (HB.out.trans (hb5.mono HB.out.size))
      have HC5 := Lib.hid (HC0.out.next hb5)
      clear hb5 HB HC0 HTK HN n3 n4 n5
      go_wp2_with fail
      go_roundw
      case rel => exact ⟨k + 1, z, by omega, by omega, by omega, rfl, by go_num, HS2, HB5, HC5⟩
      case measure => simp [intOf]; omega
    · obtain rfl : k = lg := by omega
      have HS3 : Hid (decide (0 ≤ s) = b) := by show _ = _; rw [← HS.out, List.drop_of_length_le (by rw [HHL.out]; exact Nat.le_refl _), lH]
      clear HS
      go_wp2_with fail
      go_ret
      exact ⟨by rw [HS3.out]; rfl, HB.out⟩
end Go.Proofs.YtjpjmoejdkmglaaGreat
