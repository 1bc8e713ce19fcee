/-
  The walk over upper.
-/
import Derived.Test.YtjpjmoejdkmglaaGreatFlD
import Derived.Test.YtjpjmoejdkmglaaGreatFlYa
import Derived.Deep.CutRange
namespace Go.Proofs.YtjpjmoejdkmglaaGreat
open Go.RowKit

theorem Cs.st3 {W : World} {b : Nat} {u0 u1 u2 : Value} (v0 v1 v2 : Value) (h : Cs W b [u0, u1, u2]) : Cs (((W.setCell ⟨b, 0, none⟩ v0).setCell ⟨b, 1, none⟩ v1).setCell ⟨b, 2, none⟩ v2) b [v0, v1, v2] :=
  ((h.set 0 v0 (by simp)).set 1 v1 (by simp)).set 2 v2 (by simp)
theorem min_if (x C : Int) : (if C < x then C else x) = min x C := by split <;> omega
theorem max_if (a b : Int) : (if a < b then b else a) = max a b := by split <;> omega
theorem Cs.st3e {W : World} {b : Nat} {u0 u1 u2 v0 v1 v2 z0 z1 z2 : Value} (h : Cs W b [u0, u1, u2]) (e0 : v0 = z0) (e1 : v1 = z1) (e2 : v2 = z2) : Cs (((W.setCell ⟨b, 0, none⟩ v0).setCell ⟨b, 1, none⟩ v1).setCell ⟨b, 2, none⟩ v2) b [z0, z1, z2] := by
  subst e0 e1 e2; exact h.st3 _ _ _
theorem Cs.ot3 {W : World} {b q : Nat} {vs : List Value} (v0 v1 v2 : Value) (hq : q ≠ b) (h : Cs W b vs) : Cs (((W.setCell ⟨q, 0, none⟩ v0).setCell ⟨q, 1, none⟩ v1).setCell ⟨q, 2, none⟩ v2) b vs :=
  ((h.other (p := ⟨q, 0, none⟩) hq v0).other (p := ⟨q, 1, none⟩) hq v1).other (p := ⟨q, 2, none⟩) hq v2
theorem below_st3 {B : Nat} {a w : World} (q : Nat) (v0 v1 v2 : Value) (hq : B ≤ q) (h : Below B a w) : Below B a (((w.setCell ⟨q, 0, none⟩ v0).setCell ⟨q, 1, none⟩ v1).setCell ⟨q, 2, none⟩ v2) :=
  ((h.setCell (p := ⟨q, 0, none⟩) hq v0).setCell (p := ⟨q, 1, none⟩) hq v1).setCell (p := ⟨q, 2, none⟩) hq v2
theorem bcell {W w1 : World} (hb : Below W.heap.size W w1) : (∀ b o, b < W.heap.size → w1.cell? ⟨b, o, none⟩ = W.cell? ⟨b, o, none⟩) ∧ (∀ b o, b < W.heap.size → w1.frozen? ⟨b, o, none⟩ = W.frozen? ⟨b, o, none⟩) :=
  ⟨fun b o h => hb.cell (p := ⟨b, o, none⟩) h, fun b o h => hb.frozen (p := ⟨b, o, none⟩) h⟩
theorem Cs.of3 {W : World} {b : Nat} {v0 v1 v2 : Value} (hb : b < W.heap.size) (h0 : W.cell? ⟨b, 0, none⟩ = some v0) (h1 : W.cell? ⟨b, 1, none⟩ = some v1) (h2 : W.cell? ⟨b, 2, none⟩ = some v2) (hf : ∀ j, W.frozen? ⟨b, j, none⟩ = false) : Cs W b [v0, v1, v2] := by
  refine ⟨hb, fun j u hu => ?_, hf⟩
  match j, hu with
  | 0, hu => simp at hu; subst hu; exact h0
  | 1, hu => simp at hu; subst hu; exact h1
  | 2, hu => simp at hu; subst hu; exact h2
theorem Cs.new' {W : World} {b : Nat} (hb : b = W.heap.size) (cs : Array Value) (T : TypeId) (vs : List Value) (hv : cs.toList = vs) : Cs (W.alloc (.cells cs T)) b vs := by subst hb hv; exact Cs.new _ _ _
/-- Two new blocks with bounds in them. -/
structure Up (w0 w : World) (q7 q8 : Nat) (a b : Int × Int × Int) : Prop where
  below : Below w0.heap.size w0 w
  n7 : w0.heap.size ≤ q7
  n8 : w0.heap.size ≤ q8
  c7 : Cs w q7 [.int .i64 a.1, .int .i64 a.2.1, .int .i64 a.2.2]
  c8 : Cs w q8 [.int .i64 b.1, .int .i64 b.2.1, .int .i64 b.2.2]

set_option maxRecDepth 100000 in
set_option maxHeartbeats 8000000 in
theorem upper_any (m : Nat) : ∀ (ks : List Sp) (l : Nat) (A : Option Addr) (c : Nat) (w : World) (r : Int × Int × Int), ks.length = l → Sp.cntL ks ≤ m → SOk w A c ks → numL ks → Hid (upL ks (0, 0, 0) = r) →
    Calls Tryz.prog 32 #[.slice A l c] w fun e w' => e = .returned (.agg #[.int .i64 r.1, .int .i64 r.2.1, .int .i64 r.2.2]) ∧ Below w.heap.size w w' := by
  induction m with
  | zero =>
    intro ks l A c w r hl hm ht hn H
    have hk : ks = [] := by
      cases ks with
      | nil => rfl
      | cons k ks => have := Sp.cnt_pos k; simp only [Sp.cntL] at hm; omega
    subst hk
    have hl0 : l = 0 := hl.symm
    subst hl0
    have hr : r = (0, 0, 0) := by rw [← H.out, upL]
    subst hr
    have hb1 := (Below.refl w.heap.size w).alloc (Nat.le_refl _) (.cells #[.int .i64 0, .int .i64 0, .int .i64 0] 80)
    have HB := Lib.hid (hb1.alloc hb1.size (.cells #[.int .i64 0, .int .i64 0, .int .i64 0] 80))
    have HR := Lib.hid ((Cs.new w #[.int .i64 0, .int .i64 0, .int .i64 0] 80).alloc (.cells #[.int .i64 0, .int .i64 0, .int .i64 0] 80))
    have HO := Lib.hid (Cs.new1 w (.cells #[.int .i64 0, .int .i64 0, .int .i64 0] 80) #[.int .i64 0, .int .i64 0, .int .i64 0] 80)
    clear ht hn H hb1
    go_enter Tryz.func32, Tryz.ntmps32
    go_upto_region 2 with fail
    obtain ⟨w1, hw1⟩ : ∃ w1, (w.alloc (.cells #[.int .i64 0, .int .i64 0, .int .i64 0] 80)).alloc (.cells #[.int .i64 0, .int .i64 0, .int .i64 0] 80) = w1 := ⟨_, rfl⟩
    rw [hw1] at HB HR HO
    rw [hw1]
    clear hw1
    go_upto_region 3 with fail
    go_loopw [11] (fun v wr => v = .int .i64 0 ∧ wr = w1) (fun _ _ => 0)
    case atStart => exact ⟨rfl, rfl⟩
    case round =>
      obtain ⟨rfl, rfl⟩ := hrel
      have o0 := HO.out.at 0 _ rfl
      have o1 := HO.out.at 1 _ rfl
      have o2 := HO.out.at 2 _ rfl
      have p0 := HR.out.free 0
      have p1 := HR.out.free 1
      have p2 := HR.out.free 2
      have q0 := HR.out.at 0 _ rfl
      have q1 := HR.out.at 1 _ rfl
      have q2 := HR.out.at 2 _ rfl
      have hrl := HR.out.lt
      go_wp2_with fail
      have HF := HR.out.st3 (.int .i64 0) (.int .i64 0) (.int .i64 0)
      have z0 := HF.at 0 _ rfl
      have z1 := HF.at 1 _ rfl
      have z2 := HF.at 2 _ rfl
      refine bodyPost_ret (v := .agg #[.int .i64 0, .int .i64 0, .int .i64 0]) (by simp [results, Tryz.results32, go_sem, z0, z1, z2]) rfl ?_
      exact ⟨rfl, below_st3 _ _ _ _ (Nat.le_refl _) HB.out⟩
  | succ m ih =>
    intro ks l A c w r hl hm ht hn H
    have IH := Lib.hid ih
    have HM := Lib.hid hm
    have HL := Lib.hid hl
    have HT := Lib.hid ht
    have HN := Lib.hid hn
    have HH : Hid (upL (ks.drop 0) (0, 0, 0) = r) := H
    have hlm : l ≤ 9223372036854775807 := by have h1 := ht.1; have h2 := ht.2.1; unfold maxLen at h2; omega
    have hb1 := (Below.refl w.heap.size w).alloc (Nat.le_refl _) (.cells #[.int .i64 0, .int .i64 0, .int .i64 0] 80)
    have HB := Lib.hid (hb1.alloc hb1.size (.cells #[.int .i64 0, .int .i64 0, .int .i64 0] 80))
    have HR := Lib.hid ((Cs.new w #[.int .i64 0, .int .i64 0, .int .i64 0] 80).alloc (.cells #[.int .i64 0, .int .i64 0, .int .i64 0] 80))
    have HO := Lib.hid (Cs.new1 w (.cells #[.int .i64 0, .int .i64 0, .int .i64 0] 80) #[.int .i64 0, .int .i64 0, .int .i64 0] 80)
    clear ih hm hl ht hn H hb1
    go_enter Tryz.func32, Tryz.ntmps32
    go_upto_region 2 with fail
    obtain ⟨w1, hw1⟩ : ∃ w1, (w.alloc (.cells #[.int .i64 0, .int .i64 0, .int .i64 0] 80)).alloc (.cells #[.int .i64 0, .int .i64 0, .int .i64 0] 80) = w1 := ⟨_, rfl⟩
    rw [hw1] at HB HR HO
    rw [hw1]
    clear hw1
    go_upto_region 3 with fail
    go_loopw [11] (fun v wr => ∃ (k : Nat) (s : Int × Int × Int), k ≤ l ∧ v = .int .i64 k ∧ Hid (upL (ks.drop k) s = r) ∧ Hid (inU s) ∧ Hid (Cs wr w.heap.size [.int .i64 0, .int .i64 0, .int .i64 0]) ∧ Hid (Cs wr (w.heap.size + 1) [.int .i64 s.1, .int .i64 s.2.1, .int .i64 s.2.2]) ∧ Hid (Below w.heap.size w wr)) (fun v _ => l - (intOf v).toNat)
    case atStart => exact ⟨0, (0, 0, 0), by omega, rfl, HH, Lib.hid (by unfold inU; simp), HR, HO, HB⟩
    case round =>
      clear HH HR HO HB
      obtain ⟨k, ⟨s1, s2, s3⟩, hk, rfl, HS, HI, HR, HO, HB⟩ := hrel
      by_cases hlt : k < l
      · have hkl : k < ks.length := by rw [HL.out]; exact hlt
        obtain ⟨d, c1, v, n, o, tn, tk, th, el, bs, g, f, At, ct, Ah, ch, Ae, ce, Ab, cb, hkid, hA, hg, hsc, htok, hth, hel, hbs⟩ := (HT.out.below HB.out).step k hkl
        subst hA
        obtain ⟨lt, hlt1⟩ : ∃ l, tk.length = l := ⟨_, rfl⟩
        obtain ⟨lh, hlh⟩ : ∃ l, th.length = l := ⟨_, rfl⟩
        obtain ⟨le, hle⟩ : ∃ l, el.length = l := ⟨_, rfl⟩
        obtain ⟨lb, hlb⟩ : ∃ l, bs.length = l := ⟨_, rfl⟩
        rw [hlt1, hlh, hle, hlb] at hsc
        have hdr : ks.drop k = .mk d c1 v n (.mk o tn tk) th el bs :: ks.drop (k + 1) := by rw [List.drop_eq_getElem_cons hkl, hkid]
        have hcm : Sp.cntL th ≤ m ∧ Sp.cntL el ≤ m := by
          have := Sp.cntL_get ks k hkl
          rw [hkid] at this
          simp only [Sp.cnt] at this
          have := HM.out
          omega
        have hnu := numL_get ks k hkl HN.out
        rw [hkid, numO] at hnu
        obtain ⟨a, ha⟩ : ∃ z, upL th (0, 0, 0) = z := ⟨_, rfl⟩
        obtain ⟨b, hb⟩ : ∃ z, upL el (0, 0, 0) = z := ⟨_, rfl⟩
        have h00 : inU (0, 0, 0) := by unfold inU; simp
        have hia := upL_in th _ hnu.2.1 h00
        have hib := upL_in el _ hnu.2.2 h00
        rw [ha] at hia
        rw [hb] at hib
        have hsum : upL (ks.drop (k + 1)) (upA (s1, s2, s3) (upN d c1 n a b)) = r := by
          have := HS.out
          rw [hdr, upL, upO, ha, hb] at this
          exact this
        have hiv := upN_in hnu.1 hia hib
        have HIA := Lib.hid hia
        have HIB := Lib.hid hib
        have HIV := Lib.hid hiv
        have HNU := Lib.hid hnu
        have HCM := Lib.hid hcm
        have HLH := Lib.hid hlh
        have HLE := Lib.hid hle
        have HRA := Lib.hid ha
        have HRB := Lib.hid hb
        have HSUM := Lib.hid hsum
        have hlt' : (k : Int) < (l : Int) := by omega
        have hba := (Below.refl wr.heap.size wr).alloc (Nat.le_refl _) (.cells #[.int .i64 d, .int .i64 c1, .int .i64 v, .int .i64 n, .int .i64 o, .int .i64 tn, .slice At lt ct, .slice Ah lh ch, .slice Ae le ce, .slice Ab lb cb] 56)
        have HB5 := Lib.hid (HB.out.trans (hba.mono HB.out.size))
        have HR5 := Lib.hid (HR.out.next hba)
        have HO5 := Lib.hid (HO.out.next hba)
        have HN5 := Lib.hid (Cs.new wr #[.int .i64 d, .int .i64 c1, .int .i64 v, .int .i64 n, .int .i64 o, .int .i64 tn, .slice At lt ct, .slice Ah lh ch, .slice Ae le ce, .slice Ab lb cb] 56)
        have HHH := Lib.hid (hth.below hba)
        have HHE := Lib.hid (hel.below hba)
        obtain ⟨k0, k1, k2, k3, k4, k5, k6, k7, k8, k9⟩ := hsc
        clear hkid hdr hcm hnu ha hb h00 hia hib hsum hiv hba htok hth hel hbs hlt1 hlh hle hlb HS HB HR HO
        go_upto_region 5 with fail
        obtain ⟨w5, hw5⟩ : ∃ w5, wr.alloc (.cells #[.int .i64 d, .int .i64 c1, .int .i64 v, .int .i64 n, .int .i64 o, .int .i64 tn, .slice At lt ct, .slice Ah lh ch, .slice Ae le ce, .slice Ab lb cb] 56) = w5 := ⟨_, rfl⟩
        obtain ⟨q5, hq5⟩ : ∃ q, wr.heap.size = q := ⟨_, rfl⟩
        rw [hw5] at HB5 HR5 HO5 HN5 HHH HHE
        rw [hq5] at HN5
        rw [hw5, hq5]
        clear hw5 hq5 k0 k1 k2 k3 k4 k5 k6 k7 k8 k9
        have n1 := HN5.out.at 1 _ rfl
        have hbb := (Below.refl w5.heap.size w5).alloc (Nat.le_refl _) (.cells #[.int .i64 1, .int .i64 0, .int .i64 c1] 80)
        have HOL : Hid (w.heap.size + 1 < w5.heap.size) := Lib.hid HO5.out.lt
        have H56 : Hid (q5 < w5.heap.size) := Lib.hid HN5.out.lt
        have HB6 := Lib.hid (HB5.out.trans (hbb.mono HB5.out.size))
        have HR6 := Lib.hid (HR5.out.next hbb)
        have HO6 := Lib.hid (HO5.out.next hbb)
        have HN6 := Lib.hid (HN5.out.next hbb)
        have HHH6 := Lib.hid (HHH.out.below hbb)
        have HHE6 := Lib.hid (HHE.out.below hbb)
        have HU6 := Lib.hid (Cs.new w5 #[.int .i64 1, .int .i64 0, .int .i64 c1] 80)
        go_upto_region 6 with fail
        obtain ⟨w6, hw6⟩ : ∃ w6, w5.alloc (.cells #[.int .i64 1, .int .i64 0, .int .i64 c1] 80) = w6 := ⟨_, rfl⟩
        obtain ⟨q6, hq6⟩ : ∃ q, w5.heap.size = q := ⟨_, rfl⟩
        rw [hw6] at HB6 HR6 HO6 HN6 HHH6 HHE6 HU6
        rw [hq6] at HU6 HOL H56
        rw [hw6, hq6]
        clear hw6 hq6 hbb n1 HB5 HR5 HO5 HN5 HHH HHE
        go_cut [7, 8, 11] from 11 to 103 (fun u v x wc => x = .int .i64 k ∧ ∃ q7 q8, u = .pointer (some ⟨q7, 0, none⟩) ∧ v = .pointer (some ⟨q8, 0, none⟩) ∧ Hid (Up w6 wc q7 q8 a b))
        case first =>
          have n7 := HN6.out.at 7 _ rfl
          have n8 := HN6.out.at 8 _ rfl
          have hq5 := HN6.out.lt
          have G1 : True := trivial
          have new6 : ¬ w6.heap.size = q5 := by omega
          have nfw6 : ¬ w6.heap.size + 1 = q5 := by omega
          have ngw6 : ¬ q5 = w6.heap.size := by omega
          have nhw6 : ¬ q5 = w6.heap.size + 1 := by omega
          have t7 : w6.drew.cell? ⟨q5, 7, none⟩ = some (.slice Ah lh ch) := HN6.out.drew.at 7 _ rfl
          have t8 : w6.drew.cell? ⟨q5, 8, none⟩ = some (.slice Ae le ce) := HN6.out.drew.at 8 _ rfl
          go_region_held3 (fun W => W.cell? ⟨q5, 7, none⟩ = some (.slice Ah lh ch) ∧ W.cell? ⟨q5, 8, none⟩ = some (.slice Ae le ce)) (first | with_reducible exact ⟨z7, z8⟩ | with_reducible exact ⟨y7, y8⟩ | with_reducible exact ⟨t7, t8⟩ | go_keep) (first
            | ((fail_if_success clear G1); go_at_call 32; refine (IH.out el le Ae ce _ b HLE.out HCM.out.2 (HHE6.out.below ?hbx) HNU.out.2.2 HRB).mono ?_; (case hbx => go_grown); rintro e w8 ⟨rfl, hb⟩; have hd3 : Below w6.heap.size w6 w8 := Below.trans (by go_grown) (hb.mono (by go_size)); have z7 : w8.cell? ⟨q5, 7, none⟩ = some (.slice Ah lh ch) := (HN6.out.next hd3).at 7 _ rfl; have z8 : w8.cell? ⟨q5, 8, none⟩ = some (.slice Ae le ce) := (HN6.out.next hd3).at 8 _ rfl; have zq : q5 < w8.heap.size := (HN6.out.next hd3).lt; have hd3s := hd3.size; have HX3 := Lib.hid hb; obtain ⟨hcr3, hfr3⟩ := bcell hb; have hsz3 := hb.size; (try simp at hsz3); clear hb; have new8 : ¬ w8.heap.size = q5 := (by omega); have nfw8 : ¬ w8.heap.size + 1 = q5 := (by omega); have ngw8 : ¬ q5 = w8.heap.size := (by omega); have nhw8 : ¬ q5 = w8.heap.size + 1 := (by omega); (try have hs3 : w7.heap.size < w8.heap.size := by omega); (try have hs3b : w6.heap.size < w8.heap.size := by omega); (try have hs3c : w6.heap.size + 1 < w8.heap.size := by omega); (try have hs3d : w7.heap.size + 1 < w8.heap.size := by omega))
            | (clear G1; go_at_call 32; refine (IH.out th lh Ah ch _ a HLH.out HCM.out.1 (HHH6.out.below ?hbx) HNU.out.2.1 HRA).mono ?_; (case hbx => go_grown); rintro e w7 ⟨rfl, hb⟩; have hd2 : Below w6.heap.size w6 w7 := Below.trans (by go_grown) (hb.mono (by go_size)); have y7 : w7.cell? ⟨q5, 7, none⟩ = some (.slice Ah lh ch) := (HN6.out.next hd2).at 7 _ rfl; have y8 : w7.cell? ⟨q5, 8, none⟩ = some (.slice Ae le ce) := (HN6.out.next hd2).at 8 _ rfl; have yq : q5 < w7.heap.size := (HN6.out.next hd2).lt; have hd2s := hd2.size; have HX2 := Lib.hid hb; obtain ⟨hcr2, hfr2⟩ := bcell hb; have hsz2 := hb.size; (try simp at hsz2); clear hb; have new7 : ¬ w7.heap.size = q5 := (by omega); have nfw7 : ¬ w7.heap.size + 1 = q5 := (by omega); have ngw7 : ¬ q5 = w7.heap.size := (by omega); have nhw7 : ¬ q5 = w7.heap.size + 1 := (by omega); (try have hs2 : w6.heap.size < w7.heap.size := by omega); (try have hs2b : w6.heap.size + 1 < w7.heap.size := by omega)))
          all_goals
            go_wp2_with fail
            go_meet
            case rel =>
              refine ⟨rfl, _, _, rfl, rfl, Lib.hid ⟨by go_grown, by go_size, by go_size, ?_, ?_⟩⟩
              all_goals (refine Cs.of3 (by go_size) ?_ ?_ ?_ (fun j => ?_) <;> first | (go_simp; done) | (go_simp; exact World.cell?_setCell_same _ _ _ (show World.cell? _ _ = some (.int .i64 0) by go_simp)))
        case rest =>
          obtain ⟨rfl, q7, q8, rfl, rfl, HU⟩ := hcut
          have hbb := HU.out.below
          have HN7 := Lib.hid (HN6.out.next hbb)
          have HE7 := Lib.hid (HU6.out.next hbb)
          have HR7 := Lib.hid (HR6.out.next hbb)
          have HO7 := Lib.hid (HO6.out.next hbb)
          have HB7 := Lib.hid (HB6.out.trans (hbb.mono HB6.out.size))
          obtain ⟨a1, a2, a3⟩ := a
          obtain ⟨b1, b2, b3⟩ := b
          have HC7 := Lib.hid HU.out.c7
          have HC8 := Lib.hid HU.out.c8
          simp only at HC7 HC8
          have hia := HIA.out
          have hib := HIB.out
          have his := HI.out
          have hnu := HNU.out.1
          unfold inU at hia hib his
          unfold numN at hnu
          simp only at hia hib his
          obtain ⟨⟨ia1, ia2⟩, ⟨ia3, ia4⟩, ⟨ia5, ia6⟩⟩ := hia
          obtain ⟨⟨ib1, ib2⟩, ⟨ib3, ib4⟩, ⟨ib5, ib6⟩⟩ := hib
          obtain ⟨⟨is1, is2⟩, ⟨is3, is4⟩, ⟨is5, is6⟩⟩ := his
          obtain ⟨in1, in2, in3⟩ := hnu
          have g7 := HU.out.n7
          have g8 := HU.out.n8
          have l6 := HU6.out.lt
          have l5 := HN6.out.lt
          have lo := HO6.out.lt
          have ne1 : ¬ q6 = q7 := by omega
          have ne2 : ¬ q6 = q8 := by omega
          have ne3 : ¬ q6 = w.heap.size + 1 := by have := HOL.out; omega
          have HNR : Hid (q6 ≠ w.heap.size) := Lib.hid (by have := HOL.out; omega)
          have HQ6 : Hid (w.heap.size ≤ q6) := Lib.hid (by have := HOL.out; omega)
          have ne4 : ¬ w.heap.size + 1 = q6 := by omega
          have ne5 : ¬ q6 = q5 := by have := H56.out; omega
          have HNE := Lib.hid ne3
          clear hbb HU HN6 HU6 HR6 HO6 HB6 g7 g8 l6 l5 lo HHH6 HHE6
          have n0 := HN7.out.at 0 _ rfl
          have n1 := HN7.out.at 1 _ rfl
          have n3 := HN7.out.at 3 _ rfl
          have o0 := HE7.out.at 0 _ rfl
          have o1 := HE7.out.at 1 _ rfl
          have o2 := HE7.out.at 2 _ rfl
          have of0 := HE7.out.free 0
          have of1 := HE7.out.free 1
          have of2 := HE7.out.free 2
          have r0 := HO7.out.at 0 _ rfl
          have r1 := HO7.out.at 1 _ rfl
          have r2 := HO7.out.at 2 _ rfl
          have rf0 := HO7.out.free 0
          have rf1 := HO7.out.free 1
          have rf2 := HO7.out.free 2
          have e70 := HC7.out.at 0 _ rfl
          have e71 := HC7.out.at 1 _ rfl
          have e72 := HC7.out.at 2 _ rfl
          have e80 := HC8.out.at 0 _ rfl
          have e81 := HC8.out.at 1 _ rfl
          have e82 := HC8.out.at 2 _ rfl
          have hl6 := HE7.out.lt
          have hlo := HO7.out.lt
          simp only at r0 r1 r2
          by_cases hd : d = 1
          · subst hd
            have hup : upA (s1, s2, s3) (upN 1 c1 n (a1, a2, a3) (b1, b2, b3)) = (min (s1 + (1)) 1099511627776, min (s2 + (1)) 1099511627776, min (s3 + (c1)) 1099511627776) := by simp [upA, upN]
            have hiu := upA_in HI.out HIV.out
            have HS' := HSUM.out
            rw [hup] at HS' hiu
            have HS2 := Lib.hid HS'
            have HI2 := Lib.hid hiu
            clear HS' hiu hup HSUM HI HIV HIA HIB HNU
            go_wp2_with fail
            go_roundw
            case rel => exact ⟨k + 1, _, by omega, by go_num, HS2, HI2, Lib.hid (Cs.ot3 _ _ _ (by omega) (HR7.out.other (p := ⟨q6, 1, none⟩) (by exact HNR.out) _)), Lib.hid (Cs.st3e (HO7.out.other (p := ⟨q6, 1, none⟩) (by exact HNE.out) _) (by first | (dsimp only; congr 1; omega) | (simp only [min_if]; done) | (simp only [max_if, min_if]; done)) (by first | (dsimp only; congr 1; omega) | (simp only [min_if]; done) | (simp only [max_if, min_if]; done)) (by first | (dsimp only; congr 1; omega) | (simp only [min_if]; done) | (simp only [max_if, min_if]; done))), Lib.hid (below_st3 _ _ _ _ (by omega) (HB7.out.setCell (p := ⟨q6, 1, none⟩) HQ6.out _))⟩
            case measure => simp [intOf]; omega
          by_cases hd3 : d = 3
          · subst hd3
            have hup : upA (s1, s2, s3) (upN 3 c1 n (a1, a2, a3) (b1, b2, b3)) = (min (s1 + (1 + max a1 b1)) 1099511627776, min (s2 + (max a2 b2)) 1099511627776, min (s3 + (c1 + max a3 b3)) 1099511627776) := by simp [upA, upN]
            have hiu := upA_in HI.out HIV.out
            have HS' := HSUM.out
            rw [hup] at HS' hiu
            have HS2 := Lib.hid HS'
            have HI2 := Lib.hid hiu
            clear HS' hiu hup HSUM HI HIV HIA HIB HNU
            go_wp2_with fail
            go_roundw
            case rel => exact ⟨k + 1, _, by omega, by go_num, HS2, HI2, Lib.hid (Cs.ot3 _ _ _ (by omega) (Cs.ot3 _ _ _ HNR.out HR7.out)), Lib.hid (Cs.st3e (Cs.ot3 _ _ _ HNE.out HO7.out) (by first | (dsimp only; congr 1; omega) | (simp only [min_if]; done) | (simp only [max_if, min_if]; done)) (by first | (dsimp only; congr 1; omega) | (simp only [min_if]; done) | (simp only [max_if, min_if]; done)) (by first | (dsimp only; congr 1; omega) | (simp only [min_if]; done) | (simp only [max_if, min_if]; done))), Lib.hid (below_st3 _ _ _ _ (by omega) (below_st3 _ _ _ _ HQ6.out HB7.out))⟩
            case measure => simp [intOf]; omega
          by_cases hd4 : d = 4
          · subst hd4
            have k1 := mul_cut (in3 rfl).1 (in3 rfl).2 (x := 1 + a1) (by omega) (by omega)
            have k2 := mul_cut (in3 rfl).1 (in3 rfl).2 (x := a2) (by omega) (by omega)
            have k3 := mul_cut (in3 rfl).1 (in3 rfl).2 (x := c1 + a3) (by omega) (by omega)
            obtain ⟨k11, k12⟩ := k1
            obtain ⟨k21, k22⟩ := k2
            obtain ⟨k31, k32⟩ := k3
            have hup : upA (s1, s2, s3) (upN 4 c1 n (a1, a2, a3) (b1, b2, b3)) = (min (s1 + (1 + n * (1 + a1))) 1099511627776, min (s2 + (n * a2)) 1099511627776, min (s3 + (n * (c1 + a3))) 1099511627776) := by simp [upA, upN]
            have hiu := upA_in HI.out HIV.out
            have HS' := HSUM.out
            rw [hup] at HS' hiu
            have HS2 := Lib.hid HS'
            have HI2 := Lib.hid hiu
            clear HS' hiu hup HSUM HI HIV HIA HIB HNU
            go_wp2_with fail
            go_roundw
            case rel => exact ⟨k + 1, _, by omega, by go_num, HS2, HI2, Lib.hid (Cs.ot3 _ _ _ (by omega) (Cs.ot3 _ _ _ HNR.out HR7.out)), Lib.hid (Cs.st3e (Cs.ot3 _ _ _ HNE.out HO7.out) (by first | (dsimp only; congr 1; omega) | (simp only [min_if]; done) | (simp only [max_if, min_if]; done)) (by first | (dsimp only; congr 1; omega) | (simp only [min_if]; done) | (simp only [max_if, min_if]; done)) (by first | (dsimp only; congr 1; omega) | (simp only [min_if]; done) | (simp only [max_if, min_if]; done))), Lib.hid (below_st3 _ _ _ _ (by omega) (below_st3 _ _ _ _ HQ6.out HB7.out))⟩
            case measure => simp [intOf]; omega
          have hb1 := beq_of hd
          have hb3 := beq_of hd3
          have hb4 := beq_of hd4
          have hup : upA (s1, s2, s3) (upN d c1 n (a1, a2, a3) (b1, b2, b3)) = (min (s1 + (1)) 1099511627776, min (s2 + (0)) 1099511627776, min (s3 + (c1)) 1099511627776) := by simp [upA, upN, hd, hd3, hd4]
          have hiu := upA_in HI.out HIV.out
          have HS' := HSUM.out
          rw [hup] at HS' hiu
          have HS2 := Lib.hid HS'
          have HI2 := Lib.hid hiu
          clear HS' hiu hup HSUM HI HIV HIA HIB HNU
          go_wp2_with fail
          go_roundw
          case rel => exact ⟨k + 1, _, by omega, by go_num, HS2, HI2, Lib.hid (Cs.ot3 _ _ _ (by omega) HR7.out), Lib.hid (Cs.st3e HO7.out (by first | (dsimp only; congr 1; omega) | (simp only [min_if]; done) | (simp only [max_if, min_if]; done)) (by first | (dsimp only; congr 1; omega) | (simp only [min_if]; done) | (simp only [max_if, min_if]; done)) (by first | (dsimp only; congr 1; omega) | (simp only [min_if]; done) | (simp only [max_if, min_if]; done))), Lib.hid (below_st3 _ _ _ _ (by omega) HB7.out)⟩
          case measure => simp [intOf]; omega
      · obtain rfl : k = l := by omega
        have hr : (s1, s2, s3) = r := by rw [← HS.out, List.drop_of_length_le (by rw [HL.out]; exact Nat.le_refl _), upL]
        subst hr
        clear HS
        have o0 := HO.out.at 0 _ rfl
        have o1 := HO.out.at 1 _ rfl
        have o2 := HO.out.at 2 _ rfl
        have p0 := HR.out.free 0
        have p1 := HR.out.free 1
        have p2 := HR.out.free 2
        have q0 := HR.out.at 0 _ rfl
        have q1 := HR.out.at 1 _ rfl
        have q2 := HR.out.at 2 _ rfl
        have hrl := HR.out.lt
        go_wp2_with fail
        have HF := HR.out.st3 (.int .i64 s1) (.int .i64 s2) (.int .i64 s3)
        have z0 := HF.at 0 _ rfl
        have z1 := HF.at 1 _ rfl
        have z2 := HF.at 2 _ rfl
        refine bodyPost_ret (v := .agg #[.int .i64 s1, .int .i64 s2, .int .i64 s3]) (by simp [results, Tryz.results32, go_sem, z0, z1, z2]) rfl ?_
        exact ⟨rfl, below_st3 _ _ _ _ (Nat.le_refl _) HB.out⟩
end Go.Proofs.YtjpjmoejdkmglaaGreat
