/-
  The walks over the reference's Compare, over the library's Clone of integers and over Seen.
-/
import Derived.Test.YtjpjmoejdkmglaaFlQa
namespace Go.Proofs.Ytjpjmoejdkmglaa
open Go.RowKit

set_option maxRecDepth 100000 in
set_option maxHeartbeats 4000000 in
theorem rCompare_b (bs bs' : List Int) (s t : Int) (A A' : Option Addr) (l c l' c' : Nat) (r : Int) (H : Hid (cmpO bs bs' s t = r)) (w : World) (hz : Zs w A l c bs) (hz' : Zs w A' l' c' bs') :
    Calls Try.prog 24 #[.agg #[.slice A l c, .int .i64 s], .agg #[.slice A' l' c', .int .i64 t]] w fun e w' => e = .returned (.int .i64 r) ∧ Below w.heap.size w w' := by
  have hlm : l ≤ 9223372036854775807 := by have h1 := hz.cap; have h2 := hz.big; unfold maxLen at h2; omega
  have HL := Lib.hid hz.len
  have HL' := Lib.hid hz'.len
  have hb1 := (Below.refl w.heap.size w).alloc (Nat.le_refl _) (.cells #[.slice A l c, .int .i64 s] 36)
  have hb2 := hb1.alloc hb1.size (.cells #[.slice A' l' c', .int .i64 t] 36)
  have HB := Lib.hid hb2
  have HN := Lib.hid ((Cs.new w #[.slice A l c, .int .i64 s] 36).alloc (.cells #[.slice A' l' c', .int .i64 t] 36))
  have HM := Lib.hid (Cs.new1 w (.cells #[.slice A l c, .int .i64 s] 36) #[.slice A' l' c', .int .i64 t] 36)
  have HZ := Lib.hid (hz.below hb2)
  have HZ' := Lib.hid (hz'.below hb2)
  clear hb1 hb2 hz hz'
  go_enter Try.func24, Try.ntmps24
  go_upto_region 1 with fail
  obtain ⟨w1, hw1⟩ : ∃ w1, (w.alloc (.cells #[.slice A l c, .int .i64 s] 36)).alloc (.cells #[.slice A' l' c', .int .i64 t] 36) = w1 := ⟨_, rfl⟩
  obtain ⟨pa, hpa⟩ : ∃ p, w.heap.size = p := ⟨_, rfl⟩
  rw [hw1] at HB HN HM HZ HZ'
  rw [hpa] at HN HM
  rw [hw1, hpa]
  clear hw1 hpa
  go_wp2_with fail
  go_loopw [5] (fun v wr => ∃ k : Nat, k ≤ l ∧ k ≤ l' ∧ v = .int .i64 k ∧ Hid (∀ j, j < k → bs.getD j 0 = bs'.getD j 0) ∧ Hid (Below w1.heap.size w1 wr)) (fun v _ => l - (intOf v).toNat)
  case atStart => exact ⟨0, by omega, by omega, rfl, Lib.hid (fun j h => absurd h (by omega)), Lib.hid (Below.refl _ _)⟩
  case round =>
    obtain ⟨k, hk, hk', rfl, HK, HW⟩ := hrel
    have n0 := (HN.out.next HW.out).at 0 _ rfl
    have n1 := (HN.out.next HW.out).at 1 _ rfl
    have m0 := (HM.out.next HW.out).at 0 _ rfl
    have m1 := (HM.out.next HW.out).at 1 _ rfl
    have HBw := Lib.hid (HB.out.trans (HW.out.mono HB.out.size))
    by_cases hlt : k < l ∧ k < l'
    · obtain ⟨ha, hb⟩ := hlt
      obtain ⟨g, f, hA, hg, hc⟩ := (HZ.out.below HW.out).mem (by omega)
      obtain ⟨g', f', hA', hg', hc'⟩ := (HZ'.out.below HW.out).mem (by omega)
      subst hA hA'
      have ha' : (k : Int) < (l : Int) := by omega
      have hb' : (k : Int) < (l' : Int) := by omega
      have hk0 : (0 : Int) ≤ (k : Int) := by omega
      have hd1 : decide ((k : Int) < (l : Int)) = true := decide_eq_true ha'
      have hd2 : decide (k < l) = true := decide_eq_true ha
      have hd3 : decide ((k : Int) < (l' : Int)) = true := decide_eq_true hb'
      have hd4 : decide (k < l') = true := decide_eq_true hb
      have ck := hc k ha
      have ck' := hc' k hb
      obtain ⟨x, hx⟩ : ∃ x, bs.getD k 0 = x := ⟨_, rfl⟩
      obtain ⟨x', hx'⟩ : ∃ x, bs'.getD k 0 = x := ⟨_, rfl⟩
      rw [hx] at ck
      rw [hx'] at ck'
      have HX := Lib.hid hx
      have HX' := Lib.hid hx'
      have KP : Hid (∀ W, Below wr.heap.size wr W → (W.cell? ⟨pa, 0, none⟩ = some (.slice (some ⟨g, f, none⟩) l c) ∧ W.cell? ⟨pa + 1, 0, none⟩ = some (.slice (some ⟨g', f', none⟩) l' c') ∧ W.cell? ⟨g, f + k, none⟩ = some (.int .i64 x) ∧ W.cell? ⟨g', f' + k, none⟩ = some (.int .i64 x'))) := fun W h => ⟨((HN.out.next HW.out).next h).at 0 _ rfl, ((HM.out.next HW.out).next h).at 0 _ rfl, (h.cell (p := ⟨g, _, none⟩) hg).trans ck, (h.cell (p := ⟨g', _, none⟩) hg').trans ck'⟩
      clear hc hc' hx hx'
      by_cases hxx : x = x'
      · subst hxx
        have HK' : Hid (∀ j, j < k + 1 → bs.getD j 0 = bs'.getD j 0) := fun j hj => by
          by_cases e : j = k
          · subst e; rw [HX.out, HX'.out]
          · exact HK.out j (by omega)
        clear HK
        go_wp2_with fail
        go_quiet (fail)
        go_wp2_with fail
        go_roundw
        case rel => exact ⟨k + 1, by omega, by omega, by go_num, HK', Lib.hid (below_drewN HW.out _)⟩
        case measure => simp [intOf]; omega
      · have hne := bne_of hxx
        have hr : r = cmpZ x x' := by
          rw [← H.out, cmpO]
          have h1 := cmpL_at bs bs' k (by rw [HL.out]; exact ha) (by rw [HL'.out]; exact hb) HK.out (by rw [HX.out, HX'.out]; exact hxx)
          rw [HX.out, HX'.out] at h1
          have h2 : cmpZ x x' ≠ 0 := by
            rcases cmpZ_cases x x' with ⟨h3, _⟩ | ⟨_, h4⟩ | ⟨h3, _⟩
            · rw [h3]; decide
            · exact absurd h4 hxx
            · rw [h3]; decide
          rw [h1, if_pos h2]
        have HR := Lib.hid hr
        clear H HK hxx hr
        go_wp2_with fail
        go_quiet (fail)
        rename_i nq
        go_upto_region 5 with fail
        have HD0 := Lib.hid (below_drewN (Below.refl wr.heap.size wr) nq)
        obtain ⟨w2, hw2⟩ : ∃ w2, wr.drewN nq = w2 := ⟨_, rfl⟩
        rw [hw2] at HD0
        rw [hw2]
        obtain ⟨z, hz⟩ : ∃ z, cmpZ x x' = z := ⟨_, rfl⟩
        have HZZ := Lib.hid hz
        have hk1 : (k : Int) < (l : Int) := ha'
        clear hw2 n0 n1 m0 m1 ck ck' hz
        go_region_held3 (fun W => W.cell? ⟨pa, 0, none⟩ = some (.slice (some ⟨g, f, none⟩) l c) ∧ W.cell? ⟨pa + 1, 0, none⟩ = some (.slice (some ⟨g', f', none⟩) l' c') ∧ W.cell? ⟨g, f + k, none⟩ = some (.int .i64 x) ∧ W.cell? ⟨g', f' + k, none⟩ = some (.int .i64 x')) (first | exact KP.out _ HD0.out.drew) (first
          | (go_at_call 62; refine (rorder_b x x' z HZZ _).mono ?_; rintro e w3 ⟨rfl, rfl⟩))
        have hrz : r = z := HR.out.trans HZZ.out
        subst hrz
        go_wp2_with fail
        go_ret
        exact ⟨rfl, (HBw.out.trans (HD0.out.mono HBw.out.size)).drew⟩
    · have hor : l ≤ k ∨ l' ≤ k := by omega
      have hpre : cmpL bs bs' = cmpZ l l' := by
        rw [cmpL_pre bs bs' (fun j h1 h2 => HK.out j (by rw [HL.out] at h1; rw [HL'.out] at h2; omega)), HL.out, HL'.out]
      have hsum : (if cmpZ l l' ≠ 0 then cmpZ l l' else cmpZ s t) = r := by rw [← H.out, cmpO, hpre]
      have HSUM := Lib.hid hsum
      clear hpre hsum H HK
      by_cases hll : l = l'
      · have hcz : cmpZ l l' = 0 := by unfold cmpZ; rw [if_neg (by omega), if_neg (by omega)]
        have hr : r = cmpZ s t := by rw [← HSUM.out, hcz, if_neg (by simp)]
        have HR := Lib.hid hr.symm
        have hne : ((l : Int) != (l' : Int)) = false := by simp [hll]
        have hne2 : (l != l') = false := by simp [hll]
        have hnk : ¬ (k : Int) < (l : Int) := by omega
        have hnk2 : ¬ k < l := by omega
        have hd1 : decide ((k : Int) < (l : Int)) = false := decide_eq_false hnk
        have hd2 : decide (k < l) = false := decide_eq_false hnk2
        clear hcz hr HSUM hll hor
        go_wp2_with fail
        go_at_call 62
        refine (rorder_b s t r HR _).mono ?_
        rintro e w3 ⟨rfl, rfl⟩
        go_wp2_with fail
        go_ret
        exact ⟨rfl, HBw.out⟩
      · have hcz : cmpZ l l' ≠ 0 := by
          rcases cmpZ_cases (l : Int) (l' : Int) with ⟨h3, _⟩ | ⟨_, h4⟩ | ⟨h3, _⟩
          · rw [h3]; decide
          · omega
          · rw [h3]; decide
        have hr : cmpZ l l' = r := by rw [← HSUM.out, if_pos hcz]
        have HR := Lib.hid hr
        have hne : ((l : Int) != (l' : Int)) = true := bne_of (by omega)
        have hne2 : (l != l') = true := by simpa using hll
        clear hcz hr HSUM
        by_cases ha : k < l
        · have ha' : (k : Int) < (l : Int) := by omega
          have hd1 : decide ((k : Int) < (l : Int)) = true := decide_eq_true ha'
          have hd2 : decide (k < l) = true := decide_eq_true ha
          have hd3 : decide ((k : Int) < (l' : Int)) = false := decide_eq_false (by omega)
          have hd4 : decide (k < l') = false := decide_eq_false (by omega)
          clear hor
          go_wp2_with fail
          go_at_call 62
          refine (rorder_b l l' r HR _).mono ?_
          rintro e w3 ⟨rfl, rfl⟩
          go_wp2_with fail
          go_ret
          exact ⟨rfl, HBw.out⟩
        · have ha' : ¬ (k : Int) < (l : Int) := by omega
          have hd1 : decide ((k : Int) < (l : Int)) = false := decide_eq_false ha'
          have hd2 : decide (k < l) = false := decide_eq_false ha
          clear hor
          go_wp2_with fail
          go_at_call 62
          refine (rorder_b l l' r HR _).mono ?_
          rintro e w3 ⟨rfl, rfl⟩
          go_wp2_with fail
          go_ret
          exact ⟨rfl, HBw.out⟩
end Go.Proofs.Ytjpjmoejdkmglaa
