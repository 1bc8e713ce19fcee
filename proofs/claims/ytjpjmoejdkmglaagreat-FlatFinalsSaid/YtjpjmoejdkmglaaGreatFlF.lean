/-
  The walk over rule at the operators that choose.
-/
import Derived.Test.YtjpjmoejdkmglaaGreatFlE
namespace Go.Proofs.YtjpjmoejdkmglaaGreat
open Go.RowKit

set_option maxRecDepth 100000 in
set_option maxHeartbeats 2000000 in
theorem rule_cond (vs : List Vr) (Av : Option Addr) (lv cv : Nat) (n : Int) (A : Option Addr) (l c : Nat) (k : List (Int × Int)) (Ak : Option Addr) (lk ck : Nat) (R : Int × Int) (H : Hid (ruleP vs 23 n k = R)) (hl : 2 ≤ lk) (w : World) (hv : VOk w Av lv cv vs) (hr : Rs w Ak lk ck k) :
    Calls Tryz.prog 106 #[.slice Av lv cv, .agg #[.int .i64 23, .int .i64 n, .slice A l c], .slice Ak lk ck] w fun e w' => e = .returned (.agg #[.int .i64 R.1, .int .i64 R.2]) ∧ Below w.heap.size w w' := by
  have hlk : lk ≤ 9223372036854775807 := by have h1 := hr.cap; have h2 := hr.big; unfold maxLen at h2; omega
  have hlv : lv ≤ 9223372036854775807 := by have h1 := hv.cap; have h2 := hv.big; unfold maxLen at h2; omega
  have HB := Lib.hid (boxR_below w 23 n A l c)
  have HC := Lib.hid (boxR_cs w 23 n A l c).1
  have HR := Lib.hid (boxR_cs w 23 n A l c).2
  have HV := Lib.hid (hv.below HB.out)
  have HK := Lib.hid (hr.below HB.out)
  obtain ⟨W, hW⟩ : ∃ W, boxR w 23 n A l c = W := ⟨_, rfl⟩
  rw [hW] at HB HC HR HV HK
  unfold boxR boxT at hW
  have HW := Lib.hid hW
  clear hW hv hr
  have hRR : R = (k.drop 2).foldl hullR (k.getD 1 (0, 0)) := by rw [← H.out]; unfold ruleP; rw [if_neg (by decide), if_neg (by decide), if_neg (by decide), if_neg (by decide), if_neg (by decide), if_neg (by decide), if_neg (by decide), if_neg (by decide), if_neg (by decide), if_neg (by decide), if_pos (by decide)]
  have HRR := Lib.hid hRR
  have HKL := Lib.hid HK.out.len
  clear H hRR
  obtain ⟨g, f, hA, hg, hkc⟩ := HK.out.mem (by omega)
  subst hA
  obtain ⟨k10, k11⟩ := hkc 1 (by omega)
  rw [Nat.one_mul] at k10 k11
  obtain ⟨⟨b0, b1⟩, hb⟩ : ∃ x, k.getD 1 (0, 0) = x := ⟨_, rfl⟩
  rw [hb] at k10 k11 HRR
  simp only at k10 k11
  have HKC : Hid (∀ j, j < lk - 2 → W.cell? ⟨g, f + 4 + j * 2, none⟩ = some (.int .i64 (k.getD (j + 2) (0, 0)).1) ∧ W.cell? ⟨g, f + 4 + j * 2 + 1, none⟩ = some (.int .i64 (k.getD (j + 2) (0, 0)).2)) := fun j hj => by
    have := hkc (j + 2) (by omega)
    rw [show f + (j + 2) * 2 = f + 4 + j * 2 by omega] at this
    exact this
  obtain ⟨m, hm⟩ : ∃ m, lk - 2 = m := ⟨_, rfl⟩
  have hlm : lk = m + 2 := by omega
  have hck : lk ≤ ck := HK.out.cap
  have hck2 := HK.out.big
  rw [hm] at HKC
  have HCK := Lib.hid hck2
  clear hkc hb hck2 hm
  have r0 := HC.out.at 0 _ rfl
  have r1 := HC.out.at 1 _ rfl
  have r2 := HC.out.at 2 _ rfl
  have q0 := HR.out.at 0 _ rfl
  have q1 := HR.out.at 1 _ rfl
  have p0 := HR.out.free 0
  have p1 := HR.out.free 1
  have hrl := HR.out.lt
  go_enter Tryz.func106, Tryz.ntmps106
  go_upto_region 1 with fail
  rw [HW.out]
  have hW0 := HR.out.lt
  go_upto_region 33 with fail
  have hba := (Below.refl W.heap.size W).alloc (Nat.le_refl _) (.cells #[.int .i64 b0, .int .i64 b1] 132)
  have HOX := Lib.hid (Cs.new W #[.int .i64 b0, .int .i64 b1] 132)
  have HRX := Lib.hid (HR.out.next hba)
  have HBX := Lib.hid (HB.out.trans (hba.mono HB.out.size))
  have HWX := Lib.hid hba
  obtain ⟨ob, hob⟩ : ∃ b, W.heap.size = b := ⟨_, rfl⟩
  obtain ⟨X, hX⟩ : ∃ X, W.alloc (.cells #[.int .i64 b0, .int .i64 b1] 132) = X := ⟨_, rfl⟩
  rw [hX] at HOX HRX HBX HWX
  rw [hob] at HOX HWX
  rw [hX, hob]
  have hgo : g < ob := by omega
  have hro : w.heap.size + 1 < ob := by omega
  have HGL := Lib.hid hg
  have HOB := Lib.hid hob
  clear hba hX hob k10 k11 r0 r1 r2 q0 q1 p0 p1 hrl hW0
  subst hlm
  by_cases hc2 : ck = 2
  case pos =>
    obtain rfl : m = 0 := by omega
    subst hc2
    go_wp2_with fail
    go_loopw [209] (fun v wr => v = .int .i64 0 ∧ Hid (wr = X)) (fun v _ => 0)
    case atStart => exact ⟨rfl, rfl⟩
    case round =>
      obtain ⟨rfl, HWR⟩ := hrel
      have hwr := HWR.out
      subst hwr
      have hR2 : R = (b0, b1) := by rw [HRR.out, List.drop_eq_nil_of_le (by rw [HKL.out]; exact Nat.le_refl _)]; rfl
      subst hR2
      have o0 := HOX.out.at 0 _ rfl
      have o1 := HOX.out.at 1 _ rfl
      have r0 := HRX.out.at 0 _ rfl
      have r1 := HRX.out.at 1 _ rfl
      have f0 := HRX.out.free 0
      have f1 := HRX.out.free 1
      have hrl := HRX.out.lt
      go_wp2_with fail
      obtain ⟨z0, z1⟩ := two_cells HRX.out (.int .i64 b0) (.int .i64 b1)
      refine bodyPost_ret (v := .agg #[.int .i64 b0, .int .i64 b1]) (by simp [results, Tryz.results106, go_sem, z0, z1]) rfl ?_
      exact ⟨rfl, fin_two (b := w.heap.size + 1) (by omega) HBX.out _ _⟩
  go_wp2_with fail
  go_loopw [209] (fun v wr => ∃ (j : Nat) (x y : Int), j ≤ m ∧ v = .int .i64 j ∧ Hid ((x, y) = ((k.drop 2).take j).foldl hullR (b0, b1)) ∧ Hid (Cs wr (w.heap.size + 1) [.int .i64 0, .int .i64 0]) ∧ Hid (Cs wr ob [.int .i64 x, .int .i64 y]) ∧ Hid (Below ob W wr) ∧ Hid (Below w.heap.size w wr)) (fun v _ => m - (intOf v).toNat)
  case atStart => exact ⟨0, b0, b1, by omega, rfl, rfl, HRX, HOX, HWX, HBX⟩
  case round =>
    clear HRX HOX HWX HBX
    obtain ⟨j, x, y, hj, rfl, HXY, HR, HO, HWW, HB⟩ := hrel
    have o0 := HO.out.at 0 _ rfl
    have o1 := HO.out.at 1 _ rfl
    have p0 := HO.out.free 0
    have p1 := HO.out.free 1
    have hol := HO.out.lt
    by_cases hlt : j < m
    · have hjk : j + 2 < k.length := by rw [HKL.out]; omega
      obtain ⟨c0, c1⟩ := HKC.out j hlt
      have hgW : g < ob := hgo
      have c0' := (HWW.out.cell (p := ⟨g, f + 4 + j * 2, none⟩) hgo).trans c0
      have c1' := (HWW.out.cell (p := ⟨g, f + 4 + j * 2 + 1, none⟩) hgo).trans c1
      obtain ⟨⟨u, v⟩, huv⟩ : ∃ r, k.getD (j + 2) (0, 0) = r := ⟨_, rfl⟩
      rw [huv] at c0' c1'
      simp only at c0' c1'
      have htk : (k.drop 2).take (j + 1) = (k.drop 2).take j ++ [(u, v)] := by
        rw [take_one _ j (by rw [List.length_drop]; omega), List.getElem_drop]
        congr 2
        rw [List.getD_eq_getElem?_getD, List.getElem?_eq_getElem hjk] at huv
        rw [← huv]
        simp [Nat.add_comm]
      obtain ⟨x', hx'⟩ : ∃ z, min x u = z := ⟨_, rfl⟩
      obtain ⟨y', hy'⟩ : ∃ z, max y v = z := ⟨_, rfl⟩
      have HXY' : Hid ((x', y') = ((k.drop 2).take (j + 1)).foldl hullR (b0, b1)) := by
        show _ = _
        rw [htk, List.foldl_append, ← HXY.out, ← hx', ← hy']
        rfl
      have H1 := Lib.hid hx'
      have H2 := Lib.hid hy'
      have hlt' : (j : Int) < (m : Int) := by omega
      have hba := (Below.refl wr.heap.size wr).alloc (Nat.le_refl _) (.cells #[.int .i64 u, .int .i64 v] 132)
      have HR2 := Lib.hid (HR.out.next hba)
      have HO2 := Lib.hid (HO.out.next hba)
      have HW2 := Lib.hid (HWW.out.trans (hba.mono (by omega)))
      have HB2 := Lib.hid (HB.out.trans (hba.mono HB.out.size))
      clear huv htk hx' hy' HXY c0 c1 hba
      go_wp2_with fail
      go_at_call 111
      refine (hull_b x y u v x' y' H1 H2 _).mono ?_
      rintro e w6 ⟨rfl, hb⟩
      have HR6 := Lib.hid (HR2.out.next hb)
      have HO6 := Lib.hid (HO2.out.next hb)
      have HW6 := Lib.hid (HW2.out.trans (hb.mono (by simp; omega)))
      have HB6 := Lib.hid (HB2.out.trans (hb.mono HB2.out.size))
      clear hb HR HO HB HWW HR2 HO2 HW2 HB2 o0 o1 p0 p1 c0' c1'
      have o0 := HO6.out.at 0 _ rfl
      have o1 := HO6.out.at 1 _ rfl
      have p0 := HO6.out.free 0
      have p1 := HO6.out.free 1
      have hol6 := HO6.out.lt
      have hbw : w.heap.size ≤ ob := by omega
      have HO7 := Lib.hid ((HO6.out.set 0 (.int .i64 x') (by simp)).set 1 (.int .i64 y') (by simp))
      have HR7 := Lib.hid ((HR6.out.other (p := ⟨ob, 0, none⟩) (by show ob ≠ _; omega) (.int .i64 x')).other (p := ⟨ob, 1, none⟩) (by show ob ≠ _; omega) (.int .i64 y'))
      have HW7 := Lib.hid ((HW6.out.setCell (p := ⟨ob, 0, none⟩) (Nat.le_refl _) (.int .i64 x')).setCell (p := ⟨ob, 1, none⟩) (Nat.le_refl _) (.int .i64 y'))
      have HB7 := Lib.hid ((HB6.out.setCell (p := ⟨ob, 0, none⟩) hbw (.int .i64 x')).setCell (p := ⟨ob, 1, none⟩) hbw (.int .i64 y'))
      go_wp2_with fail
      go_roundw
      case rel => exact ⟨j + 1, x', y', by omega, by go_num, HXY', HR7, HO7, HW7, HB7⟩
      case measure => simp [intOf]; omega
    · obtain rfl : j = m := by omega
      have hR2 : R = (x, y) := by rw [HRR.out, HXY.out, List.take_of_length_le (by rw [List.length_drop, HKL.out]; omega)]
      subst hR2
      have r0 := HR.out.at 0 _ rfl
      have r1 := HR.out.at 1 _ rfl
      have f0 := HR.out.free 0
      have f1 := HR.out.free 1
      have hrl := HR.out.lt
      go_wp2_with fail
      obtain ⟨z0, z1⟩ := two_cells HR.out (.int .i64 x) (.int .i64 y)
      refine bodyPost_ret (v := .agg #[.int .i64 x, .int .i64 y]) (by simp [results, Tryz.results106, go_sem, z0, z1]) rfl ?_
      exact ⟨rfl, fin_two (b := w.heap.size + 1) (by omega) HB.out _ _⟩

set_option maxRecDepth 100000 in
set_option maxHeartbeats 2000000 in
theorem rule_sel (vs : List Vr) (Av : Option Addr) (lv cv : Nat) (n : Int) (A : Option Addr) (l c : Nat) (k : List (Int × Int)) (Ak : Option Addr) (lk ck : Nat) (R : Int × Int) (H : Hid (ruleP vs 25 n k = R)) (hl : 2 ≤ lk) (w : World) (hv : VOk w Av lv cv vs) (hr : Rs w Ak lk ck k) :
    Calls Tryz.prog 106 #[.slice Av lv cv, .agg #[.int .i64 25, .int .i64 n, .slice A l c], .slice Ak lk ck] w fun e w' => e = .returned (.agg #[.int .i64 R.1, .int .i64 R.2]) ∧ Below w.heap.size w w' := by
  have hlk : lk ≤ 9223372036854775807 := by have h1 := hr.cap; have h2 := hr.big; unfold maxLen at h2; omega
  have hlv : lv ≤ 9223372036854775807 := by have h1 := hv.cap; have h2 := hv.big; unfold maxLen at h2; omega
  have HB := Lib.hid (boxR_below w 25 n A l c)
  have HC := Lib.hid (boxR_cs w 25 n A l c).1
  have HR := Lib.hid (boxR_cs w 25 n A l c).2
  have HV := Lib.hid (hv.below HB.out)
  have HK := Lib.hid (hr.below HB.out)
  obtain ⟨W, hW⟩ : ∃ W, boxR w 25 n A l c = W := ⟨_, rfl⟩
  rw [hW] at HB HC HR HV HK
  unfold boxR boxT at hW
  have HW := Lib.hid hW
  clear hW hv hr
  have hRR : R = (k.drop 2).foldl hullR (k.getD 1 (0, 0)) := by rw [← H.out]; unfold ruleP; rw [if_neg (by decide), if_neg (by decide), if_neg (by decide), if_neg (by decide), if_neg (by decide), if_neg (by decide), if_neg (by decide), if_neg (by decide), if_neg (by decide), if_neg (by decide), if_pos (by decide)]
  have HRR := Lib.hid hRR
  have HKL := Lib.hid HK.out.len
  clear H hRR
  obtain ⟨g, f, hA, hg, hkc⟩ := HK.out.mem (by omega)
  subst hA
  obtain ⟨k10, k11⟩ := hkc 1 (by omega)
  rw [Nat.one_mul] at k10 k11
  obtain ⟨⟨b0, b1⟩, hb⟩ : ∃ x, k.getD 1 (0, 0) = x := ⟨_, rfl⟩
  rw [hb] at k10 k11 HRR
  simp only at k10 k11
  have HKC : Hid (∀ j, j < lk - 2 → W.cell? ⟨g, f + 4 + j * 2, none⟩ = some (.int .i64 (k.getD (j + 2) (0, 0)).1) ∧ W.cell? ⟨g, f + 4 + j * 2 + 1, none⟩ = some (.int .i64 (k.getD (j + 2) (0, 0)).2)) := fun j hj => by
    have := hkc (j + 2) (by omega)
    rw [show f + (j + 2) * 2 = f + 4 + j * 2 by omega] at this
    exact this
  obtain ⟨m, hm⟩ : ∃ m, lk - 2 = m := ⟨_, rfl⟩
  have hlm : lk = m + 2 := by omega
  have hck : lk ≤ ck := HK.out.cap
  have hck2 := HK.out.big
  rw [hm] at HKC
  have HCK := Lib.hid hck2
  clear hkc hb hck2 hm
  have r0 := HC.out.at 0 _ rfl
  have r1 := HC.out.at 1 _ rfl
  have r2 := HC.out.at 2 _ rfl
  have q0 := HR.out.at 0 _ rfl
  have q1 := HR.out.at 1 _ rfl
  have p0 := HR.out.free 0
  have p1 := HR.out.free 1
  have hrl := HR.out.lt
  go_enter Tryz.func106, Tryz.ntmps106
  go_upto_region 1 with fail
  rw [HW.out]
  have hW0 := HR.out.lt
  go_upto_region 33 with fail
  have hba := (Below.refl W.heap.size W).alloc (Nat.le_refl _) (.cells #[.int .i64 b0, .int .i64 b1] 132)
  have HOX := Lib.hid (Cs.new W #[.int .i64 b0, .int .i64 b1] 132)
  have HRX := Lib.hid (HR.out.next hba)
  have HBX := Lib.hid (HB.out.trans (hba.mono HB.out.size))
  have HWX := Lib.hid hba
  obtain ⟨ob, hob⟩ : ∃ b, W.heap.size = b := ⟨_, rfl⟩
  obtain ⟨X, hX⟩ : ∃ X, W.alloc (.cells #[.int .i64 b0, .int .i64 b1] 132) = X := ⟨_, rfl⟩
  rw [hX] at HOX HRX HBX HWX
  rw [hob] at HOX HWX
  rw [hX, hob]
  have hgo : g < ob := by omega
  have hro : w.heap.size + 1 < ob := by omega
  have HGL := Lib.hid hg
  have HOB := Lib.hid hob
  clear hba hX hob k10 k11 r0 r1 r2 q0 q1 p0 p1 hrl hW0
  subst hlm
  by_cases hc2 : ck = 2
  case pos =>
    obtain rfl : m = 0 := by omega
    subst hc2
    go_wp2_with fail
    go_loopw [209] (fun v wr => v = .int .i64 0 ∧ Hid (wr = X)) (fun v _ => 0)
    case atStart => exact ⟨rfl, rfl⟩
    case round =>
      obtain ⟨rfl, HWR⟩ := hrel
      have hwr := HWR.out
      subst hwr
      have hR2 : R = (b0, b1) := by rw [HRR.out, List.drop_eq_nil_of_le (by rw [HKL.out]; exact Nat.le_refl _)]; rfl
      subst hR2
      have o0 := HOX.out.at 0 _ rfl
      have o1 := HOX.out.at 1 _ rfl
      have r0 := HRX.out.at 0 _ rfl
      have r1 := HRX.out.at 1 _ rfl
      have f0 := HRX.out.free 0
      have f1 := HRX.out.free 1
      have hrl := HRX.out.lt
      go_wp2_with fail
      obtain ⟨z0, z1⟩ := two_cells HRX.out (.int .i64 b0) (.int .i64 b1)
      refine bodyPost_ret (v := .agg #[.int .i64 b0, .int .i64 b1]) (by simp [results, Tryz.results106, go_sem, z0, z1]) rfl ?_
      exact ⟨rfl, fin_two (b := w.heap.size + 1) (by omega) HBX.out _ _⟩
  go_wp2_with fail
  go_loopw [209] (fun v wr => ∃ (j : Nat) (x y : Int), j ≤ m ∧ v = .int .i64 j ∧ Hid ((x, y) = ((k.drop 2).take j).foldl hullR (b0, b1)) ∧ Hid (Cs wr (w.heap.size + 1) [.int .i64 0, .int .i64 0]) ∧ Hid (Cs wr ob [.int .i64 x, .int .i64 y]) ∧ Hid (Below ob W wr) ∧ Hid (Below w.heap.size w wr)) (fun v _ => m - (intOf v).toNat)
  case atStart => exact ⟨0, b0, b1, by omega, rfl, rfl, HRX, HOX, HWX, HBX⟩
  case round =>
    clear HRX HOX HWX HBX
    obtain ⟨j, x, y, hj, rfl, HXY, HR, HO, HWW, HB⟩ := hrel
    have o0 := HO.out.at 0 _ rfl
    have o1 := HO.out.at 1 _ rfl
    have p0 := HO.out.free 0
    have p1 := HO.out.free 1
    have hol := HO.out.lt
    by_cases hlt : j < m
    · have hjk : j + 2 < k.length := by rw [HKL.out]; omega
      obtain ⟨c0, c1⟩ := HKC.out j hlt
      have hgW : g < ob := hgo
      have c0' := (HWW.out.cell (p := ⟨g, f + 4 + j * 2, none⟩) hgo).trans c0
      have c1' := (HWW.out.cell (p := ⟨g, f + 4 + j * 2 + 1, none⟩) hgo).trans c1
      obtain ⟨⟨u, v⟩, huv⟩ : ∃ r, k.getD (j + 2) (0, 0) = r := ⟨_, rfl⟩
      rw [huv] at c0' c1'
      simp only at c0' c1'
      have htk : (k.drop 2).take (j + 1) = (k.drop 2).take j ++ [(u, v)] := by
        rw [take_one _ j (by rw [List.length_drop]; omega), List.getElem_drop]
        congr 2
        rw [List.getD_eq_getElem?_getD, List.getElem?_eq_getElem hjk] at huv
        rw [← huv]
        simp [Nat.add_comm]
      obtain ⟨x', hx'⟩ : ∃ z, min x u = z := ⟨_, rfl⟩
      obtain ⟨y', hy'⟩ : ∃ z, max y v = z := ⟨_, rfl⟩
      have HXY' : Hid ((x', y') = ((k.drop 2).take (j + 1)).foldl hullR (b0, b1)) := by
        show _ = _
        rw [htk, List.foldl_append, ← HXY.out, ← hx', ← hy']
        rfl
      have H1 := Lib.hid hx'
      have H2 := Lib.hid hy'
      have hlt' : (j : Int) < (m : Int) := by omega
      have hba := (Below.refl wr.heap.size wr).alloc (Nat.le_refl _) (.cells #[.int .i64 u, .int .i64 v] 132)
      have HR2 := Lib.hid (HR.out.next hba)
      have HO2 := Lib.hid (HO.out.next hba)
      have HW2 := Lib.hid (HWW.out.trans (hba.mono (by omega)))
      have HB2 := Lib.hid (HB.out.trans (hba.mono HB.out.size))
      clear huv htk hx' hy' HXY c0 c1 hba
      go_wp2_with fail
      go_at_call 111
      refine (hull_b x y u v x' y' H1 H2 _).mono ?_
      rintro e w6 ⟨rfl, hb⟩
      have HR6 := Lib.hid (HR2.out.next hb)
      have HO6 := Lib.hid (HO2.out.next hb)
      have HW6 := Lib.hid (HW2.out.trans (hb.mono (by simp; omega)))
      have HB6 := Lib.hid (HB2.out.trans (hb.mono HB2.out.size))
      clear hb HR HO HB HWW HR2 HO2 HW2 HB2 o0 o1 p0 p1 c0' c1'
      have o0 := HO6.out.at 0 _ rfl
      have o1 := HO6.out.at 1 _ rfl
      have p0 := HO6.out.free 0
      have p1 := HO6.out.free 1
      have hol6 := HO6.out.lt
      have hbw : w.heap.size ≤ ob := by omega
      have HO7 := Lib.hid ((HO6.out.set 0 (.int .i64 x') (by simp)).set 1 (.int .i64 y') (by simp))
      have HR7 := Lib.hid ((HR6.out.other (p := ⟨ob, 0, none⟩) (by show ob ≠ _; omega) (.int .i64 x')).other (p := ⟨ob, 1, none⟩) (by show ob ≠ _; omega) (.int .i64 y'))
      have HW7 := Lib.hid ((HW6.out.setCell (p := ⟨ob, 0, none⟩) (Nat.le_refl _) (.int .i64 x')).setCell (p := ⟨ob, 1, none⟩) (Nat.le_refl _) (.int .i64 y'))
      have HB7 := Lib.hid ((HB6.out.setCell (p := ⟨ob, 0, none⟩) hbw (.int .i64 x')).setCell (p := ⟨ob, 1, none⟩) hbw (.int .i64 y'))
      go_wp2_with fail
      go_roundw
      case rel => exact ⟨j + 1, x', y', by omega, by go_num, HXY', HR7, HO7, HW7, HB7⟩
      case measure => simp [intOf]; omega
    · obtain rfl : j = m := by omega
      have hR2 : R = (x, y) := by rw [HRR.out, HXY.out, List.take_of_length_le (by rw [List.length_drop, HKL.out]; omega)]
      subst hR2
      have r0 := HR.out.at 0 _ rfl
      have r1 := HR.out.at 1 _ rfl
      have f0 := HR.out.free 0
      have f1 := HR.out.free 1
      have hrl := HR.out.lt
      go_wp2_with fail
      obtain ⟨z0, z1⟩ := two_cells HR.out (.int .i64 x) (.int .i64 y)
      refine bodyPost_ret (v := .agg #[.int .i64 x, .int .i64 y]) (by simp [results, Tryz.results106, go_sem, z0, z1]) rfl ?_
      exact ⟨rfl, fin_two (b := w.heap.size + 1) (by omega) HB.out _ _⟩
end Go.Proofs.YtjpjmoejdkmglaaGreat
