/-
  The walk over rule.
-/
import Derived.Test.YtjpjmoejdkmglaaGreatFlC
namespace Go.Proofs.YtjpjmoejdkmglaaGreat
open Go.RowKit

/-- Ranges in memory. -/
structure Rs (W : World) (A : Option Addr) (l c : Nat) (k : List (Int × Int)) : Prop where
  len : k.length = l
  cap : l ≤ c
  big : c ≤ maxLen
  mem : 0 < l → ∃ g f, A = some ⟨g, f, none⟩ ∧ g < W.heap.size ∧ ∀ j, j < l → W.cell? ⟨g, f + j * 2, none⟩ = some (.int .i64 (k.getD j (0, 0)).1) ∧ W.cell? ⟨g, f + j * 2 + 1, none⟩ = some (.int .i64 (k.getD j (0, 0)).2)
theorem Rs.below {W W' : World} {A : Option Addr} {l c : Nat} {k : List (Int × Int)} (h : Rs W A l c k) (hb : Below W.heap.size W W') : Rs W' A l c k :=
  ⟨h.len, h.cap, h.big, fun h0 => by
    obtain ⟨g, f, h1, h2, h3⟩ := h.mem h0
    exact ⟨g, f, h1, Nat.lt_of_lt_of_le h2 hb.size, fun j hj => ⟨(hb.cell (p := ⟨g, _, none⟩) h2).trans (h3 j hj).1, (hb.cell (p := ⟨g, _, none⟩) h2).trans (h3 j hj).2⟩⟩⟩
/-- The first range, and the second. -/
theorem Rs.two {W : World} {A : Option Addr} {l c : Nat} {k : List (Int × Int)} (h : Rs W A l c k) (h1 : 1 ≤ l) :
    ∃ g f, A = some ⟨g, f, none⟩ ∧ g < W.heap.size ∧ W.cell? ⟨g, f, none⟩ = some (.int .i64 (k.getD 0 (0, 0)).1) ∧ W.cell? ⟨g, f + 1, none⟩ = some (.int .i64 (k.getD 0 (0, 0)).2) ∧ (2 ≤ l → W.cell? ⟨g, f + 2, none⟩ = some (.int .i64 (k.getD 1 (0, 0)).1) ∧ W.cell? ⟨g, f + 3, none⟩ = some (.int .i64 (k.getD 1 (0, 0)).2)) := by
  obtain ⟨g, f, e, hg, hc⟩ := h.mem (by omega)
  have c0 := hc 0 (by omega)
  simp only [Nat.zero_mul, Nat.add_zero] at c0
  exact ⟨g, f, e, hg, c0.1, c0.2, fun h2 => hc 1 (by omega)⟩
def inB (r : Int × Int) : Prop := -1048576 ≤ r.1 ∧ r.2 ≤ 1048576 ∧ r.1 ≤ 1048576 ∧ -1048576 ≤ r.2
def hullR (a b : Int × Int) : Int × Int := (min a.1 b.1, max a.2 b.2)
/-- The range of a node whose kids have the ranges k. -/
def ruleP (vs : List Vr) (o n : Int) (k : List (Int × Int)) : Int × Int :=
  if o = 0 then (n, n)
  else if o = 24 then (((vs[n.toNat]?).map Vr.low).getD 0, ((vs[n.toNat]?).map Vr.high).getD 0)
  else if o = 6 then (-(k.getD 0 (0, 0)).2, -(k.getD 0 (0, 0)).1)
  else if o = 8 then ((k.getD 0 (0, 0)).1 + (k.getD 1 (0, 0)).1, (k.getD 0 (0, 0)).2 + (k.getD 1 (0, 0)).2)
  else if o = 9 then ((k.getD 0 (0, 0)).1 - (k.getD 1 (0, 0)).2, (k.getD 0 (0, 0)).2 - (k.getD 1 (0, 0)).1)
  else if o = 10 then mulR (k.getD 0 (0, 0)).1 (k.getD 0 (0, 0)).2 (k.getD 1 (0, 0)).1 (k.getD 1 (0, 0)).2
  else if o = 11 then (if 0 ≤ (k.getD 0 (0, 0)).1 ∧ 0 ≤ (k.getD 1 (0, 0)).1 then (0, max (k.getD 0 (0, 0)).2 (-(k.getD 0 (0, 0)).1)) else (-max (k.getD 0 (0, 0)).2 (-(k.getD 0 (0, 0)).1), max (k.getD 0 (0, 0)).2 (-(k.getD 0 (0, 0)).1)))
  else if o = 12 then (if (k.getD 1 (0, 0)).1 < 0 then min ((k.getD 1 (0, 0)).1 + 1) 0 else 0, if 0 < (k.getD 1 (0, 0)).2 then max ((k.getD 1 (0, 0)).2 - 1) 0 else 0)
  else if o = 21 then (min (k.getD 0 (0, 0)).1 (k.getD 1 (0, 0)).1, min (k.getD 0 (0, 0)).2 (k.getD 1 (0, 0)).2)
  else if o = 22 then (max (k.getD 0 (0, 0)).1 (k.getD 1 (0, 0)).1, max (k.getD 0 (0, 0)).2 (k.getD 1 (0, 0)).2)
  else if o = 23 ∨ o = 25 then (k.drop 2).foldl hullR (k.getD 1 (0, 0))
  else (0, 1)
def boxR (w : World) (o n : Int) (A : Option Addr) (l c : Nat) : World := (boxT w o n A l c).alloc (.cells #[.int .i64 0, .int .i64 0] 132)
theorem boxR_below (w : World) (o n : Int) (A : Option Addr) (l c : Nat) : Below w.heap.size w (boxR w o n A l c) := (boxT_below w o n A l c).alloc (boxT_below w o n A l c).size _
theorem boxR_cs (w : World) (o n : Int) (A : Option Addr) (l c : Nat) : Cs (boxR w o n A l c) w.heap.size [.int .i64 o, .int .i64 n, .slice A l c] ∧ Cs (boxR w o n A l c) (w.heap.size + 1) [.int .i64 0, .int .i64 0] := ⟨(boxT_cs w o n A l c).alloc _, Cs.new1 w _ _ _⟩
/-- The result's cell. -/
theorem two_cells {W : World} {b : Nat} {a0 a1 : Value} (h : Cs W b [a0, a1]) (v0 v1 : Value) :
    (W.setCell ⟨b, 0, none⟩ v0).cell? ⟨b, 0, none⟩ = some v0 ∧ ((W.setCell ⟨b, 0, none⟩ v0).setCell ⟨b, 1, none⟩ v1).cell? ⟨b, 1, none⟩ = some v1 :=
  ⟨World.cell?_setCell_same W _ v0 (h.at 0 _ rfl), World.cell?_setCell_same _ _ v1 ((h.set 0 v0 (by simp)).at 1 _ rfl)⟩
theorem fin_two {w W : World} {b : Nat} (hw : w.heap.size ≤ b) (HB : Below w.heap.size w W) (v0 v1 : Value) : Below w.heap.size w ((W.setCell ⟨b, 0, none⟩ v0).setCell ⟨b, 1, none⟩ v1) :=
  (HB.setCell (p := ⟨b, 0, none⟩) hw v0).setCell (p := ⟨b, 1, none⟩) hw v1

set_option maxRecDepth 100000 in
set_option maxHeartbeats 2000000 in
theorem rule_lit (vs : List Vr) (Av : Option Addr) (lv cv : Nat) (n : Int) (A : Option Addr) (l c : Nat) (k : List (Int × Int)) (Ak : Option Addr) (lk ck : Nat) (R : Int × Int) (H : Hid (ruleP vs 0 n k = R))  (w : World) (hv : VOk w Av lv cv vs) (hr : Rs w Ak lk ck k) :
    Calls Tryz.prog 106 #[.slice Av lv cv, .agg #[.int .i64 0, .int .i64 n, .slice A l c], .slice Ak lk ck] w fun e w' => e = .returned (.agg #[.int .i64 R.1, .int .i64 R.2]) ∧ Below w.heap.size w w' := by
  have hlk : lk ≤ 9223372036854775807 := by have h1 := hr.cap; have h2 := hr.big; unfold maxLen at h2; omega
  have hlv : lv ≤ 9223372036854775807 := by have h1 := hv.cap; have h2 := hv.big; unfold maxLen at h2; omega
  have HB := Lib.hid (boxR_below w 0 n A l c)
  have HC := Lib.hid (boxR_cs w 0 n A l c).1
  have HR := Lib.hid (boxR_cs w 0 n A l c).2
  have HV := Lib.hid (hv.below HB.out)
  have HK := Lib.hid (hr.below HB.out)
  obtain ⟨W, hW⟩ : ∃ W, boxR w 0 n A l c = W := ⟨_, rfl⟩
  rw [hW] at HB HC HR HV HK
  unfold boxR boxT at hW
  have HW := Lib.hid hW
  clear hW hv hr
  have hR : R = (n, n) := by rw [← H.out]; unfold ruleP; rfl
  subst hR
  clear H
  have r0 := HC.out.at 0 _ rfl
  have r1 := HC.out.at 1 _ rfl
  have r2 := HC.out.at 2 _ rfl
  have q0 := HR.out.at 0 _ rfl
  have q1 := HR.out.at 1 _ rfl
  have p0 := HR.out.free 0
  have p1 := HR.out.free 1
  have hrl := HR.out.lt
  go_enter Tryz.func106, Tryz.ntmps106
  go_upto_region 1 with fail
  rw [HW.out]
  go_wp2_with fail
  obtain ⟨z0, z1⟩ := two_cells HR.out (.int .i64 (n)) (.int .i64 (n))
  refine bodyPost_ret (v := .agg #[.int .i64 (n), .int .i64 (n)]) (by simp [results, Tryz.results106, go_sem, z0, z1]) rfl ?_
  exact ⟨rfl, (fin_two (b := w.heap.size + 1) (by omega) HB.out _ _)⟩

set_option maxRecDepth 100000 in
set_option maxHeartbeats 2000000 in
theorem rule_ref (vs : List Vr) (Av : Option Addr) (lv cv : Nat) (n : Int) (A : Option Addr) (l c : Nat) (k : List (Int × Int)) (Ak : Option Addr) (lk ck : Nat) (R : Int × Int) (H : Hid (ruleP vs 24 n k = R)) (i : Nat) (hn : n = (i : Int)) (hi : i < lv) (w : World) (hv : VOk w Av lv cv vs) (hr : Rs w Ak lk ck k) :
    Calls Tryz.prog 106 #[.slice Av lv cv, .agg #[.int .i64 24, .int .i64 n, .slice A l c], .slice Ak lk ck] w fun e w' => e = .returned (.agg #[.int .i64 R.1, .int .i64 R.2]) ∧ Below w.heap.size w w' := by
  have hlk : lk ≤ 9223372036854775807 := by have h1 := hr.cap; have h2 := hr.big; unfold maxLen at h2; omega
  have hlv : lv ≤ 9223372036854775807 := by have h1 := hv.cap; have h2 := hv.big; unfold maxLen at h2; omega
  have HB := Lib.hid (boxR_below w 24 n A l c)
  have HC := Lib.hid (boxR_cs w 24 n A l c).1
  have HR := Lib.hid (boxR_cs w 24 n A l c).2
  have HV := Lib.hid (hv.below HB.out)
  have HK := Lib.hid (hr.below HB.out)
  obtain ⟨W, hW⟩ : ∃ W, boxR w 24 n A l c = W := ⟨_, rfl⟩
  rw [hW] at HB HC HR HV HK
  unfold boxR boxT at hW
  have HW := Lib.hid hW
  clear hW hv hr
  subst hn
  obtain ⟨s, kd, lo, hh, ii, g, f, hvs, _, hA, hg, v0, v1, v2, v3, v4⟩ := HV.out.at i hi
  subst hA
  have hR : R = (lo, hh) := by rw [← H.out]; unfold ruleP; rw [if_neg (by decide), if_pos rfl, Int.toNat_natCast, hvs]; rfl
  subst hR
  clear H
  have hi' : (i : Int) < (lv : Int) := by omega
  clear hvs v0 v1 v4
  have r0 := HC.out.at 0 _ rfl
  have r1 := HC.out.at 1 _ rfl
  have r2 := HC.out.at 2 _ rfl
  have q0 := HR.out.at 0 _ rfl
  have q1 := HR.out.at 1 _ rfl
  have p0 := HR.out.free 0
  have p1 := HR.out.free 1
  have hrl := HR.out.lt
  go_enter Tryz.func106, Tryz.ntmps106
  go_upto_region 1 with fail
  rw [HW.out]
  go_upto_region 5 with fail
  go_region
  go_wp2_with fail
  obtain ⟨z0, z1⟩ := two_cells HR.out (.int .i64 (lo)) (.int .i64 (hh))
  refine bodyPost_ret (v := .agg #[.int .i64 (lo), .int .i64 (hh)]) (by simp [results, Tryz.results106, go_sem, z0, z1]) rfl ?_
  exact ⟨rfl, (fin_two (b := w.heap.size + 1) (by omega) HB.out _ _).drew⟩

set_option maxRecDepth 100000 in
set_option maxHeartbeats 2000000 in
theorem rule_neg (vs : List Vr) (Av : Option Addr) (lv cv : Nat) (n : Int) (A : Option Addr) (l c : Nat) (k : List (Int × Int)) (Ak : Option Addr) (lk ck : Nat) (R : Int × Int) (H : Hid (ruleP vs 6 n k = R)) (hl : 1 ≤ lk) (hB0 : inB (k.getD 0 (0, 0))) (w : World) (hv : VOk w Av lv cv vs) (hr : Rs w Ak lk ck k) :
    Calls Tryz.prog 106 #[.slice Av lv cv, .agg #[.int .i64 6, .int .i64 n, .slice A l c], .slice Ak lk ck] w fun e w' => e = .returned (.agg #[.int .i64 R.1, .int .i64 R.2]) ∧ Below w.heap.size w w' := by
  have hlk : lk ≤ 9223372036854775807 := by have h1 := hr.cap; have h2 := hr.big; unfold maxLen at h2; omega
  have hlv : lv ≤ 9223372036854775807 := by have h1 := hv.cap; have h2 := hv.big; unfold maxLen at h2; omega
  have HB := Lib.hid (boxR_below w 6 n A l c)
  have HC := Lib.hid (boxR_cs w 6 n A l c).1
  have HR := Lib.hid (boxR_cs w 6 n A l c).2
  have HV := Lib.hid (hv.below HB.out)
  have HK := Lib.hid (hr.below HB.out)
  obtain ⟨W, hW⟩ : ∃ W, boxR w 6 n A l c = W := ⟨_, rfl⟩
  rw [hW] at HB HC HR HV HK
  unfold boxR boxT at hW
  have HW := Lib.hid hW
  clear hW hv hr
  obtain ⟨g, f, hA, hg, k00, k01, hk1⟩ := HK.out.two (by omega)
  subst hA
  obtain ⟨⟨a0, a1⟩, ha⟩ : ∃ x, k.getD 0 (0, 0) = x := ⟨_, rfl⟩
  obtain ⟨⟨b0, b1⟩, hb⟩ : ∃ x, k.getD 1 (0, 0) = x := ⟨_, rfl⟩
  rw [ha] at k00 k01 hB0
  simp only at k00 k01
  obtain ⟨hB1, hB2, hB3, hB4⟩ := hB0
  simp only at hB1 hB2 hB3 hB4
  clear hk1
  have hR : R = (-a1, -a0) := by rw [← H.out]; unfold ruleP; rw [if_neg (by decide), if_neg (by decide), if_pos rfl, ha]
  subst hR
  clear H
  clear ha hb
  have r0 := HC.out.at 0 _ rfl
  have r1 := HC.out.at 1 _ rfl
  have r2 := HC.out.at 2 _ rfl
  have q0 := HR.out.at 0 _ rfl
  have q1 := HR.out.at 1 _ rfl
  have p0 := HR.out.free 0
  have p1 := HR.out.free 1
  have hrl := HR.out.lt
  go_enter Tryz.func106, Tryz.ntmps106
  go_upto_region 1 with fail
  rw [HW.out]
  go_upto_region 7 with fail
  go_region
  go_wp2_with fail
  obtain ⟨z0, z1⟩ := two_cells HR.out (.int .i64 (-a1)) (.int .i64 (-a0))
  refine bodyPost_ret (v := .agg #[.int .i64 (-a1), .int .i64 (-a0)]) (by simp [results, Tryz.results106, go_sem, z0, z1]) rfl ?_
  exact ⟨rfl, (fin_two (b := w.heap.size + 1) (by omega) HB.out _ _).drew⟩

set_option maxRecDepth 100000 in
set_option maxHeartbeats 2000000 in
theorem rule_add (vs : List Vr) (Av : Option Addr) (lv cv : Nat) (n : Int) (A : Option Addr) (l c : Nat) (k : List (Int × Int)) (Ak : Option Addr) (lk ck : Nat) (R : Int × Int) (H : Hid (ruleP vs 8 n k = R)) (hl : lk = 2) (hB0 : inB (k.getD 0 (0, 0))) (hB0' : inB (k.getD 1 (0, 0))) (w : World) (hv : VOk w Av lv cv vs) (hr : Rs w Ak lk ck k) :
    Calls Tryz.prog 106 #[.slice Av lv cv, .agg #[.int .i64 8, .int .i64 n, .slice A l c], .slice Ak lk ck] w fun e w' => e = .returned (.agg #[.int .i64 R.1, .int .i64 R.2]) ∧ Below w.heap.size w w' := by
  have hlk : lk ≤ 9223372036854775807 := by have h1 := hr.cap; have h2 := hr.big; unfold maxLen at h2; omega
  have hlv : lv ≤ 9223372036854775807 := by have h1 := hv.cap; have h2 := hv.big; unfold maxLen at h2; omega
  have HB := Lib.hid (boxR_below w 8 n A l c)
  have HC := Lib.hid (boxR_cs w 8 n A l c).1
  have HR := Lib.hid (boxR_cs w 8 n A l c).2
  have HV := Lib.hid (hv.below HB.out)
  have HK := Lib.hid (hr.below HB.out)
  obtain ⟨W, hW⟩ : ∃ W, boxR w 8 n A l c = W := ⟨_, rfl⟩
  rw [hW] at HB HC HR HV HK
  unfold boxR boxT at hW
  have HW := Lib.hid hW
  clear hW hv hr
  obtain ⟨g, f, hA, hg, k00, k01, hk1⟩ := HK.out.two (by omega)
  subst hA
  obtain ⟨⟨a0, a1⟩, ha⟩ : ∃ x, k.getD 0 (0, 0) = x := ⟨_, rfl⟩
  obtain ⟨⟨b0, b1⟩, hb⟩ : ∃ x, k.getD 1 (0, 0) = x := ⟨_, rfl⟩
  rw [ha] at k00 k01 hB0
  simp only at k00 k01
  obtain ⟨hB1, hB2, hB3, hB4⟩ := hB0
  simp only at hB1 hB2 hB3 hB4
  have k10 := (hk1 (by omega)).1
  have k11 := (hk1 (by omega)).2
  rw [hb] at k10 k11 hB0'
  simp only at k10 k11
  obtain ⟨hB5, hB6, hB7, hB8⟩ := hB0'
  simp only at hB5 hB6 hB7 hB8
  have hR : R = (a0 + b0, a1 + b1) := by rw [← H.out]; unfold ruleP; rw [if_neg (by decide), if_neg (by decide), if_neg (by decide), if_pos rfl, ha, hb]
  subst hR
  clear H
  clear ha hb hk1
  have r0 := HC.out.at 0 _ rfl
  have r1 := HC.out.at 1 _ rfl
  have r2 := HC.out.at 2 _ rfl
  have q0 := HR.out.at 0 _ rfl
  have q1 := HR.out.at 1 _ rfl
  have p0 := HR.out.free 0
  have p1 := HR.out.free 1
  have hrl := HR.out.lt
  go_enter Tryz.func106, Tryz.ntmps106
  go_upto_region 1 with fail
  rw [HW.out]
  go_upto_region 9 with fail
  go_region
  go_wp2_with fail
  obtain ⟨z0, z1⟩ := two_cells HR.out (.int .i64 (a0 + b0)) (.int .i64 (a1 + b1))
  refine bodyPost_ret (v := .agg #[.int .i64 (a0 + b0), .int .i64 (a1 + b1)]) (by simp [results, Tryz.results106, go_sem, z0, z1]) rfl ?_
  exact ⟨rfl, (fin_two (b := w.heap.size + 1) (by omega) HB.out _ _).drew⟩

set_option maxRecDepth 100000 in
set_option maxHeartbeats 2000000 in
theorem rule_sub (vs : List Vr) (Av : Option Addr) (lv cv : Nat) (n : Int) (A : Option Addr) (l c : Nat) (k : List (Int × Int)) (Ak : Option Addr) (lk ck : Nat) (R : Int × Int) (H : Hid (ruleP vs 9 n k = R)) (hl : lk = 2) (hB0 : inB (k.getD 0 (0, 0))) (hB0' : inB (k.getD 1 (0, 0))) (w : World) (hv : VOk w Av lv cv vs) (hr : Rs w Ak lk ck k) :
    Calls Tryz.prog 106 #[.slice Av lv cv, .agg #[.int .i64 9, .int .i64 n, .slice A l c], .slice Ak lk ck] w fun e w' => e = .returned (.agg #[.int .i64 R.1, .int .i64 R.2]) ∧ Below w.heap.size w w' := by
  have hlk : lk ≤ 9223372036854775807 := by have h1 := hr.cap; have h2 := hr.big; unfold maxLen at h2; omega
  have hlv : lv ≤ 9223372036854775807 := by have h1 := hv.cap; have h2 := hv.big; unfold maxLen at h2; omega
  have HB := Lib.hid (boxR_below w 9 n A l c)
  have HC := Lib.hid (boxR_cs w 9 n A l c).1
  have HR := Lib.hid (boxR_cs w 9 n A l c).2
  have HV := Lib.hid (hv.below HB.out)
  have HK := Lib.hid (hr.below HB.out)
  obtain ⟨W, hW⟩ : ∃ W, boxR w 9 n A l c = W := ⟨_, rfl⟩
  rw [hW] at HB HC HR HV HK
  unfold boxR boxT at hW
  have HW := Lib.hid hW
  clear hW hv hr
  obtain ⟨g, f, hA, hg, k00, k01, hk1⟩ := HK.out.two (by omega)
  subst hA
  obtain ⟨⟨a0, a1⟩, ha⟩ : ∃ x, k.getD 0 (0, 0) = x := ⟨_, rfl⟩
  obtain ⟨⟨b0, b1⟩, hb⟩ : ∃ x, k.getD 1 (0, 0) = x := ⟨_, rfl⟩
  rw [ha] at k00 k01 hB0
  simp only at k00 k01
  obtain ⟨hB1, hB2, hB3, hB4⟩ := hB0
  simp only at hB1 hB2 hB3 hB4
  have k10 := (hk1 (by omega)).1
  have k11 := (hk1 (by omega)).2
  rw [hb] at k10 k11 hB0'
  simp only at k10 k11
  obtain ⟨hB5, hB6, hB7, hB8⟩ := hB0'
  simp only at hB5 hB6 hB7 hB8
  have hR : R = (a0 - b1, a1 - b0) := by rw [← H.out]; unfold ruleP; rw [if_neg (by decide), if_neg (by decide), if_neg (by decide), if_neg (by decide), if_pos rfl, ha, hb]
  subst hR
  clear H
  clear ha hb hk1
  have r0 := HC.out.at 0 _ rfl
  have r1 := HC.out.at 1 _ rfl
  have r2 := HC.out.at 2 _ rfl
  have q0 := HR.out.at 0 _ rfl
  have q1 := HR.out.at 1 _ rfl
  have p0 := HR.out.free 0
  have p1 := HR.out.free 1
  have hrl := HR.out.lt
  go_enter Tryz.func106, Tryz.ntmps106
  go_upto_region 1 with fail
  rw [HW.out]
  go_upto_region 11 with fail
  go_region
  go_wp2_with fail
  obtain ⟨z0, z1⟩ := two_cells HR.out (.int .i64 (a0 - b1)) (.int .i64 (a1 - b0))
  refine bodyPost_ret (v := .agg #[.int .i64 (a0 - b1), .int .i64 (a1 - b0)]) (by simp [results, Tryz.results106, go_sem, z0, z1]) rfl ?_
  exact ⟨rfl, (fin_two (b := w.heap.size + 1) (by omega) HB.out _ _).drew⟩

set_option maxRecDepth 100000 in
set_option maxHeartbeats 2000000 in
theorem rule_min (vs : List Vr) (Av : Option Addr) (lv cv : Nat) (n : Int) (A : Option Addr) (l c : Nat) (k : List (Int × Int)) (Ak : Option Addr) (lk ck : Nat) (R : Int × Int) (H : Hid (ruleP vs 21 n k = R)) (hl : lk = 2) (hB0 : inB (k.getD 0 (0, 0))) (hB0' : inB (k.getD 1 (0, 0))) (w : World) (hv : VOk w Av lv cv vs) (hr : Rs w Ak lk ck k) :
    Calls Tryz.prog 106 #[.slice Av lv cv, .agg #[.int .i64 21, .int .i64 n, .slice A l c], .slice Ak lk ck] w fun e w' => e = .returned (.agg #[.int .i64 R.1, .int .i64 R.2]) ∧ Below w.heap.size w w' := by
  have hlk : lk ≤ 9223372036854775807 := by have h1 := hr.cap; have h2 := hr.big; unfold maxLen at h2; omega
  have hlv : lv ≤ 9223372036854775807 := by have h1 := hv.cap; have h2 := hv.big; unfold maxLen at h2; omega
  have HB := Lib.hid (boxR_below w 21 n A l c)
  have HC := Lib.hid (boxR_cs w 21 n A l c).1
  have HR := Lib.hid (boxR_cs w 21 n A l c).2
  have HV := Lib.hid (hv.below HB.out)
  have HK := Lib.hid (hr.below HB.out)
  obtain ⟨W, hW⟩ : ∃ W, boxR w 21 n A l c = W := ⟨_, rfl⟩
  rw [hW] at HB HC HR HV HK
  unfold boxR boxT at hW
  have HW := Lib.hid hW
  clear hW hv hr
  obtain ⟨g, f, hA, hg, k00, k01, hk1⟩ := HK.out.two (by omega)
  subst hA
  obtain ⟨⟨a0, a1⟩, ha⟩ : ∃ x, k.getD 0 (0, 0) = x := ⟨_, rfl⟩
  obtain ⟨⟨b0, b1⟩, hb⟩ : ∃ x, k.getD 1 (0, 0) = x := ⟨_, rfl⟩
  rw [ha] at k00 k01 hB0
  simp only at k00 k01
  obtain ⟨hB1, hB2, hB3, hB4⟩ := hB0
  simp only at hB1 hB2 hB3 hB4
  have k10 := (hk1 (by omega)).1
  have k11 := (hk1 (by omega)).2
  rw [hb] at k10 k11 hB0'
  simp only at k10 k11
  obtain ⟨hB5, hB6, hB7, hB8⟩ := hB0'
  simp only at hB5 hB6 hB7 hB8
  have e0 : R.1 = if b0 < a0 then b0 else a0 := by rw [← H.out]; unfold ruleP; rw [if_neg (by decide), if_neg (by decide), if_neg (by decide), if_neg (by decide), if_neg (by decide), if_neg (by decide), if_neg (by decide), if_neg (by decide), if_pos rfl, ha, hb]; simp only; split <;> omega
  have e1 : R.2 = if b1 < a1 then b1 else a1 := by rw [← H.out]; unfold ruleP; rw [if_neg (by decide), if_neg (by decide), if_neg (by decide), if_neg (by decide), if_neg (by decide), if_neg (by decide), if_neg (by decide), if_neg (by decide), if_pos rfl, ha, hb]; simp only; split <;> omega
  obtain ⟨R1, R2⟩ := R
  simp only at e0 e1
  clear ha hb hk1 H
  have r0 := HC.out.at 0 _ rfl
  have r1 := HC.out.at 1 _ rfl
  have r2 := HC.out.at 2 _ rfl
  have q0 := HR.out.at 0 _ rfl
  have q1 := HR.out.at 1 _ rfl
  have p0 := HR.out.free 0
  have p1 := HR.out.free 1
  have hrl := HR.out.lt
  by_cases h0 : b0 < a0 <;> by_cases h1 : b1 < a1 <;> (
    simp only [h0, h1, if_true, if_false] at e0 e1
    subst e0 e1
    go_enter Tryz.func106, Tryz.ntmps106
    go_upto_region 1 with fail
    rw [HW.out]
    go_upto_region 27 with fail
    go_region
    go_wp2_with fail
    obtain ⟨z0, z1⟩ := two_cells HR.out (.int .i64 R1) (.int .i64 R2)
    refine bodyPost_ret (v := .agg #[.int .i64 R1, .int .i64 R2]) (by simp [results, Tryz.results106, go_sem, z0, z1]) rfl ?_
    exact ⟨rfl, (fin_two (b := w.heap.size + 1) (by omega) HB.out _ _).drew⟩)

set_option maxRecDepth 100000 in
set_option maxHeartbeats 2000000 in
theorem rule_max (vs : List Vr) (Av : Option Addr) (lv cv : Nat) (n : Int) (A : Option Addr) (l c : Nat) (k : List (Int × Int)) (Ak : Option Addr) (lk ck : Nat) (R : Int × Int) (H : Hid (ruleP vs 22 n k = R)) (hl : lk = 2) (hB0 : inB (k.getD 0 (0, 0))) (hB0' : inB (k.getD 1 (0, 0))) (w : World) (hv : VOk w Av lv cv vs) (hr : Rs w Ak lk ck k) :
    Calls Tryz.prog 106 #[.slice Av lv cv, .agg #[.int .i64 22, .int .i64 n, .slice A l c], .slice Ak lk ck] w fun e w' => e = .returned (.agg #[.int .i64 R.1, .int .i64 R.2]) ∧ Below w.heap.size w w' := by
  have hlk : lk ≤ 9223372036854775807 := by have h1 := hr.cap; have h2 := hr.big; unfold maxLen at h2; omega
  have hlv : lv ≤ 9223372036854775807 := by have h1 := hv.cap; have h2 := hv.big; unfold maxLen at h2; omega
  have HB := Lib.hid (boxR_below w 22 n A l c)
  have HC := Lib.hid (boxR_cs w 22 n A l c).1
  have HR := Lib.hid (boxR_cs w 22 n A l c).2
  have HV := Lib.hid (hv.below HB.out)
  have HK := Lib.hid (hr.below HB.out)
  obtain ⟨W, hW⟩ : ∃ W, boxR w 22 n A l c = W := ⟨_, rfl⟩
  rw [hW] at HB HC HR HV HK
  unfold boxR boxT at hW
  have HW := Lib.hid hW
  clear hW hv hr
  obtain ⟨g, f, hA, hg, k00, k01, hk1⟩ := HK.out.two (by omega)
  subst hA
  obtain ⟨⟨a0, a1⟩, ha⟩ : ∃ x, k.getD 0 (0, 0) = x := ⟨_, rfl⟩
  obtain ⟨⟨b0, b1⟩, hb⟩ : ∃ x, k.getD 1 (0, 0) = x := ⟨_, rfl⟩
  rw [ha] at k00 k01 hB0
  simp only at k00 k01
  obtain ⟨hB1, hB2, hB3, hB4⟩ := hB0
  simp only at hB1 hB2 hB3 hB4
  have k10 := (hk1 (by omega)).1
  have k11 := (hk1 (by omega)).2
  rw [hb] at k10 k11 hB0'
  simp only at k10 k11
  obtain ⟨hB5, hB6, hB7, hB8⟩ := hB0'
  simp only at hB5 hB6 hB7 hB8
  have e0 : R.1 = if a0 < b0 then b0 else a0 := by rw [← H.out]; unfold ruleP; rw [if_neg (by decide), if_neg (by decide), if_neg (by decide), if_neg (by decide), if_neg (by decide), if_neg (by decide), if_neg (by decide), if_neg (by decide), if_neg (by decide), if_pos rfl, ha, hb]; simp only; split <;> omega
  have e1 : R.2 = if a1 < b1 then b1 else a1 := by rw [← H.out]; unfold ruleP; rw [if_neg (by decide), if_neg (by decide), if_neg (by decide), if_neg (by decide), if_neg (by decide), if_neg (by decide), if_neg (by decide), if_neg (by decide), if_neg (by decide), if_pos rfl, ha, hb]; simp only; split <;> omega
  obtain ⟨R1, R2⟩ := R
  simp only at e0 e1
  clear ha hb hk1 H
  have r0 := HC.out.at 0 _ rfl
  have r1 := HC.out.at 1 _ rfl
  have r2 := HC.out.at 2 _ rfl
  have q0 := HR.out.at 0 _ rfl
  have q1 := HR.out.at 1 _ rfl
  have p0 := HR.out.free 0
  have p1 := HR.out.free 1
  have hrl := HR.out.lt
  by_cases h0 : a0 < b0 <;> by_cases h1 : a1 < b1 <;> (
    simp only [h0, h1, if_true, if_false] at e0 e1
    subst e0 e1
    go_enter Tryz.func106, Tryz.ntmps106
    go_upto_region 1 with fail
    rw [HW.out]
    go_upto_region 29 with fail
    go_region
    go_wp2_with fail
    obtain ⟨z0, z1⟩ := two_cells HR.out (.int .i64 R1) (.int .i64 R2)
    refine bodyPost_ret (v := .agg #[.int .i64 R1, .int .i64 R2]) (by simp [results, Tryz.results106, go_sem, z0, z1]) rfl ?_
    exact ⟨rfl, (fin_two (b := w.heap.size + 1) (by omega) HB.out _ _).drew⟩)
end Go.Proofs.YtjpjmoejdkmglaaGreat
