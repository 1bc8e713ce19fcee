/-
  The walks over Release, Output, If and While of the program and of the reference.
-/
import Derived.Test.YthlhicegchkjjaaCoO
namespace Go.Proofs.Ythlhicegchkjjaa
open Go.RowKit

namespace CM
/-- What Release returns. -/
def relR (C : CM) (e : ET) : Int × Int := if (C.placeR e).2 = 0 then (C.c5 + C.c0 + (C.placeR e).1, 0) else (0, (C.placeR e).2)
/-- What the cost of an expression and a further number is. -/
def plusR (C : CM) (m : Int) (e : ET) : Int × Int := if (C.exprR e).2 = 0 then (m + (C.exprR e).1, 0) else (0, (C.exprR e).2)
theorem exprR_ok {C : CM} {e : ET} {x : Int} (h : C.exprR e = (x, 0)) (hc : ET.cnt e ≤ 1000000) : C.ok ∧ 0 ≤ x ∧ x ≤ 100000000 := by
  unfold exprR at h
  by_cases hw : wf C [e] = 0
  · rw [if_pos hw] at h
    obtain ⟨rfl, -⟩ := pair_eq h
    have hok := wf_ok hw
    have := sum_range hok e
    exact ⟨hok, this.1, by omega⟩
  · rw [if_neg hw] at h
    exact absurd (pair_eq h).2 hw
theorem placeR_ok {C : CM} {e : ET} {x : Int} (h : C.placeR e = (x, 0)) (hc : ET.cnt e ≤ 1000000) : C.ok ∧ -100 ≤ x ∧ x ≤ 100000000 := by
  unfold placeR at h
  by_cases hw : asg C 0 e [] = 0
  · rw [if_pos hw] at h
    obtain ⟨rfl, -⟩ := pair_eq h
    have hok := asg_wf hw
    have := sum_range hok e
    have h6 := hok 6 (by omega)
    simp only [get] at h6
    exact ⟨hok, by omega, by omega⟩
  · rw [if_neg hw] at h
    exact absurd (pair_eq h).2 hw
end CM

set_option maxHeartbeats 2000000 in
theorem release_b (C : CM) (o n : Int) (s : ByteArray) (ks : List ET) (A : Option Addr) (c l : Nat) (x k : Int) (w : World) (hM : ML w) (hl : ks.length = l) (hm : ET.cnt (.mk o n s ks) ≤ 1000000) (hd : ET.dep (.mk o n s ks) ≤ 1000000) (hE : EOk w s A c ks) (H : Hid (C.relR (.mk o n s ks) = (x, k))) :
    Calls Try.prog 28 #[.agg #[.int .i64 C.c0, .int .i64 C.c1, .int .i64 C.c2, .int .i64 C.c3, .int .i64 C.c4, .int .i64 C.c5, .int .i64 C.c6, .int .i64 C.c7, .int .i64 C.c8, .int .i64 C.c9, .int .i64 C.c10, .int .i64 C.c11, .int .i64 C.c12], .agg #[.int .i64 o, .int .i64 n, .string s, .slice A l c]] w fun e w' => e = .returned (.tuple #[.int .i64 x, .int .i64 k]) ∧ Below w.heap.size w w' := by
  obtain ⟨⟨y, j⟩, hy⟩ : ∃ r, C.placeR (.mk o n s ks) = r := ⟨_, rfl⟩
  have hxk := H.out
  unfold CM.relR at hxk
  rw [hy] at hxk
  have HY := Lib.hid hy
  have HE := Lib.hid hE
  have HLN := Lib.hid hl
  have HM := Lib.hid hm
  have HD := Lib.hid hd
  have X0 := Lib.hid (bx w C o n s A l c)
  have HML := Lib.hid hM
  clear hM
  clear hE hl hm hd H
  by_cases hj : j = 0
  · subst hj
    obtain ⟨hok, hy0, hy1⟩ := CM.placeR_ok hy HM.out
    simp only [if_true] at hxk
    obtain ⟨rfl, rfl⟩ := pair_eq hxk
    have h5 := hok 5 (by omega)
    have h0 := hok 0 (by omega)
    simp only [CM.get] at h5 h0
    clear hy hxk hok
    go_enter Try.func28, Try.ntmps28
    go_wp2_with fail
    refine (place_c C o n s ks A c l y 0 _ (HML.out.below HML.out.pos X0.out.below) HLN.out HM.out HD.out (X0.out.eok HE.out) HY).mono ?_
    rintro e w2 ⟨rfl, hb⟩
    have X2 := Lib.hid (X0.out.next hb)
    clear hb X0
    have hcc := X2.out.cc
    have e0 := X2.out.e0
    have e1 := X2.out.e1
    have e2 := X2.out.e2
    have e3 := X2.out.e3
    unfold CIn at hcc
    obtain ⟨k0, k1, k2, k3, k4, k5, k6, k7, k8, k9, k10, k11, k12⟩ := hcc
    go_wp2_with fail
    go_ret2
    exact ⟨rfl, X2.out.below⟩
  · simp only [hj, if_false] at hxk
    obtain ⟨rfl, rfl⟩ := pair_eq hxk
    have k0 : (j == 0) = false := by rw [beq_eq_false_iff_ne]; exact hj
    have k1 : (j != 0) = true := by simp [bne, k0]
    clear hy hxk hj
    go_enter Try.func28, Try.ntmps28
    go_wp2_with fail
    refine (place_c C o n s ks A c l y j _ (HML.out.below HML.out.pos X0.out.below) HLN.out HM.out HD.out (X0.out.eok HE.out) HY).mono ?_
    rintro e w2 ⟨rfl, hb⟩
    have X2 := Lib.hid (X0.out.next hb)
    clear hb X0
    go_wp2_with fail
    go_ret2
    exact ⟨rfl, X2.out.below⟩

set_option maxHeartbeats 2000000 in
theorem rrelease_b (C : CM) (o n : Int) (s : ByteArray) (ks : List ET) (A : Option Addr) (c l : Nat) (x k : Int) (w : World) (hl : ks.length = l) (hm : ET.cnt (.mk o n s ks) ≤ 1000000) (hd : ET.dep (.mk o n s ks) ≤ 1000000) (hE : EOk w s A c ks) (H : Hid (C.relR (.mk o n s ks) = (x, k))) :
    Calls Try.prog 33 #[.agg #[.int .i64 C.c0, .int .i64 C.c1, .int .i64 C.c2, .int .i64 C.c3, .int .i64 C.c4, .int .i64 C.c5, .int .i64 C.c6, .int .i64 C.c7, .int .i64 C.c8, .int .i64 C.c9, .int .i64 C.c10, .int .i64 C.c11, .int .i64 C.c12], .agg #[.int .i64 o, .int .i64 n, .string s, .slice A l c]] w fun e w' => e = .returned (.tuple #[.int .i64 x, .int .i64 k]) ∧ Below w.heap.size w w' := by
  obtain ⟨⟨y, j⟩, hy⟩ : ∃ r, C.placeR (.mk o n s ks) = r := ⟨_, rfl⟩
  have hxk := H.out
  unfold CM.relR at hxk
  rw [hy] at hxk
  have HY := Lib.hid hy
  have HE := Lib.hid hE
  have HLN := Lib.hid hl
  have HM := Lib.hid hm
  have HD := Lib.hid hd
  have X0 := Lib.hid (bx w C o n s A l c)
  clear hE hl hm hd H
  by_cases hj : j = 0
  · subst hj
    obtain ⟨hok, hy0, hy1⟩ := CM.placeR_ok hy HM.out
    simp only [if_true] at hxk
    obtain ⟨rfl, rfl⟩ := pair_eq hxk
    have h5 := hok 5 (by omega)
    have h0 := hok 0 (by omega)
    simp only [CM.get] at h5 h0
    clear hy hxk hok
    go_enter Try.func33, Try.ntmps33
    go_wp2_with fail
    refine (rplace_c C o n s ks A c l y 0 _ HLN.out HM.out HD.out (X0.out.eok HE.out) HY).mono ?_
    rintro e w2 ⟨rfl, hb⟩
    have X2 := Lib.hid (X0.out.next hb)
    clear hb X0
    have hcc := X2.out.cc
    have e0 := X2.out.e0
    have e1 := X2.out.e1
    have e2 := X2.out.e2
    have e3 := X2.out.e3
    unfold CIn at hcc
    obtain ⟨k0, k1, k2, k3, k4, k5, k6, k7, k8, k9, k10, k11, k12⟩ := hcc
    go_wp2_with fail
    go_ret2
    exact ⟨rfl, X2.out.below⟩
  · simp only [hj, if_false] at hxk
    obtain ⟨rfl, rfl⟩ := pair_eq hxk
    have k0 : (j == 0) = false := by rw [beq_eq_false_iff_ne]; exact hj
    have k1 : (j != 0) = true := by simp [bne, k0]
    clear hy hxk hj
    go_enter Try.func33, Try.ntmps33
    go_wp2_with fail
    refine (rplace_c C o n s ks A c l y j _ HLN.out HM.out HD.out (X0.out.eok HE.out) HY).mono ?_
    rintro e w2 ⟨rfl, hb⟩
    have X2 := Lib.hid (X0.out.next hb)
    clear hb X0
    go_wp2_with fail
    go_ret2
    exact ⟨rfl, X2.out.below⟩

set_option maxHeartbeats 2000000 in
theorem plus_b (C : CM) (o n : Int) (s : ByteArray) (ks : List ET) (A : Option Addr) (c l : Nat) (x k : Int) (w : World) (m : Int) (hb : ∀ y, C.exprR (.mk o n s ks) = (y, 0) → 0 ≤ m ∧ m ≤ 100) (hM : ML w) (hl : ks.length = l) (hm : ET.cnt (.mk o n s ks) ≤ 1000000) (hd : ET.dep (.mk o n s ks) ≤ 1000000) (hE : EOk w s A c ks) (H : Hid (C.plusR m (.mk o n s ks) = (x, k))) :
    Calls Try.prog 46 #[.agg #[.int .i64 C.c0, .int .i64 C.c1, .int .i64 C.c2, .int .i64 C.c3, .int .i64 C.c4, .int .i64 C.c5, .int .i64 C.c6, .int .i64 C.c7, .int .i64 C.c8, .int .i64 C.c9, .int .i64 C.c10, .int .i64 C.c11, .int .i64 C.c12], .int .i64 m, .agg #[.int .i64 o, .int .i64 n, .string s, .slice A l c]] w fun e w' => e = .returned (.tuple #[.int .i64 x, .int .i64 k]) ∧ Below w.heap.size w w' := by
  obtain ⟨⟨y, j⟩, hy⟩ : ∃ r, C.exprR (.mk o n s ks) = r := ⟨_, rfl⟩
  have hxk := H.out
  unfold CM.plusR at hxk
  rw [hy] at hxk hb
  have HY := Lib.hid hy
  have HE := Lib.hid hE
  have HLN := Lib.hid hl
  have HM := Lib.hid hm
  have HD := Lib.hid hd
  have HML := Lib.hid hM
  have X0 := Lib.hid (bx w C o n s A l c)
  clear hE hl hm hd H hM
  by_cases hj : j = 0
  · subst hj
    obtain ⟨hok, hy0, hy1⟩ := CM.exprR_ok hy HM.out
    simp only [if_true] at hxk
    obtain ⟨rfl, rfl⟩ := pair_eq hxk
    obtain ⟨hm0, hm1⟩ := hb y rfl
    clear hy hxk hok hb
    go_enter Try.func46, Try.ntmps46
    go_wp2_with fail
    refine (expr_b C o n s ks A c l y 0 _ (HML.out.below HML.out.pos X0.out.below) HLN.out HM.out HD.out (X0.out.eok HE.out) HY).mono ?_
    rintro e w2 ⟨rfl, hb⟩
    have X2 := Lib.hid (X0.out.next hb)
    clear hb X0
    go_wp2_with fail
    go_ret2
    exact ⟨rfl, X2.out.below⟩
  · simp only [hj, if_false] at hxk
    obtain ⟨rfl, rfl⟩ := pair_eq hxk
    have k0 : (j == 0) = false := by rw [beq_eq_false_iff_ne]; exact hj
    have k1 : (j != 0) = true := by simp [bne, k0]
    clear hy hxk hj hb
    go_enter Try.func46, Try.ntmps46
    go_wp2_with fail
    refine (expr_b C o n s ks A c l y j _ (HML.out.below HML.out.pos X0.out.below) HLN.out HM.out HD.out (X0.out.eok HE.out) HY).mono ?_
    rintro e w2 ⟨rfl, hb⟩
    have X2 := Lib.hid (X0.out.next hb)
    clear hb X0
    go_wp2_with fail
    go_ret2
    exact ⟨rfl, X2.out.below⟩

set_option maxHeartbeats 2000000 in
theorem output_b (C : CM) (o n : Int) (s : ByteArray) (ks : List ET) (A : Option Addr) (c l : Nat) (x k : Int) (w : World) (hM : ML w) (hl : ks.length = l) (hm : ET.cnt (.mk o n s ks) ≤ 1000000) (hd : ET.dep (.mk o n s ks) ≤ 1000000) (hE : EOk w s A c ks) (H : Hid (C.plusR C.c4 (.mk o n s ks) = (x, k))) :
    Calls Try.prog 29 #[.agg #[.int .i64 C.c0, .int .i64 C.c1, .int .i64 C.c2, .int .i64 C.c3, .int .i64 C.c4, .int .i64 C.c5, .int .i64 C.c6, .int .i64 C.c7, .int .i64 C.c8, .int .i64 C.c9, .int .i64 C.c10, .int .i64 C.c11, .int .i64 C.c12], .agg #[.int .i64 o, .int .i64 n, .string s, .slice A l c]] w fun e w' => e = .returned (.tuple #[.int .i64 x, .int .i64 k]) ∧ Below w.heap.size w w' := by
  have HB : Hid (∀ y, C.exprR (.mk o n s ks) = (y, 0) → 0 ≤ C.c4 ∧ C.c4 ≤ 100) := fun y hy => (CM.exprR_ok hy hm).1 4 (by omega)
  have HE := Lib.hid hE
  have HLN := Lib.hid hl
  have HM := Lib.hid hm
  have HD := Lib.hid hd
  have HML := Lib.hid hM
  have X0 := Lib.hid (bx w C o n s A l c)
  clear hE hl hm hd hM
  go_enter Try.func29, Try.ntmps29
  go_wp2_with fail
  refine (plus_b C o n s ks A c l x k _ C.c4 HB.out (HML.out.below HML.out.pos X0.out.below) HLN.out HM.out HD.out (X0.out.eok HE.out) H).mono ?_
  rintro e w2 ⟨rfl, hb⟩
  have X2 := Lib.hid (X0.out.next hb)
  clear hb X0
  go_wp2_with fail
  go_ret2
  exact ⟨rfl, X2.out.below⟩

set_option maxHeartbeats 2000000 in
theorem routput_b (C : CM) (o n : Int) (s : ByteArray) (ks : List ET) (A : Option Addr) (c l : Nat) (x k : Int) (w : World) (hl : ks.length = l) (hm : ET.cnt (.mk o n s ks) ≤ 1000000) (hd : ET.dep (.mk o n s ks) ≤ 1000000) (hE : EOk w s A c ks) (H : Hid (C.plusR C.c4 (.mk o n s ks) = (x, k))) :
    Calls Try.prog 34 #[.agg #[.int .i64 C.c0, .int .i64 C.c1, .int .i64 C.c2, .int .i64 C.c3, .int .i64 C.c4, .int .i64 C.c5, .int .i64 C.c6, .int .i64 C.c7, .int .i64 C.c8, .int .i64 C.c9, .int .i64 C.c10, .int .i64 C.c11, .int .i64 C.c12], .agg #[.int .i64 o, .int .i64 n, .string s, .slice A l c]] w fun e w' => e = .returned (.tuple #[.int .i64 x, .int .i64 k]) ∧ Below w.heap.size w w' := by
  obtain ⟨⟨y, j⟩, hy⟩ : ∃ r, C.exprR (.mk o n s ks) = r := ⟨_, rfl⟩
  have hxk := H.out
  unfold CM.plusR at hxk
  rw [hy] at hxk
  have HY := Lib.hid hy
  have HE := Lib.hid hE
  have HLN := Lib.hid hl
  have HM := Lib.hid hm
  have HD := Lib.hid hd
  have X0 := Lib.hid (bx w C o n s A l c)
  clear hE hl hm hd H
  by_cases hj : j = 0
  · subst hj
    obtain ⟨hok, hy0, hy1⟩ := CM.exprR_ok hy HM.out
    simp only [if_true] at hxk
    obtain ⟨rfl, rfl⟩ := pair_eq hxk
    have h5 := hok 4 (by omega)
    simp only [CM.get] at h5
    clear hy hxk hok
    go_enter Try.func34, Try.ntmps34
    go_wp2_with fail
    refine (rexpr_b C o n s ks A c l y 0 _ HLN.out HM.out HD.out (X0.out.eok HE.out) HY).mono ?_
    rintro e w2 ⟨rfl, hb⟩
    have X2 := Lib.hid (X0.out.next hb)
    clear hb X0
    have hcc := X2.out.cc
    have e0 := X2.out.e0
    have e1 := X2.out.e1
    have e2 := X2.out.e2
    have e3 := X2.out.e3
    unfold CIn at hcc
    obtain ⟨k0, k1, k2, k3, k4, k5, k6, k7, k8, k9, k10, k11, k12⟩ := hcc
    go_wp2_with fail
    go_ret2
    exact ⟨rfl, X2.out.below⟩
  · simp only [hj, if_false] at hxk
    obtain ⟨rfl, rfl⟩ := pair_eq hxk
    have k0 : (j == 0) = false := by rw [beq_eq_false_iff_ne]; exact hj
    have k1 : (j != 0) = true := by simp [bne, k0]
    clear hy hxk hj
    go_enter Try.func34, Try.ntmps34
    go_wp2_with fail
    refine (rexpr_b C o n s ks A c l y j _ HLN.out HM.out HD.out (X0.out.eok HE.out) HY).mono ?_
    rintro e w2 ⟨rfl, hb⟩
    have X2 := Lib.hid (X0.out.next hb)
    clear hb X0
    go_wp2_with fail
    go_ret2
    exact ⟨rfl, X2.out.below⟩

set_option maxHeartbeats 2000000 in
theorem ifc_b (C : CM) (o n : Int) (s : ByteArray) (ks : List ET) (A : Option Addr) (c l : Nat) (x k : Int) (w : World) (hM : ML w) (hl : ks.length = l) (hm : ET.cnt (.mk o n s ks) ≤ 1000000) (hd : ET.dep (.mk o n s ks) ≤ 1000000) (hE : EOk w s A c ks) (H : Hid (C.plusR C.c1 (.mk o n s ks) = (x, k))) :
    Calls Try.prog 18 #[.agg #[.int .i64 C.c0, .int .i64 C.c1, .int .i64 C.c2, .int .i64 C.c3, .int .i64 C.c4, .int .i64 C.c5, .int .i64 C.c6, .int .i64 C.c7, .int .i64 C.c8, .int .i64 C.c9, .int .i64 C.c10, .int .i64 C.c11, .int .i64 C.c12], .agg #[.int .i64 o, .int .i64 n, .string s, .slice A l c]] w fun e w' => e = .returned (.tuple #[.int .i64 x, .int .i64 k]) ∧ Below w.heap.size w w' := by
  have HB : Hid (∀ y, C.exprR (.mk o n s ks) = (y, 0) → 0 ≤ C.c1 ∧ C.c1 ≤ 100) := fun y hy => (CM.exprR_ok hy hm).1 1 (by omega)
  have HE := Lib.hid hE
  have HLN := Lib.hid hl
  have HM := Lib.hid hm
  have HD := Lib.hid hd
  have HML := Lib.hid hM
  have X0 := Lib.hid (bx w C o n s A l c)
  clear hE hl hm hd hM
  go_enter Try.func18, Try.ntmps18
  go_wp2_with fail
  refine (plus_b C o n s ks A c l x k _ C.c1 HB.out (HML.out.below HML.out.pos X0.out.below) HLN.out HM.out HD.out (X0.out.eok HE.out) H).mono ?_
  rintro e w2 ⟨rfl, hb⟩
  have X2 := Lib.hid (X0.out.next hb)
  clear hb X0
  go_wp2_with fail
  go_ret2
  exact ⟨rfl, X2.out.below⟩

set_option maxHeartbeats 2000000 in
theorem rif_b (C : CM) (o n : Int) (s : ByteArray) (ks : List ET) (A : Option Addr) (c l : Nat) (x k : Int) (w : World) (hl : ks.length = l) (hm : ET.cnt (.mk o n s ks) ≤ 1000000) (hd : ET.dep (.mk o n s ks) ≤ 1000000) (hE : EOk w s A c ks) (H : Hid (C.plusR C.c1 (.mk o n s ks) = (x, k))) :
    Calls Try.prog 35 #[.agg #[.int .i64 C.c0, .int .i64 C.c1, .int .i64 C.c2, .int .i64 C.c3, .int .i64 C.c4, .int .i64 C.c5, .int .i64 C.c6, .int .i64 C.c7, .int .i64 C.c8, .int .i64 C.c9, .int .i64 C.c10, .int .i64 C.c11, .int .i64 C.c12], .agg #[.int .i64 o, .int .i64 n, .string s, .slice A l c]] w fun e w' => e = .returned (.tuple #[.int .i64 x, .int .i64 k]) ∧ Below w.heap.size w w' := by
  obtain ⟨⟨y, j⟩, hy⟩ : ∃ r, C.exprR (.mk o n s ks) = r := ⟨_, rfl⟩
  have hxk := H.out
  unfold CM.plusR at hxk
  rw [hy] at hxk
  have HY := Lib.hid hy
  have HE := Lib.hid hE
  have HLN := Lib.hid hl
  have HM := Lib.hid hm
  have HD := Lib.hid hd
  have X0 := Lib.hid (bx w C o n s A l c)
  clear hE hl hm hd H
  by_cases hj : j = 0
  · subst hj
    obtain ⟨hok, hy0, hy1⟩ := CM.exprR_ok hy HM.out
    simp only [if_true] at hxk
    obtain ⟨rfl, rfl⟩ := pair_eq hxk
    have h5 := hok 1 (by omega)
    simp only [CM.get] at h5
    clear hy hxk hok
    go_enter Try.func35, Try.ntmps35
    go_wp2_with fail
    refine (rexpr_b C o n s ks A c l y 0 _ HLN.out HM.out HD.out (X0.out.eok HE.out) HY).mono ?_
    rintro e w2 ⟨rfl, hb⟩
    have X2 := Lib.hid (X0.out.next hb)
    clear hb X0
    have hcc := X2.out.cc
    have e0 := X2.out.e0
    have e1 := X2.out.e1
    have e2 := X2.out.e2
    have e3 := X2.out.e3
    unfold CIn at hcc
    obtain ⟨k0, k1, k2, k3, k4, k5, k6, k7, k8, k9, k10, k11, k12⟩ := hcc
    go_wp2_with fail
    go_ret2
    exact ⟨rfl, X2.out.below⟩
  · simp only [hj, if_false] at hxk
    obtain ⟨rfl, rfl⟩ := pair_eq hxk
    have k0 : (j == 0) = false := by rw [beq_eq_false_iff_ne]; exact hj
    have k1 : (j != 0) = true := by simp [bne, k0]
    clear hy hxk hj
    go_enter Try.func35, Try.ntmps35
    go_wp2_with fail
    refine (rexpr_b C o n s ks A c l y j _ HLN.out HM.out HD.out (X0.out.eok HE.out) HY).mono ?_
    rintro e w2 ⟨rfl, hb⟩
    have X2 := Lib.hid (X0.out.next hb)
    clear hb X0
    go_wp2_with fail
    go_ret2
    exact ⟨rfl, X2.out.below⟩

set_option maxHeartbeats 2000000 in
theorem while_b (C : CM) (o n : Int) (s : ByteArray) (ks : List ET) (A : Option Addr) (c l : Nat) (x k : Int) (w : World) (hM : ML w) (hl : ks.length = l) (hm : ET.cnt (.mk o n s ks) ≤ 1000000) (hd : ET.dep (.mk o n s ks) ≤ 1000000) (hE : EOk w s A c ks) (H : Hid (C.plusR C.c2 (.mk o n s ks) = (x, k))) :
    Calls Try.prog 30 #[.agg #[.int .i64 C.c0, .int .i64 C.c1, .int .i64 C.c2, .int .i64 C.c3, .int .i64 C.c4, .int .i64 C.c5, .int .i64 C.c6, .int .i64 C.c7, .int .i64 C.c8, .int .i64 C.c9, .int .i64 C.c10, .int .i64 C.c11, .int .i64 C.c12], .agg #[.int .i64 o, .int .i64 n, .string s, .slice A l c]] w fun e w' => e = .returned (.tuple #[.int .i64 x, .int .i64 k]) ∧ Below w.heap.size w w' := by
  have HB : Hid (∀ y, C.exprR (.mk o n s ks) = (y, 0) → 0 ≤ C.c2 ∧ C.c2 ≤ 100) := fun y hy => (CM.exprR_ok hy hm).1 2 (by omega)
  have HE := Lib.hid hE
  have HLN := Lib.hid hl
  have HM := Lib.hid hm
  have HD := Lib.hid hd
  have HML := Lib.hid hM
  have X0 := Lib.hid (bx w C o n s A l c)
  clear hE hl hm hd hM
  go_enter Try.func30, Try.ntmps30
  go_wp2_with fail
  refine (plus_b C o n s ks A c l x k _ C.c2 HB.out (HML.out.below HML.out.pos X0.out.below) HLN.out HM.out HD.out (X0.out.eok HE.out) H).mono ?_
  rintro e w2 ⟨rfl, hb⟩
  have X2 := Lib.hid (X0.out.next hb)
  clear hb X0
  go_wp2_with fail
  go_ret2
  exact ⟨rfl, X2.out.below⟩

set_option maxHeartbeats 2000000 in
theorem rwhile_b (C : CM) (o n : Int) (s : ByteArray) (ks : List ET) (A : Option Addr) (c l : Nat) (x k : Int) (w : World) (hl : ks.length = l) (hm : ET.cnt (.mk o n s ks) ≤ 1000000) (hd : ET.dep (.mk o n s ks) ≤ 1000000) (hE : EOk w s A c ks) (H : Hid (C.plusR C.c2 (.mk o n s ks) = (x, k))) :
    Calls Try.prog 36 #[.agg #[.int .i64 C.c0, .int .i64 C.c1, .int .i64 C.c2, .int .i64 C.c3, .int .i64 C.c4, .int .i64 C.c5, .int .i64 C.c6, .int .i64 C.c7, .int .i64 C.c8, .int .i64 C.c9, .int .i64 C.c10, .int .i64 C.c11, .int .i64 C.c12], .agg #[.int .i64 o, .int .i64 n, .string s, .slice A l c]] w fun e w' => e = .returned (.tuple #[.int .i64 x, .int .i64 k]) ∧ Below w.heap.size w w' := by
  obtain ⟨⟨y, j⟩, hy⟩ : ∃ r, C.exprR (.mk o n s ks) = r := ⟨_, rfl⟩
  have hxk := H.out
  unfold CM.plusR at hxk
  rw [hy] at hxk
  have HY := Lib.hid hy
  have HE := Lib.hid hE
  have HLN := Lib.hid hl
  have HM := Lib.hid hm
  have HD := Lib.hid hd
  have X0 := Lib.hid (bx w C o n s A l c)
  clear hE hl hm hd H
  by_cases hj : j = 0
  · subst hj
    obtain ⟨hok, hy0, hy1⟩ := CM.exprR_ok hy HM.out
    simp only [if_true] at hxk
    obtain ⟨rfl, rfl⟩ := pair_eq hxk
    have h5 := hok 2 (by omega)
    simp only [CM.get] at h5
    clear hy hxk hok
    go_enter Try.func36, Try.ntmps36
    go_wp2_with fail
    refine (rexpr_b C o n s ks A c l y 0 _ HLN.out HM.out HD.out (X0.out.eok HE.out) HY).mono ?_
    rintro e w2 ⟨rfl, hb⟩
    have X2 := Lib.hid (X0.out.next hb)
    clear hb X0
    have hcc := X2.out.cc
    have e0 := X2.out.e0
    have e1 := X2.out.e1
    have e2 := X2.out.e2
    have e3 := X2.out.e3
    unfold CIn at hcc
    obtain ⟨k0, k1, k2, k3, k4, k5, k6, k7, k8, k9, k10, k11, k12⟩ := hcc
    go_wp2_with fail
    go_ret2
    exact ⟨rfl, X2.out.below⟩
  · simp only [hj, if_false] at hxk
    obtain ⟨rfl, rfl⟩ := pair_eq hxk
    have k0 : (j == 0) = false := by rw [beq_eq_false_iff_ne]; exact hj
    have k1 : (j != 0) = true := by simp [bne, k0]
    clear hy hxk hj
    go_enter Try.func36, Try.ntmps36
    go_wp2_with fail
    refine (rexpr_b C o n s ks A c l y j _ HLN.out HM.out HD.out (X0.out.eok HE.out) HY).mono ?_
    rintro e w2 ⟨rfl, hb⟩
    have X2 := Lib.hid (X0.out.next hb)
    clear hb X0
    go_wp2_with fail
    go_ret2
    exact ⟨rfl, X2.out.below⟩
end Go.Proofs.Ythlhicegchkjjaa
