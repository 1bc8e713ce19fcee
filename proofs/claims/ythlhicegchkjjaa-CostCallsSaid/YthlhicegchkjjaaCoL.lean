/-
  The walks over the reference's counts, and its Set and Leave.
-/
import Derived.Test.YthlhicegchkjjaaCoK
namespace Go.Proofs.Ythlhicegchkjjaa
open Go.RowKit

/-- A list of numbers in memory. -/
def ZOk (W : World) (B : Option Addr) (d : Nat) (zs : List Int) : Prop := zs.length ≤ d ∧ d ≤ maxLen ∧ ∀ j, j < zs.length → ∃ g f, B = some ⟨g, f, none⟩ ∧ g < W.heap.size ∧ W.cell? ⟨g, f + j, none⟩ = some (.int .i64 (zs.getD j 0))
theorem ZOk.below {W W' : World} {B : Option Addr} {d : Nat} {zs : List Int} (h : ZOk W B d zs) (hb : Below W.heap.size W W') : ZOk W' B d zs :=
  ⟨h.1, h.2.1, fun j hj => by obtain ⟨g, f, h1, h2, h3⟩ := h.2.2 j hj; exact ⟨g, f, h1, Nat.lt_of_lt_of_le h2 hb.size, (hb.cell (p := ⟨g, _, none⟩) h2).trans h3⟩⟩

set_option maxHeartbeats 1000000 in
theorem rcounts_b (zs : List Int) (B : Option Addr) (d m : Nat) (r : Int) (hm : zs.length = m) (H : Hid (CM.cnts zs = r)) (w : World) (hz : ZOk w B d zs) :
    Calls Try.prog 47 #[.slice B m d] w fun e w' => e = .returned (.int .i64 r) ∧ w = w' := by
  have hmm : m ≤ 9223372036854775807 := by have h1 := hz.1; have h2 := hz.2.1; unfold maxLen at h2; omega
  have HZ := Lib.hid hz
  have HM := Lib.hid hm
  clear hz hm
  go_enter Try.func47, Try.ntmps47
  go_wp2_with fail
  go_loop [3] (fun v => ∃ k : Nat, k ≤ m ∧ v = .int .i64 k ∧ Hid (∀ j, j < k → 0 ≤ zs.getD j 0 ∧ zs.getD j 0 ≤ 32)) (fun v => m - (intOf v).toNat)
  case atStart => exact ⟨0, by omega, rfl, fun j hj => absurd hj (by omega)⟩
  case round =>
    obtain ⟨k, hk, rfl, HK⟩ := hrel
    by_cases hlt : k < m
    · obtain ⟨g, f, hB, hg, hi⟩ := HZ.out.2.2 k (by have := HM.out; omega)
      subst hB
      obtain ⟨x, hx⟩ : ∃ x, x = zs.getD k 0 := ⟨_, rfl⟩
      rw [← hx] at hi
      by_cases h0 : x < 0
      · have hr : r = 3 := by
          rw [← H.out]; unfold CM.cnts; rw [if_neg]
          intro hk; have := hk k (by have := HM.out; omega); omega
        subst hr
        clear H HK hx
        go_wp2_with fail
        go_ret
        exact ⟨rfl, rfl⟩
      by_cases h1 : 32 < x
      · have hr : r = 3 := by
          rw [← H.out]; unfold CM.cnts; rw [if_neg]
          intro hk; have := hk k (by have := HM.out; omega); omega
        subst hr
        clear H HK hx
        go_wp2_with fail
        go_ret
        exact ⟨rfl, rfl⟩
      have HS : Hid (∀ j, j < k + 1 → 0 ≤ zs.getD j 0 ∧ zs.getD j 0 ≤ 32) := by
        intro j hj
        by_cases hjk : j = k
        · subst hjk; rw [← hx]; omega
        · exact HK.out j (by omega)
      clear HK hx
      have h0' : 0 ≤ x := by omega
      have h1' : x ≤ 32 := by omega
      go_wp2_with fail
      go_round
      case rel => exact ⟨k + 1, by omega, by go_num, HS⟩
      case measure => simp [intOf]; omega
    · have hkm : k = m := by omega
      have hr : r = 0 := by
        rw [← H.out]; unfold CM.cnts; rw [if_pos]
        intro j hj; exact HK.out j (by have := HM.out; omega)
      subst hr
      clear H HK
      go_wp2_with fail
      go_ret
      exact ⟨rfl, rfl⟩

set_option maxRecDepth 100000 in
set_option maxHeartbeats 4000000 in
theorem rassigned_b (C : CM) (o n : Int) (s : ByteArray) (ks : List ET) (A : Option Addr) (c l : Nat) (o2 n2 : Int) (s2 : ByteArray) (ks2 : List ET) (A2 : Option Addr) (c2 l2 : Nat) (z x k : Int) (w : World) (hl : ks.length = l) (hm : ET.cnt (.mk o n s ks) ≤ 1000000) (hd : ET.dep (.mk o n s ks) ≤ 1000000) (hE : EOk w s A c ks) (hl2 : ks2.length = l2) (hm2 : ET.cnt (.mk o2 n2 s2 ks2) ≤ 1000000) (hd2 : ET.dep (.mk o2 n2 s2 ks2) ≤ 1000000) (hE2 : EOk w s2 A2 c2 ks2) (H : Hid (C.setR (.mk o n s ks) (.mk o2 n2 s2 ks2) z = (x, k))) :
    Calls Try.prog 51 #[.agg #[.int .i64 C.c0, .int .i64 C.c1, .int .i64 C.c2, .int .i64 C.c3, .int .i64 C.c4, .int .i64 C.c5, .int .i64 C.c6, .int .i64 C.c7, .int .i64 C.c8, .int .i64 C.c9, .int .i64 C.c10, .int .i64 C.c11, .int .i64 C.c12], .agg #[.int .i64 o, .int .i64 n, .string s, .slice A l c], .agg #[.int .i64 o2, .int .i64 n2, .string s2, .slice A2 l2 c2], .int .i64 z] w fun e w' => e = .returned (.tuple #[.int .i64 x, .int .i64 k]) ∧ Below w.heap.size w w' := by
  obtain ⟨q, hq⟩ : ∃ q, CM.asg C z (.mk o n s ks) [.mk o2 n2 s2 ks2] = q := ⟨_, rfl⟩
  obtain ⟨q1, hq1⟩ : ∃ q, CM.args C [.mk o n s ks] [.mk o2 n2 s2 ks2] = q := ⟨_, rfl⟩
  obtain ⟨q2, hq2⟩ : ∃ q, CM.cnts [z] = q := ⟨_, rfl⟩
  have hqq := CM.asg_set C (.mk o n s ks) (.mk o2 n2 s2 ks2) z
  rw [hq, hq1, hq2] at hqq
  have hxk := H.out
  unfold CM.setR at hxk
  rw [hq] at hxk
  have HE := Lib.hid hE
  have HLN := Lib.hid hl
  have HM := Lib.hid hm
  have HE2 := Lib.hid hE2
  have HLN2 := Lib.hid hl2
  have HM2 := Lib.hid hm2
  have HQ1 := Lib.hid hq1
  have HQ2 := Lib.hid hq2
  have HS1 := Lib.hid (small_one hm hd)
  have HS2 := Lib.hid (small_one hm2 hd2)
  have X0 := Lib.hid (byb w C o n s A l c o2 n2 s2 A2 l2 c2)
  have XB : Hid (By w (((boxY w C o n s A l c o2 n2 s2 A2 l2 c2).alloc (.cells #[.int .i64 o, .int .i64 n, .string s, .slice A l c] 27)).alloc (.cells #[.int .i64 o2, .int .i64 n2, .string s2, .slice A2 l2 c2] 27)) C o n s A l c o2 n2 s2 A2 l2 c2) := (X0.out.next ((Below.refl _ _).alloc (Nat.le_refl _) _)).next ((Below.refl _ _).alloc (Nat.le_refl _) _)
  have HLO1 : Hid (LOk (((boxY w C o n s A l c o2 n2 s2 A2 l2 c2).alloc (.cells #[.int .i64 o, .int .i64 n, .string s, .slice A l c] 27)).alloc (.cells #[.int .i64 o2, .int .i64 n2, .string s2, .slice A2 l2 c2] 27)) (some ⟨w.heap.size + 1 + 1 + 1, 0, none⟩) 1 [.mk o n s ks]) := by
    refine LOk.one hE XB.out.bx.below ?_ ?_ ?_ ?_ ?_
    all_goals (try rw [hl]); unfold boxY boxed boxC; go_simp
  have HLO2 : Hid (LOk (((boxY w C o n s A l c o2 n2 s2 A2 l2 c2).alloc (.cells #[.int .i64 o, .int .i64 n, .string s, .slice A l c] 27)).alloc (.cells #[.int .i64 o2, .int .i64 n2, .string s2, .slice A2 l2 c2] 27)) (some ⟨w.heap.size + 1 + 1 + 1 + 1, 0, none⟩) 1 [.mk o2 n2 s2 ks2]) := by
    refine LOk.one hE2 XB.out.bx.below ?_ ?_ ?_ ?_ ?_
    all_goals (try rw [hl2]); unfold boxY boxed boxC; go_simp
  clear hE hl hm hd hE2 hl2 hm2 hd2 H X0 hq1 hq2
  by_cases h1 : q1 = 0
  · subst h1
    rw [if_pos rfl] at hqq
    subst hqq
    by_cases h2 : q = 0
    · subst h2
      rw [if_pos rfl] at hxk
      obtain ⟨hx, rfl⟩ := pair_eq hxk
      have HOK := Lib.hid (asg_wf hq)
      obtain ⟨hz0, hz1⟩ := CM.asg_num0 hq
      clear hq hxk
      go_enter Try.func51, Try.ntmps51
      go_wp2_with fail
      refine (rarg_b C [.mk o n s ks] [.mk o2 n2 s2 ks2] (some ⟨w.heap.size + 1 + 1 + 1, 0, none⟩) (some ⟨w.heap.size + 1 + 1 + 1 + 1, 0, none⟩) 1 1 1 1 0 rfl rfl HQ1 HS1.out HS2.out _ HLO1.out HLO2.out).mono ?_
      rintro e w2 ⟨rfl, hb⟩
      have X2 := Lib.hid (XB.out.next hb)
      clear hb XB HLO1 HLO2
      have hcc := X2.out.bx.cc
      have e0 := X2.out.bx.e0
      have e1 := X2.out.bx.e1
      have e2 := X2.out.bx.e2
      have e3 := X2.out.bx.e3
      have f0 := X2.out.f0
      have f1 := X2.out.f1
      have f2 := X2.out.f2
      have f3 := X2.out.f3
      unfold CIn at hcc
      obtain ⟨k0, k1, k2, k3, k4, k5, k6, k7, k8, k9, k10, k11, k12⟩ := hcc
      go_wp2_with fail
      refine (rcounts_b [z] _ 1 1 0 rfl HQ2 _ ⟨by simp, by unfold maxLen; omega, ?_⟩).mono ?_
      · intro j hj
        obtain rfl : j = 0 := by simpa using hj
        refine ⟨_, _, rfl, ?_, ?_⟩
        · simp
        · simp
      rintro e w5 ⟨rfl, hw5⟩
      have X5 : Hid (By w w5 C o n s A l c o2 n2 s2 A2 l2 c2) := by
        show By w w5 C o n s A l c o2 n2 s2 A2 l2 c2
        rw [← hw5]; exact X2.out.next ((Below.refl _ _).alloc (Nat.le_refl _) _)
      clear hw5 X2 k0 k1 k2 k3 k4 k5 k6 k7 k8 k9 k10 k11 k12 e0 e1 e2 e3 f0 f1 f2 f3
      have hcc := X5.out.bx.cc
      have e0 := X5.out.bx.e0
      have e1 := X5.out.bx.e1
      have e2 := X5.out.bx.e2
      have e3 := X5.out.bx.e3
      have f0 := X5.out.f0
      have f1 := X5.out.f1
      have f2 := X5.out.f2
      have f3 := X5.out.f3
      unfold CIn at hcc
      obtain ⟨k0, k1, k2, k3, k4, k5, k6, k7, k8, k9, k10, k11, k12⟩ := hcc
      go_wp2_with fail
      obtain ⟨y, hy⟩ : ∃ y, C.sum (.mk o n s ks) = y := ⟨_, rfl⟩
      obtain ⟨u, hu⟩ : ∃ y, C.sum (.mk o2 n2 s2 ks2) = y := ⟨_, rfl⟩
      have hr1 := CM.sum_range HOK.out (.mk o n s ks)
      have hr2 := CM.sum_range HOK.out (.mk o2 n2 s2 ks2)
      have h6 := HOK.out 6 (by omega)
      have h0 := HOK.out 0 (by omega)
      simp only [CM.get] at h6 h0
      have hp1 : 0 ≤ C.c0 * z := Int.mul_nonneg h0.1 hz0
      have hp2 : C.c0 * z ≤ 100 * 32 := Int.mul_le_mul h0.2 hz1 hz0 (by omega)
      have hm' := HM.out
      have hm2' := HM2.out
      rw [hy, hu] at hx
      rw [hu] at hr2
      rw [hy] at hr1
      have HY := Lib.hid hy
      have HU := Lib.hid hu
      have HW1 : Hid (IntKind.i64.wrap (C.c0 * z) = C.c0 * z) := IntWalk.i64_in _ (by omega)
      have HW2 : Hid (IntKind.i64.wrap (C.c0 * z + y) = C.c0 * z + y) := IntWalk.i64_in _ (by omega)
      have HW3 : Hid (IntKind.i64.wrap (C.c0 * z + y - C.c6) = C.c0 * z + y - C.c6) := IntWalk.i64_in _ (by omega)
      have HW4 : Hid (IntKind.i64.wrap (C.c0 * z + y - C.c6 + u) = x) := by show _ = _; rw [← hx, IntWalk.i64_in _ (by omega)]; omega
      clear hy hu hr1 hr2 hm' hm2' hx hp1 hp2 h6 h0 hz0 hz1
      go_region_held3 (fun W => W.cell? ⟨w.heap.size + 1, 0, none⟩ = some (.int .i64 o) ∧ W.cell? ⟨w.heap.size + 1, 1, none⟩ = some (.int .i64 n) ∧ W.cell? ⟨w.heap.size + 1, 2, none⟩ = some (.string s) ∧ W.cell? ⟨w.heap.size + 1, 3, none⟩ = some (.slice A l c) ∧ W.cell? ⟨w.heap.size + 1 + 1, 0, none⟩ = some (.int .i64 o2) ∧ W.cell? ⟨w.heap.size + 1 + 1, 1, none⟩ = some (.int .i64 n2) ∧ W.cell? ⟨w.heap.size + 1 + 1, 2, none⟩ = some (.string s2) ∧ W.cell? ⟨w.heap.size + 1 + 1, 3, none⟩ = some (.slice A2 l2 c2) ∧ W.cell? ⟨w.heap.size, 0, none⟩ = some (.int .i64 C.c0) ∧ W.cell? ⟨w.heap.size, 1, none⟩ = some (.int .i64 C.c1) ∧ W.cell? ⟨w.heap.size, 2, none⟩ = some (.int .i64 C.c2) ∧ W.cell? ⟨w.heap.size, 3, none⟩ = some (.int .i64 C.c3) ∧ W.cell? ⟨w.heap.size, 4, none⟩ = some (.int .i64 C.c4) ∧ W.cell? ⟨w.heap.size, 5, none⟩ = some (.int .i64 C.c5) ∧ W.cell? ⟨w.heap.size, 6, none⟩ = some (.int .i64 C.c6) ∧ W.cell? ⟨w.heap.size, 7, none⟩ = some (.int .i64 C.c7) ∧ W.cell? ⟨w.heap.size, 8, none⟩ = some (.int .i64 C.c8) ∧ W.cell? ⟨w.heap.size, 9, none⟩ = some (.int .i64 C.c9) ∧ W.cell? ⟨w.heap.size, 10, none⟩ = some (.int .i64 C.c10) ∧ W.cell? ⟨w.heap.size, 11, none⟩ = some (.int .i64 C.c11) ∧ W.cell? ⟨w.heap.size, 12, none⟩ = some (.int .i64 C.c12)) (first | exact ⟨X5.out.drew.bx.e0, X5.out.drew.bx.e1, X5.out.drew.bx.e2, X5.out.drew.bx.e3, X5.out.drew.f0, X5.out.drew.f1, X5.out.drew.f2, X5.out.drew.f3, X5.out.drew.bx.cc⟩ | exact ⟨X3.out.bx.e0, X3.out.bx.e1, X3.out.bx.e2, X3.out.bx.e3, X3.out.f0, X3.out.f1, X3.out.f2, X3.out.f3, X3.out.bx.cc⟩ | exact ⟨X4.out.bx.e0, X4.out.bx.e1, X4.out.bx.e2, X4.out.bx.e3, X4.out.f0, X4.out.f1, X4.out.f2, X4.out.f3, X4.out.bx.cc⟩) (first
        | (go_at_call_of 42 s; refine (rsum_any C HOK.out _ o n s ks A c l y _ HLN.out (Nat.le_refl _) HM.out (X5.out.drew.bx.eok HE.out) HY).mono ?_; rintro e w3 ⟨rfl, hb⟩; have X3 := Lib.hid (X5.out.drew.next hb); clear hb)
        | (go_at_call_of 42 s2; refine (rsum_any C HOK.out _ o2 n2 s2 ks2 A2 c2 l2 u _ HLN2.out (Nat.le_refl _) HM2.out (HE2.out.below X3.out.bx.below) HU).mono ?_; rintro e w4 ⟨rfl, hb⟩; have X4 := Lib.hid (X3.out.next hb); clear hb))
      go_wp2_with fail
      go_ret2
      exact ⟨by first | rfl | (rw [HW1.out, HW2.out, HW3.out, HW4.out]; rfl) | (rw [HW1.out, HW2.out, HW3.out, HW4.out]), X4.out.bx.below⟩
    · rw [if_neg h2] at hxk
      obtain ⟨rfl, rfl⟩ := pair_eq hxk
      have k0' : (q == 0) = false := by rw [beq_eq_false_iff_ne]; exact h2
      have k1' : (q != 0) = true := by simp [bne, k0']
      clear hq hxk h2
      go_enter Try.func51, Try.ntmps51
      go_wp2_with fail
      refine (rarg_b C [.mk o n s ks] [.mk o2 n2 s2 ks2] (some ⟨w.heap.size + 1 + 1 + 1, 0, none⟩) (some ⟨w.heap.size + 1 + 1 + 1 + 1, 0, none⟩) 1 1 1 1 0 rfl rfl HQ1 HS1.out HS2.out _ HLO1.out HLO2.out).mono ?_
      rintro e w2 ⟨rfl, hb⟩
      have X2 := Lib.hid (XB.out.next hb)
      clear hb XB HLO1 HLO2
      have hcc := X2.out.bx.cc
      have e0 := X2.out.bx.e0
      have e1 := X2.out.bx.e1
      have e2 := X2.out.bx.e2
      have e3 := X2.out.bx.e3
      have f0 := X2.out.f0
      have f1 := X2.out.f1
      have f2 := X2.out.f2
      have f3 := X2.out.f3
      unfold CIn at hcc
      obtain ⟨k0, k1, k2, k3, k4, k5, k6, k7, k8, k9, k10, k11, k12⟩ := hcc
      go_wp2_with fail
      refine (rcounts_b [z] _ 1 1 q rfl HQ2 _ ⟨by simp, by unfold maxLen; omega, ?_⟩).mono ?_
      · intro j hj
        obtain rfl : j = 0 := by simpa using hj
        refine ⟨_, _, rfl, ?_, ?_⟩
        · simp
        · simp
      rintro e w5 ⟨rfl, hw5⟩
      have X5 : Hid (By w w5 C o n s A l c o2 n2 s2 A2 l2 c2) := by
        show By w w5 C o n s A l c o2 n2 s2 A2 l2 c2
        rw [← hw5]; exact X2.out.next ((Below.refl _ _).alloc (Nat.le_refl _) _)
      clear hw5 X2 k0 k1 k2 k3 k4 k5 k6 k7 k8 k9 k10 k11 k12 e0 e1 e2 e3 f0 f1 f2 f3
      go_wp2_with fail
      go_ret2
      exact ⟨rfl, X5.out.bx.below⟩
  · rw [if_neg h1] at hqq
    subst hqq
    rw [if_neg h1] at hxk
    obtain ⟨rfl, rfl⟩ := pair_eq hxk
    have k0' : (q == 0) = false := by rw [beq_eq_false_iff_ne]; exact h1
    have k1' : (q != 0) = true := by simp [bne, k0']
    clear hq hxk h1
    go_enter Try.func51, Try.ntmps51
    go_wp2_with fail
    refine (rarg_b C [.mk o n s ks] [.mk o2 n2 s2 ks2] (some ⟨w.heap.size + 1 + 1 + 1, 0, none⟩) (some ⟨w.heap.size + 1 + 1 + 1 + 1, 0, none⟩) 1 1 1 1 q rfl rfl HQ1 HS1.out HS2.out _ HLO1.out HLO2.out).mono ?_
    rintro e w2 ⟨rfl, hb⟩
    have X2 := Lib.hid (XB.out.next hb)
    clear hb XB HLO1 HLO2
    go_wp2_with fail
    go_ret2
    exact ⟨rfl, X2.out.bx.below⟩

set_option maxHeartbeats 2000000 in
theorem rset_b (C : CM) (o n : Int) (s : ByteArray) (ks : List ET) (A : Option Addr) (c l : Nat) (o2 n2 : Int) (s2 : ByteArray) (ks2 : List ET) (A2 : Option Addr) (c2 l2 : Nat) (z x k : Int) (w : World) (hl : ks.length = l) (hm : ET.cnt (.mk o n s ks) ≤ 1000000) (hd : ET.dep (.mk o n s ks) ≤ 1000000) (hE : EOk w s A c ks) (hl2 : ks2.length = l2) (hm2 : ET.cnt (.mk o2 n2 s2 ks2) ≤ 1000000) (hd2 : ET.dep (.mk o2 n2 s2 ks2) ≤ 1000000) (hE2 : EOk w s2 A2 c2 ks2) (H : Hid (C.setR (.mk o n s ks) (.mk o2 n2 s2 ks2) z = (x, k))) :
    Calls Try.prog 31 #[.agg #[.int .i64 C.c0, .int .i64 C.c1, .int .i64 C.c2, .int .i64 C.c3, .int .i64 C.c4, .int .i64 C.c5, .int .i64 C.c6, .int .i64 C.c7, .int .i64 C.c8, .int .i64 C.c9, .int .i64 C.c10, .int .i64 C.c11, .int .i64 C.c12], .agg #[.int .i64 o, .int .i64 n, .string s, .slice A l c], .agg #[.int .i64 o2, .int .i64 n2, .string s2, .slice A2 l2 c2], .int .i64 z] w fun e w' => e = .returned (.tuple #[.int .i64 x, .int .i64 k]) ∧ Below w.heap.size w w' := by
  have HE := Lib.hid hE
  have HLN := Lib.hid hl
  have HE2 := Lib.hid hE2
  have HLN2 := Lib.hid hl2
  have HC := Lib.hid (And.intro hm (And.intro hd (And.intro hm2 hd2)))
  have X0 := Lib.hid (byb w C o n s A l c o2 n2 s2 A2 l2 c2)
  clear hE hl hm hd hE2 hl2 hm2 hd2
  go_enter Try.func31, Try.ntmps31
  go_wp2_with fail
  refine (rassigned_b C o n s ks A c l o2 n2 s2 ks2 A2 c2 l2 z x k _ HLN.out HC.out.1 HC.out.2.1 (X0.out.bx.eok HE.out) HLN2.out HC.out.2.2.1 HC.out.2.2.2 (HE2.out.below X0.out.bx.below) H).mono ?_
  rintro e w2 ⟨rfl, hb⟩
  have X2 := Lib.hid (X0.out.next hb)
  clear hb X0
  go_wp2_with fail
  go_ret2
  exact ⟨rfl, X2.out.bx.below⟩

set_option maxHeartbeats 2000000 in
theorem rleave_b (C : CM) (o n : Int) (s : ByteArray) (ks : List ET) (A : Option Addr) (c l : Nat) (o2 n2 : Int) (s2 : ByteArray) (ks2 : List ET) (A2 : Option Addr) (c2 l2 : Nat) (z x k : Int) (w : World) (hl : ks.length = l) (hm : ET.cnt (.mk o n s ks) ≤ 1000000) (hd : ET.dep (.mk o n s ks) ≤ 1000000) (hE : EOk w s A c ks) (hl2 : ks2.length = l2) (hm2 : ET.cnt (.mk o2 n2 s2 ks2) ≤ 1000000) (hd2 : ET.dep (.mk o2 n2 s2 ks2) ≤ 1000000) (hE2 : EOk w s2 A2 c2 ks2) (H : Hid (C.setR (.mk o n s ks) (.mk o2 n2 s2 ks2) z = (x, k))) :
    Calls Try.prog 32 #[.agg #[.int .i64 C.c0, .int .i64 C.c1, .int .i64 C.c2, .int .i64 C.c3, .int .i64 C.c4, .int .i64 C.c5, .int .i64 C.c6, .int .i64 C.c7, .int .i64 C.c8, .int .i64 C.c9, .int .i64 C.c10, .int .i64 C.c11, .int .i64 C.c12], .agg #[.int .i64 o, .int .i64 n, .string s, .slice A l c], .agg #[.int .i64 o2, .int .i64 n2, .string s2, .slice A2 l2 c2], .int .i64 z] w fun e w' => e = .returned (.tuple #[.int .i64 x, .int .i64 k]) ∧ Below w.heap.size w w' := by
  have HE := Lib.hid hE
  have HLN := Lib.hid hl
  have HE2 := Lib.hid hE2
  have HLN2 := Lib.hid hl2
  have HC := Lib.hid (And.intro hm (And.intro hd (And.intro hm2 hd2)))
  have X0 := Lib.hid (byb w C o n s A l c o2 n2 s2 A2 l2 c2)
  clear hE hl hm hd hE2 hl2 hm2 hd2
  go_enter Try.func32, Try.ntmps32
  go_wp2_with fail
  refine (rassigned_b C o n s ks A c l o2 n2 s2 ks2 A2 c2 l2 z x k _ HLN.out HC.out.1 HC.out.2.1 (X0.out.bx.eok HE.out) HLN2.out HC.out.2.2.1 HC.out.2.2.2 (HE2.out.below X0.out.bx.below) H).mono ?_
  rintro e w2 ⟨rfl, hb⟩
  have X2 := Lib.hid (X0.out.next hb)
  clear hb X0
  go_wp2_with fail
  go_ret2
  exact ⟨rfl, X2.out.bx.below⟩
end Go.Proofs.Ythlhicegchkjjaa
