/-
  The walks over Set and Leave of the program and of the reference.
-/
import Derived.Test.YthlhicegchkjjaaCoJ
namespace Go.Proofs.Ythlhicegchkjjaa
open Go.RowKit

namespace CM
/-- What Set returns. -/
def setR (C : CM) (p v : ET) (z : Int) : Int × Int := if asg C z p [v] = 0 then (C.c0 * z + (C.sum p - C.c6) + C.sum v, 0) else (0, asg C z p [v])
/-- The code of numbers of scalars. -/
def cnts (zs : List Int) : Int := if ∀ j, j < zs.length → 0 ≤ zs.getD j 0 ∧ zs.getD j 0 ≤ 32 then 0 else 3
theorem asg_set (C : CM) (p v : ET) (z : Int) : asg C z p [v] = if args C [p] [v] = 0 then cnts [z] else args C [p] [v] := by
  unfold asg wf args
  by_cases h : C.chk = 0
  · simp only [if_pos h]
    have h1 : codes (p :: [v]) = if codes [p] = 0 then codes [v] else codes [p] := codes_app [p] [v]
    rw [h1]
    by_cases hp : codes [p] = 0
    · simp only [if_pos hp]
      by_cases hv : codes [v] = 0
      · simp only [if_pos hv]
        by_cases ho : opPlace p.op = true
        · simp only [List.all_cons, List.all_nil, ho, Bool.and_self, if_true]
          unfold cnts
          by_cases hz : z < 0 ∨ 32 < z
          · rw [if_pos hz, if_neg]
            intro hk
            have := hk 0 (by simp)
            simp at this
            omega
          · rw [if_neg hz, if_pos]
            intro j hj
            obtain rfl : j = 0 := by simpa using hj
            simp
            omega
        · have ho' : opPlace p.op = false := by simpa using ho
          simp [ho']
      · simp only [if_neg hv]
    · simp only [if_neg hp]
  · simp [if_neg h]
theorem asg_num0 {C : CM} {z : Int} {p : ET} {es : List ET} (h : asg C z p es = 0) : 0 ≤ z ∧ z ≤ 32 := by
  unfold asg at h
  by_cases hw : wf C (p :: es) = 0
  · rw [if_pos hw] at h
    by_cases ho : opPlace p.op = true
    · rw [if_pos ho] at h
      by_cases hz : z < 0 ∨ 32 < z
      · rw [if_pos hz] at h; exact absurd h (by decide)
      · omega
    · rw [if_neg ho] at h; exact absurd h (by decide)
  · rw [if_neg hw] at h; exact absurd h hw
end CM
/-- A model's block, a place's, a value's, behind which the world only grows. -/
structure By (w W : World) (C : CM) (o n : Int) (s : ByteArray) (A : Option Addr) (l c : Nat) (o2 n2 : Int) (s2 : ByteArray) (A2 : Option Addr) (l2 c2 : Nat) : Prop where
  bx : Bx w W C o n s A l c
  size : w.heap.size + 1 + 1 < W.heap.size
  f0 : W.cell? ⟨w.heap.size + 1 + 1, 0, none⟩ = some (.int .i64 o2)
  f1 : W.cell? ⟨w.heap.size + 1 + 1, 1, none⟩ = some (.int .i64 n2)
  f2 : W.cell? ⟨w.heap.size + 1 + 1, 2, none⟩ = some (.string s2)
  f3 : W.cell? ⟨w.heap.size + 1 + 1, 3, none⟩ = some (.slice A2 l2 c2)
theorem By.next {w W W' : World} {C : CM} {o n o2 n2 : Int} {s s2 : ByteArray} {A A2 : Option Addr} {l c l2 c2 : Nat} (h : By w W C o n s A l c o2 n2 s2 A2 l2 c2) (hb : Below W.heap.size W W') : By w W' C o n s A l c o2 n2 s2 A2 l2 c2 := by
  obtain ⟨h0, h1, h2, h3, h4, h5⟩ := h
  have hc : ∀ i, W'.cell? ⟨w.heap.size + 1 + 1, i, none⟩ = W.cell? ⟨w.heap.size + 1 + 1, i, none⟩ := fun i => hb.cell (p := ⟨w.heap.size + 1 + 1, i, none⟩) h1
  have hz := hb.size
  exact ⟨h0.next hb, by omega, by rw [hc]; exact h2, by rw [hc]; exact h3, by rw [hc]; exact h4, by rw [hc]; exact h5⟩
theorem By.drew {w W : World} {C : CM} {o n o2 n2 : Int} {s s2 : ByteArray} {A A2 : Option Addr} {l c l2 c2 : Nat} (h : By w W C o n s A l c o2 n2 s2 A2 l2 c2) : By w W.drew C o n s A l c o2 n2 s2 A2 l2 c2 := h.next (Below.refl _ _).drew
def boxY (w : World) (C : CM) (o n : Int) (s : ByteArray) (A : Option Addr) (l c : Nat) (o2 n2 : Int) (s2 : ByteArray) (A2 : Option Addr) (l2 c2 : Nat) : World := (boxed (boxC w C) o n s A l c).alloc (.cells #[.int .i64 o2, .int .i64 n2, .string s2, .slice A2 l2 c2] 27)
theorem byb (w : World) (C : CM) (o n : Int) (s : ByteArray) (A : Option Addr) (l c : Nat) (o2 n2 : Int) (s2 : ByteArray) (A2 : Option Addr) (l2 c2 : Nat) : By w (boxY w C o n s A l c o2 n2 s2 A2 l2 c2) C o n s A l c o2 n2 s2 A2 l2 c2 := by
  refine ⟨(bx w C o n s A l c).next ((Below.refl _ _).alloc (Nat.le_refl _) _), ?_, ?_, ?_, ?_, ?_⟩
  all_goals unfold boxY boxed boxC; go_simp

set_option maxRecDepth 100000 in
set_option maxHeartbeats 4000000 in
theorem set_b (C : CM) (o n : Int) (s : ByteArray) (ks : List ET) (A : Option Addr) (c l : Nat) (o2 n2 : Int) (s2 : ByteArray) (ks2 : List ET) (A2 : Option Addr) (c2 l2 : Nat) (z x k : Int) (w : World) (hM : ML w) (hl : ks.length = l) (hm : ET.cnt (.mk o n s ks) ≤ 1000000) (hd : ET.dep (.mk o n s ks) ≤ 1000000) (hE : EOk w s A c ks) (hl2 : ks2.length = l2) (hm2 : ET.cnt (.mk o2 n2 s2 ks2) ≤ 1000000) (hd2 : ET.dep (.mk o2 n2 s2 ks2) ≤ 1000000) (hE2 : EOk w s2 A2 c2 ks2) (H : Hid (C.setR (.mk o n s ks) (.mk o2 n2 s2 ks2) z = (x, k))) :
    Calls Try.prog 17 #[.agg #[.int .i64 C.c0, .int .i64 C.c1, .int .i64 C.c2, .int .i64 C.c3, .int .i64 C.c4, .int .i64 C.c5, .int .i64 C.c6, .int .i64 C.c7, .int .i64 C.c8, .int .i64 C.c9, .int .i64 C.c10, .int .i64 C.c11, .int .i64 C.c12], .agg #[.int .i64 o, .int .i64 n, .string s, .slice A l c], .agg #[.int .i64 o2, .int .i64 n2, .string s2, .slice A2 l2 c2], .int .i64 z] w fun e w' => e = .returned (.tuple #[.int .i64 x, .int .i64 k]) ∧ Below w.heap.size w w' := by
  obtain ⟨q, hq⟩ : ∃ q, CM.asg C z (.mk o n s ks) [.mk o2 n2 s2 ks2] = q := ⟨_, rfl⟩
  have hxk := H.out
  unfold CM.setR at hxk
  rw [hq] at hxk
  have HE := Lib.hid hE
  have HLN := Lib.hid hl
  have HM := Lib.hid hm
  have HD := Lib.hid hd
  have HE2 := Lib.hid hE2
  have HLN2 := Lib.hid hl2
  have HM2 := Lib.hid hm2
  have HD2 := Lib.hid hd2
  have X0 := Lib.hid (byb w C o n s A l c o2 n2 s2 A2 l2 c2)
  have HML := Lib.hid hM
  clear hM
  clear hE hl hm hd hE2 hl2 hm2 hd2 H
  by_cases hq0 : q = 0
  · subst hq0
    rw [if_pos rfl] at hxk
    obtain ⟨hx, rfl⟩ := pair_eq hxk
    have HOK := Lib.hid (asg_wf hq)
    obtain ⟨hz0, hz1⟩ := CM.asg_num0 hq
    have HQ := Lib.hid hq
    clear hq hxk
    go_enter Try.func17, Try.ntmps17
    go_wp2_with fail
    have XB : Hid (By w ((boxY w C o n s A l c o2 n2 s2 A2 l2 c2).alloc (.cells #[.int .i64 o2, .int .i64 n2, .string s2, .slice A2 l2 c2] 27)) C o n s A l c o2 n2 s2 A2 l2 c2) := X0.out.next ((Below.refl _ _).alloc (Nat.le_refl _) _)
    have HK : Hid (Kx ((boxY w C o n s A l c o2 n2 s2 A2 l2 c2).alloc (.cells #[.int .i64 o2, .int .i64 n2, .string s2, .slice A2 l2 c2] 27)) (w.heap.size + 1 + 1 + 1) 0 o2 n2 s2 A2 l2 c2) := by
      refine ⟨?_, ?_, ?_, ?_, ?_⟩
      all_goals unfold boxY boxed boxC; go_simp
    refine (assigned1_b C z o n s ks A c l o2 n2 s2 ks2 A2 c2 l2 (w.heap.size + 1 + 1 + 1) 0 _ (HML.out.below HML.out.pos XB.out.bx.below) HLN.out HM.out HD.out (XB.out.bx.eok HE.out) HLN2.out HM2.out HD2.out (HE2.out.below XB.out.bx.below) HK.out HQ).mono ?_
    rintro e w2 ⟨rfl, hb⟩
    have X2 := Lib.hid (XB.out.next hb)
    clear hb X0 XB HK
    have hcc := X2.out.bx.cc
    have e0 := X2.out.bx.e0
    have e1 := X2.out.bx.e1
    have e2 := X2.out.bx.e2
    have e3 := X2.out.bx.e3
    have f0 := X2.out.f0
    have f1 := X2.out.f1
    have f2 := X2.out.f2
    have f3 := X2.out.f3
    unfold CIn at hcc
    obtain ⟨k0, k1, k2, k3, k4, k5, k6, k7, k8, k9, k10, k11, k12⟩ := hcc
    go_wp2_with fail
    obtain ⟨y, hy⟩ : ∃ y, C.sum (.mk o n s ks) - C.c6 = y := ⟨_, rfl⟩
    obtain ⟨u, hu⟩ : ∃ y, C.sum (.mk o2 n2 s2 ks2) = y := ⟨_, rfl⟩
    have hr1 := CM.sum_range HOK.out (.mk o n s ks)
    have hr2 := CM.sum_range HOK.out (.mk o2 n2 s2 ks2)
    have h6 := HOK.out 6 (by omega)
    have h0 := HOK.out 0 (by omega)
    simp only [CM.get] at h6 h0
    have hp1 : 0 ≤ C.c0 * z := Int.mul_nonneg h0.1 hz0
    have hp2 : C.c0 * z ≤ 100 * 32 := Int.mul_le_mul h0.2 hz1 hz0 (by omega)
    have hm' := HM.out
    have hm2' := HM2.out
    rw [hy, hu] at hx
    rw [hu] at hr2
    have HY := Lib.hid hy
    have HU := Lib.hid hu
    have HW1 : Hid (IntKind.i64.wrap (C.c0 * z) = C.c0 * z) := IntWalk.i64_in _ (by omega)
    have HW2 : Hid (IntKind.i64.wrap (C.c0 * z + y) = C.c0 * z + y) := IntWalk.i64_in _ (by omega)
    have HW3 : Hid (IntKind.i64.wrap (C.c0 * z + y + u) = x) := by show _ = _; rw [← hx]; exact IntWalk.i64_in _ (by omega)
    clear hy hu hr1 hr2 hm' hm2' hx hp1 hp2 h6 h0 hz0 hz1
    go_region_held3 (fun W => W.cell? ⟨w.heap.size + 1, 0, none⟩ = some (.int .i64 o) ∧ W.cell? ⟨w.heap.size + 1, 1, none⟩ = some (.int .i64 n) ∧ W.cell? ⟨w.heap.size + 1, 2, none⟩ = some (.string s) ∧ W.cell? ⟨w.heap.size + 1, 3, none⟩ = some (.slice A l c) ∧ W.cell? ⟨w.heap.size + 1 + 1, 0, none⟩ = some (.int .i64 o2) ∧ W.cell? ⟨w.heap.size + 1 + 1, 1, none⟩ = some (.int .i64 n2) ∧ W.cell? ⟨w.heap.size + 1 + 1, 2, none⟩ = some (.string s2) ∧ W.cell? ⟨w.heap.size + 1 + 1, 3, none⟩ = some (.slice A2 l2 c2) ∧ W.cell? ⟨w.heap.size, 0, none⟩ = some (.int .i64 C.c0) ∧ W.cell? ⟨w.heap.size, 1, none⟩ = some (.int .i64 C.c1) ∧ W.cell? ⟨w.heap.size, 2, none⟩ = some (.int .i64 C.c2) ∧ W.cell? ⟨w.heap.size, 3, none⟩ = some (.int .i64 C.c3) ∧ W.cell? ⟨w.heap.size, 4, none⟩ = some (.int .i64 C.c4) ∧ W.cell? ⟨w.heap.size, 5, none⟩ = some (.int .i64 C.c5) ∧ W.cell? ⟨w.heap.size, 6, none⟩ = some (.int .i64 C.c6) ∧ W.cell? ⟨w.heap.size, 7, none⟩ = some (.int .i64 C.c7) ∧ W.cell? ⟨w.heap.size, 8, none⟩ = some (.int .i64 C.c8) ∧ W.cell? ⟨w.heap.size, 9, none⟩ = some (.int .i64 C.c9) ∧ W.cell? ⟨w.heap.size, 10, none⟩ = some (.int .i64 C.c10) ∧ W.cell? ⟨w.heap.size, 11, none⟩ = some (.int .i64 C.c11) ∧ W.cell? ⟨w.heap.size, 12, none⟩ = some (.int .i64 C.c12)) (first | exact ⟨X2.out.drew.bx.e0, X2.out.drew.bx.e1, X2.out.drew.bx.e2, X2.out.drew.bx.e3, X2.out.drew.f0, X2.out.drew.f1, X2.out.drew.f2, X2.out.drew.f3, X2.out.drew.bx.cc⟩ | exact ⟨X3.out.bx.e0, X3.out.bx.e1, X3.out.bx.e2, X3.out.bx.e3, X3.out.f0, X3.out.f1, X3.out.f2, X3.out.f3, X3.out.bx.cc⟩ | exact ⟨X4.out.bx.e0, X4.out.bx.e1, X4.out.bx.e2, X4.out.bx.e3, X4.out.f0, X4.out.f1, X4.out.f2, X4.out.f3, X4.out.bx.cc⟩) (first
      | (go_at_call 44; refine (located_b C HOK.out o n s ks A c l y _ HLN.out HM.out (X2.out.drew.bx.eok HE.out) HY).mono ?_; rintro e w3 ⟨rfl, hb⟩; have X3 := Lib.hid (X2.out.drew.next hb); clear hb)
      | (go_at_call 40; refine (sum_b C HOK.out o2 n2 s2 ks2 A2 c2 l2 u _ HLN2.out HM2.out (HE2.out.below X3.out.bx.below) HU).mono ?_; rintro e w4 ⟨rfl, hb⟩; have X4 := Lib.hid (X3.out.next hb); clear hb))
    go_wp2_with fail
    go_ret2
    exact ⟨by first | rfl | (rw [HW1.out, HW2.out, HW3.out]; rfl) | (rw [HW1.out, HW2.out, HW3.out]), X4.out.bx.below⟩
  · rw [if_neg hq0] at hxk
    obtain ⟨rfl, rfl⟩ := pair_eq hxk
    have k0 : (q == 0) = false := by rw [beq_eq_false_iff_ne]; exact hq0
    have k1 : (q != 0) = true := by simp [bne, k0]
    have HQ := Lib.hid hq
    clear hq hxk hq0
    go_enter Try.func17, Try.ntmps17
    go_wp2_with fail
    have XB : Hid (By w ((boxY w C o n s A l c o2 n2 s2 A2 l2 c2).alloc (.cells #[.int .i64 o2, .int .i64 n2, .string s2, .slice A2 l2 c2] 27)) C o n s A l c o2 n2 s2 A2 l2 c2) := X0.out.next ((Below.refl _ _).alloc (Nat.le_refl _) _)
    have HK : Hid (Kx ((boxY w C o n s A l c o2 n2 s2 A2 l2 c2).alloc (.cells #[.int .i64 o2, .int .i64 n2, .string s2, .slice A2 l2 c2] 27)) (w.heap.size + 1 + 1 + 1) 0 o2 n2 s2 A2 l2 c2) := by
      refine ⟨?_, ?_, ?_, ?_, ?_⟩
      all_goals unfold boxY boxed boxC; go_simp
    refine (assigned1_b C z o n s ks A c l o2 n2 s2 ks2 A2 c2 l2 (w.heap.size + 1 + 1 + 1) q _ (HML.out.below HML.out.pos XB.out.bx.below) HLN.out HM.out HD.out (XB.out.bx.eok HE.out) HLN2.out HM2.out HD2.out (HE2.out.below XB.out.bx.below) HK.out HQ).mono ?_
    rintro e w2 ⟨rfl, hb⟩
    have X2 := Lib.hid (XB.out.next hb)
    clear hb X0 XB HK
    go_wp2_with fail
    go_ret2
    exact ⟨rfl, X2.out.bx.below⟩

set_option maxHeartbeats 2000000 in
theorem leave_b (C : CM) (o n : Int) (s : ByteArray) (ks : List ET) (A : Option Addr) (c l : Nat) (o2 n2 : Int) (s2 : ByteArray) (ks2 : List ET) (A2 : Option Addr) (c2 l2 : Nat) (z x k : Int) (w : World) (hM : ML w) (hl : ks.length = l) (hm : ET.cnt (.mk o n s ks) ≤ 1000000) (hd : ET.dep (.mk o n s ks) ≤ 1000000) (hE : EOk w s A c ks) (hl2 : ks2.length = l2) (hm2 : ET.cnt (.mk o2 n2 s2 ks2) ≤ 1000000) (hd2 : ET.dep (.mk o2 n2 s2 ks2) ≤ 1000000) (hE2 : EOk w s2 A2 c2 ks2) (H : Hid (C.setR (.mk o n s ks) (.mk o2 n2 s2 ks2) z = (x, k))) :
    Calls Try.prog 27 #[.agg #[.int .i64 C.c0, .int .i64 C.c1, .int .i64 C.c2, .int .i64 C.c3, .int .i64 C.c4, .int .i64 C.c5, .int .i64 C.c6, .int .i64 C.c7, .int .i64 C.c8, .int .i64 C.c9, .int .i64 C.c10, .int .i64 C.c11, .int .i64 C.c12], .agg #[.int .i64 o, .int .i64 n, .string s, .slice A l c], .agg #[.int .i64 o2, .int .i64 n2, .string s2, .slice A2 l2 c2], .int .i64 z] w fun e w' => e = .returned (.tuple #[.int .i64 x, .int .i64 k]) ∧ Below w.heap.size w w' := by
  have HE := Lib.hid hE
  have HLN := Lib.hid hl
  have HE2 := Lib.hid hE2
  have HLN2 := Lib.hid hl2
  have HC := Lib.hid (And.intro hm (And.intro hd (And.intro hm2 hd2)))
  have X0 := Lib.hid (byb w C o n s A l c o2 n2 s2 A2 l2 c2)
  have HML := Lib.hid hM
  clear hM
  clear hE hl hm hd hE2 hl2 hm2 hd2
  go_enter Try.func27, Try.ntmps27
  go_wp2_with fail
  refine (set_b C o n s ks A c l o2 n2 s2 ks2 A2 c2 l2 z x k _ (HML.out.below HML.out.pos X0.out.bx.below) HLN.out HC.out.1 HC.out.2.1 (X0.out.bx.eok HE.out) HLN2.out HC.out.2.2.1 HC.out.2.2.2 (HE2.out.below X0.out.bx.below) H).mono ?_
  rintro e w2 ⟨rfl, hb⟩
  have X2 := Lib.hid (X0.out.next hb)
  clear hb X0
  go_wp2_with fail
  go_ret2
  exact ⟨rfl, X2.out.bx.below⟩
end Go.Proofs.Ythlhicegchkjjaa
