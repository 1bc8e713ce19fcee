/-
  Texts of cost models: the walk over CostTexts.
-/
import Derived.Test.YthlhicegchkjjaaGreatDoorCtR
import Derived.Test.YthlhicegchkjjaaGreatDoorCtS
import Derived.Test.YthlhicegchkjjaaGreatDoorCoN
import Derived.Laws.StructEq
namespace Go.Proofs.YthlhicegchkjjaaGreatDoor
open Go.RowKit

theorem runT_len : ∀ (ss : List (List UInt8)) (L : List Int) (sn : List Bool), L.length = 13 → (runT L sn ss).2.length = 13
  | [], _, _, h => h
  | s :: ss, L, sn, h => by
    unfold runT
    split
    · rfl
    · refine runT_len ss _ _ ?_
      rw [stepT_ent]
      split
      · rw [List.length_set]; exact h
      · exact h
theorem parT_len (t : List UInt8) : (parT t).2.length = 13 := by
  unfold parT
  split
  · rfl
  · split
    · rfl
    · exact runT_len _ _ _ rfl
theorem parT_ex (t : List UInt8) : ∃ (C : CM) (c : Int), parT t = (c, C.toL) := by
  obtain ⟨C, hC⟩ := toL_of (parT_len t)
  exact ⟨C, (parT t).1, by rw [hC]⟩
theorem costGuard : Tryz.prog.eqGuardType Tryz.prog.depth 23 = false := by kernel_rfl
theorem costHeld : Tryz.prog.stoodInHeld 23 = false := by kernel_rfl
/-- A model, laid into a new variable. -/
theorem cs_box (W : World) (C : CM) : Cs (W.alloc (.cells #[.int .i64 C.c0, .int .i64 C.c1, .int .i64 C.c2, .int .i64 C.c3, .int .i64 C.c4, .int .i64 C.c5, .int .i64 C.c6, .int .i64 C.c7, .int .i64 C.c8, .int .i64 C.c9, .int .i64 C.c10, .int .i64 C.c11, .int .i64 C.c12] 23)) W.heap.size [.int .i64 C.c0, .int .i64 C.c1, .int .i64 C.c2, .int .i64 C.c3, .int .i64 C.c4, .int .i64 C.c5, .int .i64 C.c6, .int .i64 C.c7, .int .i64 C.c8, .int .i64 C.c9, .int .i64 C.c10, .int .i64 C.c11, .int .i64 C.c12] ∧ Below W.heap.size W (W.alloc (.cells #[.int .i64 C.c0, .int .i64 C.c1, .int .i64 C.c2, .int .i64 C.c3, .int .i64 C.c4, .int .i64 C.c5, .int .i64 C.c6, .int .i64 C.c7, .int .i64 C.c8, .int .i64 C.c9, .int .i64 C.c10, .int .i64 C.c11, .int .i64 C.c12] 23)) :=
  ⟨Cs.new W _ _, (Below.refl _ _).alloc (Nat.le_refl _) _⟩
set_option maxRecDepth 100000 in
set_option maxHeartbeats 8000000 in
theorem texts_walk (B : Nat) (C : CM) (x : ByteArray) (hx : x.size ≤ maxLen) (w : World) (hE : Env B w) (hB : B ≤ w.heap.size) :
    Calls Tryz.prog 3 #[.agg #[.int .i64 C.c0, .int .i64 C.c1, .int .i64 C.c2, .int .i64 C.c3, .int .i64 C.c4, .int .i64 C.c5, .int .i64 C.c6, .int .i64 C.c7, .int .i64 C.c8, .int .i64 C.c9, .int .i64 C.c10, .int .i64 C.c11, .int .i64 C.c12], .string x] w fun e w' => e = .returned (.bool true) ∧ Below w.heap.size w w' := by
  have HE := Lib.hid hE
  have HB0 := Lib.hid hB
  have HPP : Hid (Cs (w.alloc (.cells #[.int .i64 C.c0, .int .i64 C.c1, .int .i64 C.c2, .int .i64 C.c3, .int .i64 C.c4, .int .i64 C.c5, .int .i64 C.c6, .int .i64 C.c7, .int .i64 C.c8, .int .i64 C.c9, .int .i64 C.c10, .int .i64 C.c11, .int .i64 C.c12] 23)) w.heap.size [.int .i64 C.c0, .int .i64 C.c1, .int .i64 C.c2, .int .i64 C.c3, .int .i64 C.c4, .int .i64 C.c5, .int .i64 C.c6, .int .i64 C.c7, .int .i64 C.c8, .int .i64 C.c9, .int .i64 C.c10, .int .i64 C.c11, .int .i64 C.c12] ∧ Below w.heap.size w (w.alloc (.cells #[.int .i64 C.c0, .int .i64 C.c1, .int .i64 C.c2, .int .i64 C.c3, .int .i64 C.c4, .int .i64 C.c5, .int .i64 C.c6, .int .i64 C.c7, .int .i64 C.c8, .int .i64 C.c9, .int .i64 C.c10, .int .i64 C.c11, .int .i64 C.c12] 23))) := Lib.hid ⟨Cs.new _ _ _, (Below.refl _ _).alloc (Nat.le_refl _) _⟩
  have hxm : x.size ≤ 9223372036854775807 := by unfold maxLen at hx; omega
  clear hE hB hx
  go_enter Tryz.func3, Tryz.ntmps3
  go_upto_region 1 with fail
  obtain ⟨w1, hw1⟩ : ∃ z, w.alloc (.cells #[.int .i64 C.c0, .int .i64 C.c1, .int .i64 C.c2, .int .i64 C.c3, .int .i64 C.c4, .int .i64 C.c5, .int .i64 C.c6, .int .i64 C.c7, .int .i64 C.c8, .int .i64 C.c9, .int .i64 C.c10, .int .i64 C.c11, .int .i64 C.c12] 23) = z := ⟨_, rfl⟩
  obtain ⟨p, hp⟩ : ∃ z, w.heap.size = z := ⟨_, rfl⟩
  have HPP : Hid (Cs w1 p [.int .i64 C.c0, .int .i64 C.c1, .int .i64 C.c2, .int .i64 C.c3, .int .i64 C.c4, .int .i64 C.c5, .int .i64 C.c6, .int .i64 C.c7, .int .i64 C.c8, .int .i64 C.c9, .int .i64 C.c10, .int .i64 C.c11, .int .i64 C.c12] ∧ Below w.heap.size w w1) := Lib.hid ⟨by have := HPP.out.1; rw [hw1, hp] at this; exact this, by have := HPP.out.2; rw [hw1] at this; exact this⟩
  rw [hw1, hp]
  clear hw1 hp
  have HEb : Hid (∀ W, Below w.heap.size w W → Env B W ∧ B ≤ W.heap.size) := Lib.hid fun W hb => ⟨HE.out.below (hb.mono HB0.out), Nat.le_trans HB0.out hb.size⟩
  by_cases h5 : 500 < x.size
  · have h5' : (500 : Int) < (x.size : Int) := by omega
    go_wp2_with (first | (go_at_call 5; refine (known_t _ (HEb.out _ HPP.out.2).1.ml).mono ?_; rintro e w2 ⟨rfl, hb⟩; have HB2 : Hid (Below w.heap.size w w2) := Lib.hid (HPP.out.2.trans (hb.mono HPP.out.2.size)); clear hb) | fail)
    go_returns
    exact ⟨rfl, HB2.out⟩
  have h5' : ¬ (500 : Int) < (x.size : Int) := by omega
  have hx8 : x.size ≤ 8000 := by omega
  obtain ⟨r, hr⟩ := mk_bytes (printP C).1
  obtain ⟨kc, hkc⟩ : ∃ kc, (printP C).2 = kc := ⟨_, rfl⟩
  have HPR : Hid (printP C = (r.data.toList, kc)) := Lib.hid (by rw [hr, ← hkc])
  obtain ⟨C2, c, hpa⟩ := parT_ex x.data.toList
  have HPA := Lib.hid hpa
  have hrr : (r.toList == r.toList) = true := by simp
  clear hr hkc hpa
  go_upto_region 5 with (first | (go_at_call 5; refine (known_t _ (HEb.out _ HPP.out.2).1.ml).mono ?_; rintro e w2 ⟨rfl, hb⟩; have HB2 : Hid (Below w.heap.size w w2) := Lib.hid (HPP.out.2.trans (hb.mono HPP.out.2.size)); have HC2 := Lib.hid (HPP.out.1.next hb); clear hb) | fail)
  have k0 := HC2.out.at 0 _ rfl
  have k1 := HC2.out.at 1 _ rfl
  have k2 := HC2.out.at 2 _ rfl
  have k3 := HC2.out.at 3 _ rfl
  have k4 := HC2.out.at 4 _ rfl
  have k5 := HC2.out.at 5 _ rfl
  have k6 := HC2.out.at 6 _ rfl
  have k7 := HC2.out.at 7 _ rfl
  have k8 := HC2.out.at 8 _ rfl
  have k9 := HC2.out.at 9 _ rfl
  have k10 := HC2.out.at 10 _ rfl
  have k11 := HC2.out.at 11 _ rfl
  have k12 := HC2.out.at 12 _ rfl
  go_upto_region 6 with (first | (go_at_call 6; refine (print_b B C r kc HPR _ (HEb.out _ HB2.out).1 (HEb.out _ HB2.out).2).mono ?_; rintro e w3 ⟨rfl, hb⟩; have HB3 : Hid (Below w.heap.size w w3) := Lib.hid (HB2.out.trans (hb.mono HB2.out.size)); have HC3 := Lib.hid (HC2.out.next hb); clear hb) | fail)
  clear k0 k1 k2 k3 k4 k5 k6 k7 k8 k9 k10 k11 k12
  have k0 := HC3.out.at 0 _ rfl
  have k1 := HC3.out.at 1 _ rfl
  have k2 := HC3.out.at 2 _ rfl
  have k3 := HC3.out.at 3 _ rfl
  have k4 := HC3.out.at 4 _ rfl
  have k5 := HC3.out.at 5 _ rfl
  have k6 := HC3.out.at 6 _ rfl
  have k7 := HC3.out.at 7 _ rfl
  have k8 := HC3.out.at 8 _ rfl
  have k9 := HC3.out.at 9 _ rfl
  have k10 := HC3.out.at 10 _ rfl
  have k11 := HC3.out.at 11 _ rfl
  have k12 := HC3.out.at 12 _ rfl
  go_upto_region 7 with (first | (go_at_call 7; refine (rprint_b C r kc HPR _).mono ?_; rintro e w4 ⟨rfl, hb⟩; have HB4 : Hid (Below w.heap.size w w4) := Lib.hid (HB3.out.trans (hb.mono HB3.out.size)); clear hb) | fail)
  clear k0 k1 k2 k3 k4 k5 k6 k7 k8 k9 k10 k11 k12
  go_upto_region 8 with (first | (go_at_call 8; refine (parse_b B x hx8 C2 c HPA _ (HEb.out _ HB4.out).1 (HEb.out _ HB4.out).2).mono ?_; rintro e w5 ⟨rfl, hb⟩; have HB5 : Hid (Below w.heap.size w w5) := Lib.hid (HB4.out.trans (hb.mono HB4.out.size)); have HX5 := Lib.hid (cs_box w5 C2); clear hb) | fail)
  obtain ⟨w6, hw6⟩ : ∃ z, (w5.alloc (.cells #[.int .i64 C2.c0, .int .i64 C2.c1, .int .i64 C2.c2, .int .i64 C2.c3, .int .i64 C2.c4, .int .i64 C2.c5, .int .i64 C2.c6, .int .i64 C2.c7, .int .i64 C2.c8, .int .i64 C2.c9, .int .i64 C2.c10, .int .i64 C2.c11, .int .i64 C2.c12] 23)) = z := ⟨_, rfl⟩
  obtain ⟨q, hq⟩ : ∃ z, w5.heap.size = z := ⟨_, rfl⟩
  have HC6 : Hid (Cs w6 q [.int .i64 C2.c0, .int .i64 C2.c1, .int .i64 C2.c2, .int .i64 C2.c3, .int .i64 C2.c4, .int .i64 C2.c5, .int .i64 C2.c6, .int .i64 C2.c7, .int .i64 C2.c8, .int .i64 C2.c9, .int .i64 C2.c10, .int .i64 C2.c11, .int .i64 C2.c12]) := Lib.hid (by have := HX5.out.1; rw [hw6, hq] at this; exact this)
  have HB6 : Hid (Below w.heap.size w w6) := Lib.hid (HB5.out.trans (by have := HX5.out.2; rw [hw6] at this; exact this.mono HB5.out.size))
  rw [hw6, hq]
  clear hw6 hq HX5
  go_upto_region 9 with (first | (go_at_call 9; refine (rparse_b x hx8 C2 c HPA _).mono ?_; rintro e w7 ⟨rfl, hb⟩; have HB7 : Hid (Below w.heap.size w w7) := Lib.hid (HB6.out.trans (hb.mono HB6.out.size)); have HC7 := Lib.hid (HC6.out.next hb); have HX7 := Lib.hid (cs_box w7 C2); clear hb) | fail)
  obtain ⟨w8, hw8⟩ : ∃ z, (w7.alloc (.cells #[.int .i64 C2.c0, .int .i64 C2.c1, .int .i64 C2.c2, .int .i64 C2.c3, .int .i64 C2.c4, .int .i64 C2.c5, .int .i64 C2.c6, .int .i64 C2.c7, .int .i64 C2.c8, .int .i64 C2.c9, .int .i64 C2.c10, .int .i64 C2.c11, .int .i64 C2.c12] 23)) = z := ⟨_, rfl⟩
  obtain ⟨q2, hq2⟩ : ∃ z, w7.heap.size = z := ⟨_, rfl⟩
  have HC8 : Hid (Cs w8 q2 [.int .i64 C2.c0, .int .i64 C2.c1, .int .i64 C2.c2, .int .i64 C2.c3, .int .i64 C2.c4, .int .i64 C2.c5, .int .i64 C2.c6, .int .i64 C2.c7, .int .i64 C2.c8, .int .i64 C2.c9, .int .i64 C2.c10, .int .i64 C2.c11, .int .i64 C2.c12] ∧ Cs w8 q [.int .i64 C2.c0, .int .i64 C2.c1, .int .i64 C2.c2, .int .i64 C2.c3, .int .i64 C2.c4, .int .i64 C2.c5, .int .i64 C2.c6, .int .i64 C2.c7, .int .i64 C2.c8, .int .i64 C2.c9, .int .i64 C2.c10, .int .i64 C2.c11, .int .i64 C2.c12]) := Lib.hid ⟨by have := HX7.out.1; rw [hw8, hq2] at this; exact this, by have := HC7.out.next HX7.out.2; rw [hw8] at this; exact this⟩
  have HB8 : Hid (Below w.heap.size w w8) := Lib.hid (HB7.out.trans (by have := HX7.out.2; rw [hw8] at this; exact this.mono HB7.out.size))
  rw [hw8, hq2]
  clear hw8 hq2 HX7
  have k0 := HC8.out.1.at 0 _ rfl
  have m0 := HC8.out.2.at 0 _ rfl
  have k1 := HC8.out.1.at 1 _ rfl
  have m1 := HC8.out.2.at 1 _ rfl
  have k2 := HC8.out.1.at 2 _ rfl
  have m2 := HC8.out.2.at 2 _ rfl
  have k3 := HC8.out.1.at 3 _ rfl
  have m3 := HC8.out.2.at 3 _ rfl
  have k4 := HC8.out.1.at 4 _ rfl
  have m4 := HC8.out.2.at 4 _ rfl
  have k5 := HC8.out.1.at 5 _ rfl
  have m5 := HC8.out.2.at 5 _ rfl
  have k6 := HC8.out.1.at 6 _ rfl
  have m6 := HC8.out.2.at 6 _ rfl
  have k7 := HC8.out.1.at 7 _ rfl
  have m7 := HC8.out.2.at 7 _ rfl
  have k8 := HC8.out.1.at 8 _ rfl
  have m8 := HC8.out.2.at 8 _ rfl
  have k9 := HC8.out.1.at 9 _ rfl
  have m9 := HC8.out.2.at 9 _ rfl
  have k10 := HC8.out.1.at 10 _ rfl
  have m10 := HC8.out.2.at 10 _ rfl
  have k11 := HC8.out.1.at 11 _ rfl
  have m11 := HC8.out.2.at 11 _ rfl
  have k12 := HC8.out.1.at 12 _ rfl
  have m12 := HC8.out.2.at 12 _ rfl
  have hg1 := costGuard
  have hg2 := costHeld
  go_wp2_with fail
  go_returns
  exact ⟨rfl, HB8.out⟩
end Go.Proofs.YthlhicegchkjjaaGreatDoor
