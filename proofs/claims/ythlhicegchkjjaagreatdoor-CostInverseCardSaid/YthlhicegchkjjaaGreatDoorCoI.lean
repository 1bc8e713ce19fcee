/-
  The walks over Expr and Place of the program and of the reference.
-/
import Derived.Test.YthlhicegchkjjaaGreatDoorCoH
namespace Go.Proofs.YthlhicegchkjjaaGreatDoor
open Go.RowKit
namespace CM
/-- What Expr returns. -/
def exprR (C : CM) (e : ET) : Int × Int := if wf C [e] = 0 then (C.sum e, 0) else (0, wf C [e])
/-- What Place returns. -/
def placeR (C : CM) (e : ET) : Int × Int := if asg C 0 e [] = 0 then (C.sum e - C.c6, 0) else (0, asg C 0 e [])
end CM
theorem pair_eq {a b x k : Int} (h : (a, b) = (x, k)) : a = x ∧ b = k := by cases h; exact ⟨rfl, rfl⟩
theorem lok_box (w : World) (C : CM) (o n : Int) (s : ByteArray) (ks : List ET) (A : Option Addr) (c l : Nat) (hl : ks.length = l) (hE : EOk w s A c ks) :
    LOk ((boxed (boxC w C) o n s A l c).alloc (.cells #[.int .i64 o, .int .i64 n, .string s, .slice A l c] 44)) (some ⟨w.heap.size + 1 + 1, 0, none⟩) 1 [.mk o n s ks] := by
  refine LOk.one hE ?_ (by simp [boxed, boxC]) ?_ ?_ ?_ ?_
  · unfold boxed boxC
    (repeat' (first | exact Below.refl _ _ | refine Below.drew ?_ | refine below_drewN ?_ _ | refine Below.alloc ?_ (by simp; try omega) _ | refine Below.setCell ?_ (by simp; try omega) _))
  · unfold boxed boxC; go_simp
  · unfold boxed boxC; go_simp
  · unfold boxed boxC; go_simp
  · unfold boxed boxC; rw [hl]; go_simp
theorem bx_lok (w : World) (C : CM) (o n : Int) (s : ByteArray) (A : Option Addr) (c l : Nat) : Bx w ((boxed (boxC w C) o n s A l c).alloc (.cells #[.int .i64 o, .int .i64 n, .string s, .slice A l c] 44)) C o n s A l c :=
  (bx w C o n s A l c).next ((Below.refl _ _).alloc (Nat.le_refl _) _)
theorem asg_wf {C : CM} {n : Int} {p : ET} {es : List ET} (h : CM.asg C n p es = 0) : C.ok := by
  by_cases hw : CM.wf C (p :: es) = 0
  · exact wf_ok hw
  · unfold CM.asg at h; rw [if_neg hw] at h; exact absurd h hw
set_option maxHeartbeats 2000000 in
theorem expr_b (C : CM) (o n : Int) (s : ByteArray) (ks : List ET) (A : Option Addr) (c l : Nat) (x k : Int) (w : World) (hM : ML w) (hl : ks.length = l) (hm : ET.cnt (.mk o n s ks) ≤ 1000000) (hd : ET.dep (.mk o n s ks) ≤ 1000000) (hE : EOk w s A c ks) (H : Hid (C.exprR (.mk o n s ks) = (x, k))) :
    Calls Tryz.prog 17 #[.agg #[.int .i64 C.c0, .int .i64 C.c1, .int .i64 C.c2, .int .i64 C.c3, .int .i64 C.c4, .int .i64 C.c5, .int .i64 C.c6, .int .i64 C.c7, .int .i64 C.c8, .int .i64 C.c9, .int .i64 C.c10, .int .i64 C.c11, .int .i64 C.c12], .agg #[.int .i64 o, .int .i64 n, .string s, .slice A l c]] w fun e w' => e = .returned (.tuple #[.int .i64 x, .int .i64 k]) ∧ Below w.heap.size w w' := by
  obtain ⟨q, hq⟩ : ∃ q, CM.wf C [.mk o n s ks] = q := ⟨_, rfl⟩
  have hxk := H.out
  unfold CM.exprR at hxk
  rw [hq] at hxk
  have HE := Lib.hid hE
  have HLN := Lib.hid hl
  have HS := Lib.hid (small_one hm hd)
  have HM := Lib.hid hm
  have XB := Lib.hid (bx_lok w C o n s A c l)
  have HLO := Lib.hid (lok_box w C o n s ks A c l hl hE)
  have HML := Lib.hid hM
  clear hM
  clear hE hl hm hd H
  by_cases hq0 : q = 0
  · subst hq0
    rw [if_pos rfl] at hxk
    obtain ⟨hx, rfl⟩ := pair_eq hxk
    have HX := Lib.hid hx
    have HOK := Lib.hid (wf_ok hq)
    have HQ := Lib.hid (hq)
    clear hq hxk hx
    go_enter Tryz.func17, Tryz.ntmps17
    go_wp2_with fail
    refine (wellf_b C [.mk o n s ks] (some ⟨w.heap.size + 1 + 1, 0, none⟩) 1 1 0 rfl HQ HS.out _ (HML.out.below HML.out.pos XB.out.below) HLO.out).mono ?_
    rintro e w2 ⟨rfl, hb⟩
    have X2 := Lib.hid (XB.out.next hb)
    clear hb
    have hcc := X2.out.cc
    have e0 := X2.out.e0
    have e1 := X2.out.e1
    have e2 := X2.out.e2
    have e3 := X2.out.e3
    unfold CIn at hcc
    obtain ⟨k0, k1, k2, k3, k4, k5, k6, k7, k8, k9, k10, k11, k12⟩ := hcc
    go_wp2_with fail
    refine (sum_b C HOK.out o n s ks A c l x _ HLN.out HM.out (X2.out.eok HE.out) HX).mono ?_
    rintro e w3 ⟨rfl, hb⟩
    have HB := Lib.hid (X2.out.below.trans (hb.mono X2.out.below.size))
    clear hb k0 k1 k2 k3 k4 k5 k6 k7 k8 k9 k10 k11 k12 e0 e1 e2 e3
    go_wp2_with fail
    go_ret2
    exact ⟨rfl, HB.out⟩
  · rw [if_neg hq0] at hxk
    obtain ⟨rfl, rfl⟩ := pair_eq hxk
    have k0 : (q == 0) = false := by rw [beq_eq_false_iff_ne]; exact hq0
    have k1 : (q != 0) = true := by simp [bne, k0]
    have HQ := Lib.hid (hq)
    clear hq hxk hq0
    go_enter Tryz.func17, Tryz.ntmps17
    go_wp2_with fail
    refine (wellf_b C [.mk o n s ks] (some ⟨w.heap.size + 1 + 1, 0, none⟩) 1 1 q rfl HQ HS.out _ (HML.out.below HML.out.pos XB.out.below) HLO.out).mono ?_
    rintro e w2 ⟨rfl, hb⟩
    have X2 := Lib.hid (XB.out.next hb)
    clear hb
    go_wp2_with fail
    go_ret2
    exact ⟨rfl, X2.out.below⟩
set_option maxHeartbeats 2000000 in
theorem place_c (C : CM) (o n : Int) (s : ByteArray) (ks : List ET) (A : Option Addr) (c l : Nat) (x k : Int) (w : World) (hM : ML w) (hl : ks.length = l) (hm : ET.cnt (.mk o n s ks) ≤ 1000000) (hd : ET.dep (.mk o n s ks) ≤ 1000000) (hE : EOk w s A c ks) (H : Hid (C.placeR (.mk o n s ks) = (x, k))) :
    Calls Tryz.prog 18 #[.agg #[.int .i64 C.c0, .int .i64 C.c1, .int .i64 C.c2, .int .i64 C.c3, .int .i64 C.c4, .int .i64 C.c5, .int .i64 C.c6, .int .i64 C.c7, .int .i64 C.c8, .int .i64 C.c9, .int .i64 C.c10, .int .i64 C.c11, .int .i64 C.c12], .agg #[.int .i64 o, .int .i64 n, .string s, .slice A l c]] w fun e w' => e = .returned (.tuple #[.int .i64 x, .int .i64 k]) ∧ Below w.heap.size w w' := by
  obtain ⟨q, hq⟩ : ∃ q, CM.asg C 0 (.mk o n s ks) [] = q := ⟨_, rfl⟩
  have hxk := H.out
  unfold CM.placeR at hxk
  rw [hq] at hxk
  have HE := Lib.hid hE
  have HLN := Lib.hid hl
  have HM := Lib.hid hm
  have XB := Lib.hid (bx w C o n s A l c)
  have HML := Lib.hid hM
  have HD := Lib.hid hd
  clear hM
  clear hE hl hm hd H
  by_cases hq0 : q = 0
  · subst hq0
    rw [if_pos rfl] at hxk
    obtain ⟨hx, rfl⟩ := pair_eq hxk
    have HX := Lib.hid hx
    have HOK := Lib.hid (asg_wf hq)
    have HQ := Lib.hid (hq)
    clear hq hxk hx
    go_enter Tryz.func18, Tryz.ntmps18
    go_wp2_with fail
    refine (assigned0_b C 0 o n s ks A c l 0 _ (HML.out.below HML.out.pos XB.out.below) HLN.out HM.out HD.out (XB.out.eok HE.out) HQ).mono ?_
    rintro e w2 ⟨rfl, hb⟩
    have X2 := Lib.hid (XB.out.next hb)
    clear hb
    have hcc := X2.out.cc
    have e0 := X2.out.e0
    have e1 := X2.out.e1
    have e2 := X2.out.e2
    have e3 := X2.out.e3
    unfold CIn at hcc
    obtain ⟨k0, k1, k2, k3, k4, k5, k6, k7, k8, k9, k10, k11, k12⟩ := hcc
    go_wp2_with fail
    refine (located_b C HOK.out o n s ks A c l x _ HLN.out HM.out (X2.out.eok HE.out) HX).mono ?_
    rintro e w3 ⟨rfl, hb⟩
    have HB := Lib.hid (X2.out.below.trans (hb.mono X2.out.below.size))
    clear hb k0 k1 k2 k3 k4 k5 k6 k7 k8 k9 k10 k11 k12 e0 e1 e2 e3
    go_wp2_with fail
    go_ret2
    exact ⟨rfl, HB.out⟩
  · rw [if_neg hq0] at hxk
    obtain ⟨rfl, rfl⟩ := pair_eq hxk
    have k0 : (q == 0) = false := by rw [beq_eq_false_iff_ne]; exact hq0
    have k1 : (q != 0) = true := by simp [bne, k0]
    have HQ := Lib.hid (hq)
    clear hq hxk hq0
    go_enter Tryz.func18, Tryz.ntmps18
    go_wp2_with fail
    refine (assigned0_b C 0 o n s ks A c l q _ (HML.out.below HML.out.pos XB.out.below) HLN.out HM.out HD.out (XB.out.eok HE.out) HQ).mono ?_
    rintro e w2 ⟨rfl, hb⟩
    have X2 := Lib.hid (XB.out.next hb)
    clear hb
    go_wp2_with fail
    go_ret2
    exact ⟨rfl, X2.out.below⟩
end Go.Proofs.YthlhicegchkjjaaGreatDoor
