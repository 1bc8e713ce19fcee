/-
  The walks over the program's checks of a place, and over what an assigned place costs.
-/
import Derived.Test.YthlhicegchkjjaaGreatDoorCoF
import Derived.Deep.AppendLies
import Derived.Deep.RegionLaw
import Derived.Deep.RegionHeldLaw
namespace Go.Proofs.YthlhicegchkjjaaGreatDoor
open Go.RowKit
theorem wf_ok {C : CM} {es : List ET} (h : CM.wf C es = 0) : C.ok := by
  rcases CM.chk_cases C with ⟨_, h1⟩ | h1
  · exact h1
  · unfold CM.wf at h; rw [if_neg (by omega)] at h; omega
theorem asg_bad {C : CM} {n q : Int} {p : ET} {es : List ET} (h : CM.wf C (p :: es) = q) (h0 : ¬ q = 0) : CM.asg C n p es = q := by
  unfold CM.asg; rw [h, if_neg h0]
theorem asg_place {C : CM} {n : Int} {p : ET} {es : List ET} (h : CM.wf C (p :: es) = 0) (h0 : CM.opPlace p.op = false) : CM.asg C n p es = 1 := by
  unfold CM.asg; rw [if_pos h, h0]; rfl
theorem asg_num {C : CM} {n : Int} {p : ET} {es : List ET} (h : CM.wf C (p :: es) = 0) (h0 : CM.opPlace p.op = true) (h1 : n < 0 ∨ 32 < n) : CM.asg C n p es = 3 := by
  unfold CM.asg; rw [if_pos h, h0, if_pos rfl, if_pos h1]
theorem asg_ok {C : CM} {n : Int} {p : ET} {es : List ET} (h : CM.wf C (p :: es) = 0) (h0 : CM.opPlace p.op = true) (h1 : 0 ≤ n) (h2 : n ≤ 32) : CM.asg C n p es = 0 := by
  unfold CM.asg; rw [if_pos h, h0, if_pos rfl, if_neg (by omega)]
theorem small_one {e : ET} (h1 : ET.cnt e ≤ 1000000) (h2 : ET.dep e ≤ 1000000) : Small [e] := by
  intro k hk
  match k, hk with
  | 0, _ => exact ⟨h1, h2⟩
set_option maxHeartbeats 1000000 in
theorem located_b (C : CM) (hC : C.ok) (o n : Int) (s : ByteArray) (ks : List ET) (A : Option Addr) (c l : Nat) (r : Int) (w : World) (hl : ks.length = l) (hm : ET.cnt (.mk o n s ks) ≤ 1000000) (hE : EOk w s A c ks) (H : Hid (C.sum (.mk o n s ks) - C.c6 = r)) :
    Calls Tryz.prog 37 #[.agg #[.int .i64 C.c0, .int .i64 C.c1, .int .i64 C.c2, .int .i64 C.c3, .int .i64 C.c4, .int .i64 C.c5, .int .i64 C.c6, .int .i64 C.c7, .int .i64 C.c8, .int .i64 C.c9, .int .i64 C.c10, .int .i64 C.c11, .int .i64 C.c12], .agg #[.int .i64 o, .int .i64 n, .string s, .slice A l c]] w fun e w' => e = .returned (.int .i64 r) ∧ Below w.heap.size w w' := by
  obtain ⟨x, hx⟩ : ∃ x, C.sum (.mk o n s ks) = x := ⟨_, rfl⟩
  have hr := CM.sum_range hC (.mk o n s ks)
  rw [hx] at hr
  have h6 := hC 6 (by omega)
  simp only [CM.get] at h6
  have HX := Lib.hid hx
  have hrr : x - C.c6 = r := by rw [← hx]; exact H.out
  have hw : IntKind.i64.wrap (x - C.c6) = r := by rw [← hrr]; exact IntWalk.i64_in _ (by omega)
  have HE := Lib.hid hE
  have HLN := Lib.hid hl
  have HM := Lib.hid hm
  have HOK := Lib.hid hC
  clear hE hl hm hC hx H hrr
  have HW := Lib.hid hw
  clear hw
  go_enter Tryz.func37, Tryz.ntmps37
  go_wp2_with fail
  have X := bx w C o n s A l c
  unfold boxed boxC at X
  generalize (w.alloc _).alloc _ = W at X ⊢
  have hcc := X.cc
  have e0 := X.e0
  have e1 := X.e1
  have e2 := X.e2
  have e3 := X.e3
  unfold CIn at hcc
  obtain ⟨k0, k1, k2, k3, k4, k5, k6, k7, k8, k9, k10, k11, k12⟩ := hcc
  go_region_held3 (fun W => W.cell? ⟨w.heap.size + 1, 0, none⟩ = some (.int .i64 o) ∧ W.cell? ⟨w.heap.size + 1, 1, none⟩ = some (.int .i64 n) ∧ W.cell? ⟨w.heap.size + 1, 2, none⟩ = some (.string s) ∧ W.cell? ⟨w.heap.size + 1, 3, none⟩ = some (.slice A l c) ∧ W.cell? ⟨w.heap.size, 0, none⟩ = some (.int .i64 C.c0) ∧ W.cell? ⟨w.heap.size, 1, none⟩ = some (.int .i64 C.c1) ∧ W.cell? ⟨w.heap.size, 2, none⟩ = some (.int .i64 C.c2) ∧ W.cell? ⟨w.heap.size, 3, none⟩ = some (.int .i64 C.c3) ∧ W.cell? ⟨w.heap.size, 4, none⟩ = some (.int .i64 C.c4) ∧ W.cell? ⟨w.heap.size, 5, none⟩ = some (.int .i64 C.c5) ∧ W.cell? ⟨w.heap.size, 6, none⟩ = some (.int .i64 C.c6) ∧ W.cell? ⟨w.heap.size, 7, none⟩ = some (.int .i64 C.c7) ∧ W.cell? ⟨w.heap.size, 8, none⟩ = some (.int .i64 C.c8) ∧ W.cell? ⟨w.heap.size, 9, none⟩ = some (.int .i64 C.c9) ∧ W.cell? ⟨w.heap.size, 10, none⟩ = some (.int .i64 C.c10) ∧ W.cell? ⟨w.heap.size, 11, none⟩ = some (.int .i64 C.c11) ∧ W.cell? ⟨w.heap.size, 12, none⟩ = some (.int .i64 C.c12)) (first | exact ⟨X.drew.e0, X.drew.e1, X.drew.e2, X.drew.e3, X.drew.cc⟩ | exact ⟨X2.e0, X2.e1, X2.e2, X2.e3, X2.cc⟩) (first
    | (go_at_call 35; refine (sum_b C HOK.out o n s ks A c l x _ HLN.out HM.out (X.drew.eok HE.out) HX).mono ?_; rintro e w2 ⟨rfl, hb⟩; have X2 := X.drew.next hb; clear hb))
  go_wp2_with fail
  go_ret
  exact ⟨by first | rfl | (rw [HW.out]; rfl), X2.below⟩
set_option maxRecDepth 100000 in
set_option maxHeartbeats 4000000 in
theorem assigned0_b (C : CM) (x : Int) (o n : Int) (s : ByteArray) (ks : List ET) (A : Option Addr) (c l : Nat) (r : Int) (w : World) (hM : ML w) (hl : ks.length = l) (hm : ET.cnt (.mk o n s ks) ≤ 1000000) (hd : ET.dep (.mk o n s ks) ≤ 1000000) (hE : EOk w s A c ks) (H : Hid (CM.asg C x (.mk o n s ks) [] = r)) :
    Calls Tryz.prog 36 #[.agg #[.int .i64 C.c0, .int .i64 C.c1, .int .i64 C.c2, .int .i64 C.c3, .int .i64 C.c4, .int .i64 C.c5, .int .i64 C.c6, .int .i64 C.c7, .int .i64 C.c8, .int .i64 C.c9, .int .i64 C.c10, .int .i64 C.c11, .int .i64 C.c12], .int .i64 x, .agg #[.int .i64 o, .int .i64 n, .string s, .slice A l c], .slice none 0 0] w fun e w' => e = .returned (.int .i64 r) ∧ Below w.heap.size w w' := by
  obtain ⟨q, hq⟩ : ∃ q, CM.wf C [.mk o n s ks] = q := ⟨_, rfl⟩
  have HQ := Lib.hid hq
  have HE := Lib.hid hE
  have HLN := Lib.hid hl
  have HML := Lib.hid hM
  have HS := Lib.hid (small_one hm hd)
  clear hE hl hm hd hM hq
  go_enter Tryz.func36, Tryz.ntmps36
  go_wp2_with fail
  have X := bx w C o n s A l c
  unfold boxed boxC at X
  generalize (w.alloc _).alloc _ = W at X ⊢
  have hcc := X.cc
  have e0 := X.e0
  have e1 := X.e1
  have e2 := X.e2
  have e3 := X.e3
  have hsz := X.size
  unfold CIn at hcc
  obtain ⟨k0, k1, k2, k3, k4, k5, k6, k7, k8, k9, k10, k11, k12⟩ := hcc
  go_upto_region 1 with fail
  go_cut [9] (fun u wc => u = .int .i64 q ∧ Hid (Bx w wc C o n s A l c))
  case first =>
    have hbW : Below w.heap.size w ((W.alloc (.cells #[.int .i64 o, .int .i64 n, .string s, .slice A l c] 44)).drew) := (X.below.alloc X.below.size _).drew
    have HLO : Hid (LOk ((W.alloc (.cells #[.int .i64 o, .int .i64 n, .string s, .slice A l c] 44)).drew) (some ⟨W.heap.size, 0, none⟩) 1 [.mk o n s ks]) := by
      refine LOk.one HE.out hbW (by simp) ?_ ?_ ?_ ?_
      · go_simp
      · go_simp
      · go_simp
      · rw [HLN.out]; go_simp
    have HBW := Lib.hid hbW
    clear hbW
    go_region_held_law (fun W => W.cell? ⟨w.heap.size + 1, 0, none⟩ = some (.int .i64 o) ∧ W.cell? ⟨w.heap.size + 1, 1, none⟩ = some (.int .i64 n) ∧ W.cell? ⟨w.heap.size + 1, 2, none⟩ = some (.string s) ∧ W.cell? ⟨w.heap.size + 1, 3, none⟩ = some (.slice A l c) ∧ W.cell? ⟨w.heap.size, 0, none⟩ = some (.int .i64 C.c0) ∧ W.cell? ⟨w.heap.size, 1, none⟩ = some (.int .i64 C.c1) ∧ W.cell? ⟨w.heap.size, 2, none⟩ = some (.int .i64 C.c2) ∧ W.cell? ⟨w.heap.size, 3, none⟩ = some (.int .i64 C.c3) ∧ W.cell? ⟨w.heap.size, 4, none⟩ = some (.int .i64 C.c4) ∧ W.cell? ⟨w.heap.size, 5, none⟩ = some (.int .i64 C.c5) ∧ W.cell? ⟨w.heap.size, 6, none⟩ = some (.int .i64 C.c6) ∧ W.cell? ⟨w.heap.size, 7, none⟩ = some (.int .i64 C.c7) ∧ W.cell? ⟨w.heap.size, 8, none⟩ = some (.int .i64 C.c8) ∧ W.cell? ⟨w.heap.size, 9, none⟩ = some (.int .i64 C.c9) ∧ W.cell? ⟨w.heap.size, 10, none⟩ = some (.int .i64 C.c10) ∧ W.cell? ⟨w.heap.size, 11, none⟩ = some (.int .i64 C.c11) ∧ W.cell? ⟨w.heap.size, 12, none⟩ = some (.int .i64 C.c12))
      (first
        | go_keep
        | exact ⟨X1.out.e0, X1.out.e1, X1.out.e2, X1.out.e3, X1.out.cc⟩
        | exact ⟨X2.out.e0, X2.out.e1, X2.out.e2, X2.out.e3, X2.out.cc⟩)
      ((go_simp; go_at_call 34; refine (wellf_b C [.mk o n s ks] (some ⟨W.heap.size, 0, none⟩) 1 1 q rfl HQ HS.out _ (HML.out.below HML.out.pos HBW.out) HLO.out).mono ?_; rintro e w2 ⟨rfl, hb⟩; have X2 := Lib.hid ((X.next (((Below.refl _ _).alloc (Nat.le_refl _) _).drew)).next hb); clear hb))
    all_goals
      go_wp2_with fail
      go_meet
      case rel => exact ⟨rfl, X2⟩
  case rest =>
    obtain ⟨rfl, X2⟩ := hcut
    clear X e0 e1 e2 e3 hsz k0 k1 k2 k3 k4 k5 k6 k7 k8 k9 k10 k11 k12
    have hcc := X2.out.cc
    have e0 := X2.out.e0
    have e1 := X2.out.e1
    have e2 := X2.out.e2
    have e3 := X2.out.e3
    unfold CIn at hcc
    obtain ⟨k0, k1, k2, k3, k4, k5, k6, k7, k8, k9, k10, k11, k12⟩ := hcc
    by_cases hq0 : q = 0
    · subst hq0
      by_cases hp : CM.opPlace o = true
      · have hc3 : o = 3 ∨ o = 4 ∨ o = 5 := by simpa [CM.opPlace] using hp
        have HP : Hid (CM.opPlace (ET.mk o n s ks).op = true) := hp
        by_cases hx0 : x < 0
        · have hr : r = 3 := by rw [← H.out]; exact asg_num HQ.out HP.out (.inl hx0)
          subst hr
          clear H HQ HP hp
          rcases hc3 with rfl | rfl | rfl
          all_goals
            go_wp2_with fail
            go_ret
            exact ⟨rfl, X2.out.below⟩
        by_cases hx1 : 32 < x
        · have hr : r = 3 := by rw [← H.out]; exact asg_num HQ.out HP.out (.inr hx1)
          subst hr
          clear H HQ HP hp
          rcases hc3 with rfl | rfl | rfl
          all_goals
            go_wp2_with fail
            go_ret
            exact ⟨rfl, X2.out.below⟩
        have hx0' : 0 ≤ x := by omega
        have hx1' : x ≤ 32 := by omega
        have hr : r = 0 := by rw [← H.out]; exact asg_ok HQ.out HP.out hx0' hx1'
        subst hr
        clear H HQ HP hp hx0 hx1
        rcases hc3 with rfl | rfl | rfl
        all_goals
          go_wp2_with fail
          go_ret
          exact ⟨rfl, X2.out.below⟩
      · have hp0 : CM.opPlace o = false := by simpa using hp
        have hc3 : ¬ (o = 3 ∨ o = 4 ∨ o = 5) := by simpa [CM.opPlace] using hp
        have hr : r = 1 := by rw [← H.out]; exact asg_place HQ.out hp0
        subst hr
        have k3 : (o == 3) = false := by rw [beq_eq_false_iff_ne]; omega
        have k4 : (o == 4) = false := by rw [beq_eq_false_iff_ne]; omega
        have k5 : (o == 5) = false := by rw [beq_eq_false_iff_ne]; omega
        have j3 : (o != 3) = true := by simp [bne, k3]
        have j4 : (o != 4) = true := by simp [bne, k4]
        have j5 : (o != 5) = true := by simp [bne, k5]
        clear H HQ hp hp0 hc3
        go_wp2_with fail
        go_ret
        exact ⟨rfl, X2.out.below⟩
    · have hr : r = q := by rw [← H.out]; exact asg_bad HQ.out hq0
      subst hr
      have k0 : (r == 0) = false := by rw [beq_eq_false_iff_ne]; exact hq0
      have k1 : (r != 0) = true := by simp [bne, k0]
      clear H HQ hq0
      go_wp2_with fail
      go_ret
      exact ⟨rfl, X2.out.below⟩
end Go.Proofs.YthlhicegchkjjaaGreatDoor
