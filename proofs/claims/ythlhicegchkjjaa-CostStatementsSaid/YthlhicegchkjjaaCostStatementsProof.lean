/-
  CostStatements: Set, Leave, Release, Output, If and While of the program return what those of the reference return. No condition.
-/
import Derived.Test.YthlhicegchkjjaaCoM
namespace Go.Proofs.Ythlhicegchkjjaa
open Go.RowKit Go.ChangeShapes Go.WideShapes Go.ChangeAt

set_option maxRecDepth 100000 in
set_option maxHeartbeats 20000000 in
theorem statements_walk (C : CM) (o n : Int) (s : ByteArray) (ks : List ET) (A : Option Addr) (c l : Nat) (o2 n2 : Int) (s2 : ByteArray) (ks2 : List ET) (A2 : Option Addr) (c2 l2 : Nat) (z : Int) (w : World) (hm : ML w) (hl : ks.length = l) (hE : EOk w s A c ks) (hl2 : ks2.length = l2) (hE2 : EOk w s2 A2 c2 ks2) :
    Calls Try.prog 8 #[.agg #[.int .i64 C.c0, .int .i64 C.c1, .int .i64 C.c2, .int .i64 C.c3, .int .i64 C.c4, .int .i64 C.c5, .int .i64 C.c6, .int .i64 C.c7, .int .i64 C.c8, .int .i64 C.c9, .int .i64 C.c10, .int .i64 C.c11, .int .i64 C.c12], .agg #[.int .i64 o, .int .i64 n, .string s, .slice A l c, .int .i64 o2, .int .i64 n2, .string s2, .slice A2 l2 c2, .int .i64 z]] w fun e w' => e = .returned (.bool true) ∧ Below w.heap.size w w' := by
  obtain ⟨f1, hf1⟩ : ∃ b, decide (0 ≤ ET.left (.mk o n s ks) 300) = b := ⟨_, rfl⟩
  obtain ⟨f2, hf2⟩ : ∃ b, decide (0 ≤ ET.left (.mk o2 n2 s2 ks2) 300) = b := ⟨_, rfl⟩
  have HF1 := Lib.hid hf1
  have HF2 := Lib.hid hf2
  have HE := Lib.hid (And.intro hE hE2)
  have HL := Lib.hid (And.intro hl hl2)
  have HML := Lib.hid hm
  have X0 := Lib.hid (bq w C #[.int .i64 o, .int .i64 n, .string s, .slice A l c, .int .i64 o2, .int .i64 n2, .string s2, .slice A2 l2 c2, .int .i64 z] 23 37)
  clear hE hl hm hf1 hE2 hl2 hf2
  cases f1
  · go_enter Try.func8, Try.ntmps8
    go_wp2_with fail
    refine (known_t _ (HML.out.below HML.out.pos X0.out.below)).mono ?_
    rintro e w1 ⟨rfl, hb⟩
    have X1 := Lib.hid (X0.out.next hb)
    clear hb X0
    have k0 := X1.out.cb.cell 0 _ rfl
    have k1 := X1.out.cb.cell 1 _ rfl
    have k2 := X1.out.cb.cell 2 _ rfl
    have k3 := X1.out.cb.cell 3 _ rfl
    have k4 := X1.out.cb.cell 4 _ rfl
    have k5 := X1.out.cb.cell 5 _ rfl
    have k6 := X1.out.cb.cell 6 _ rfl
    have k7 := X1.out.cb.cell 7 _ rfl
    have k8 := X1.out.cb.cell 8 _ rfl
    have k9 := X1.out.cb.cell 9 _ rfl
    have k10 := X1.out.cb.cell 10 _ rfl
    have k11 := X1.out.cb.cell 11 _ rfl
    have k12 := X1.out.cb.cell 12 _ rfl
    have p0 := X1.out.pb.cell 0 _ rfl
    have p1 := X1.out.pb.cell 1 _ rfl
    have p2 := X1.out.pb.cell 2 _ rfl
    have p3 := X1.out.pb.cell 3 _ rfl
    have p4 := X1.out.pb.cell 4 _ rfl
    have p5 := X1.out.pb.cell 5 _ rfl
    have p6 := X1.out.pb.cell 6 _ rfl
    have p7 := X1.out.pb.cell 7 _ rfl
    have p8 := X1.out.pb.cell 8 _ rfl
    go_wp2_with fail
    refine (few_b o n s ks A c l _ HL.out.1 HF1 _ (HE.out.1.below X1.out.below)).mono ?_
    rintro e w2 ⟨rfl, hb⟩
    have X2 := Lib.hid (X1.out.next hb)
    clear hb X1
    go_wp2_with fail
    go_ret
    exact ⟨rfl, X2.out.below⟩
  · cases f2
    all_goals
      go_enter Try.func8, Try.ntmps8
      go_wp2_with fail
      refine (known_t _ (HML.out.below HML.out.pos X0.out.below)).mono ?_
      rintro e w1 ⟨rfl, hb⟩
      have X1 := Lib.hid (X0.out.next hb)
      clear hb X0
      have k0 := X1.out.cb.cell 0 _ rfl
      have k1 := X1.out.cb.cell 1 _ rfl
      have k2 := X1.out.cb.cell 2 _ rfl
      have k3 := X1.out.cb.cell 3 _ rfl
      have k4 := X1.out.cb.cell 4 _ rfl
      have k5 := X1.out.cb.cell 5 _ rfl
      have k6 := X1.out.cb.cell 6 _ rfl
      have k7 := X1.out.cb.cell 7 _ rfl
      have k8 := X1.out.cb.cell 8 _ rfl
      have k9 := X1.out.cb.cell 9 _ rfl
      have k10 := X1.out.cb.cell 10 _ rfl
      have k11 := X1.out.cb.cell 11 _ rfl
      have k12 := X1.out.cb.cell 12 _ rfl
      have p0 := X1.out.pb.cell 0 _ rfl
      have p1 := X1.out.pb.cell 1 _ rfl
      have p2 := X1.out.pb.cell 2 _ rfl
      have p3 := X1.out.pb.cell 3 _ rfl
      have p4 := X1.out.pb.cell 4 _ rfl
      have p5 := X1.out.pb.cell 5 _ rfl
      have p6 := X1.out.pb.cell 6 _ rfl
      have p7 := X1.out.pb.cell 7 _ rfl
      have p8 := X1.out.pb.cell 8 _ rfl
      go_wp2_with fail
      refine (few_b o n s ks A c l _ HL.out.1 HF1 _ (HE.out.1.below X1.out.below)).mono ?_
      rintro e w2 ⟨rfl, hb⟩
      have X2 := Lib.hid (X1.out.next hb)
      clear hb X1 k0 k1 k2 k3 k4 k5 k6 k7 k8 k9 k10 k11 k12 p0 p1 p2 p3 p4 p5 p6 p7 p8
      have k0 := X2.out.cb.cell 0 _ rfl
      have k1 := X2.out.cb.cell 1 _ rfl
      have k2 := X2.out.cb.cell 2 _ rfl
      have k3 := X2.out.cb.cell 3 _ rfl
      have k4 := X2.out.cb.cell 4 _ rfl
      have k5 := X2.out.cb.cell 5 _ rfl
      have k6 := X2.out.cb.cell 6 _ rfl
      have k7 := X2.out.cb.cell 7 _ rfl
      have k8 := X2.out.cb.cell 8 _ rfl
      have k9 := X2.out.cb.cell 9 _ rfl
      have k10 := X2.out.cb.cell 10 _ rfl
      have k11 := X2.out.cb.cell 11 _ rfl
      have k12 := X2.out.cb.cell 12 _ rfl
      have p0 := X2.out.pb.cell 0 _ rfl
      have p1 := X2.out.pb.cell 1 _ rfl
      have p2 := X2.out.pb.cell 2 _ rfl
      have p3 := X2.out.pb.cell 3 _ rfl
      have p4 := X2.out.pb.cell 4 _ rfl
      have p5 := X2.out.pb.cell 5 _ rfl
      have p6 := X2.out.pb.cell 6 _ rfl
      have p7 := X2.out.pb.cell 7 _ rfl
      have p8 := X2.out.pb.cell 8 _ rfl
      go_wp2_with fail
      refine (few_b o2 n2 s2 ks2 A2 c2 l2 _ HL.out.2 HF2 _ (HE.out.2.below X2.out.below)).mono ?_
      rintro e w3 ⟨rfl, hb⟩
      have X3 := Lib.hid (X2.out.next hb)
      clear hb X2 k0 k1 k2 k3 k4 k5 k6 k7 k8 k9 k10 k11 k12 p0 p1 p2 p3 p4 p5 p6 p7 p8
    · go_wp2_with fail
      go_ret
      exact ⟨rfl, X3.out.below⟩
    · have hf := ET.few (of_decide_eq_true HF1.out)
      have hg := ET.few (of_decide_eq_true HF2.out)
      have HC : Hid (ET.cnt (.mk o n s ks) ≤ 1000000 ∧ ET.dep (.mk o n s ks) ≤ 1000000 ∧ ET.cnt (.mk o2 n2 s2 ks2) ≤ 1000000 ∧ ET.dep (.mk o2 n2 s2 ks2) ≤ 1000000) := ⟨by omega, by omega, by omega, by omega⟩
      obtain ⟨⟨a, b⟩, h1⟩ : ∃ r, C.setR (.mk o n s ks) (.mk o2 n2 s2 ks2) z = r := ⟨_, rfl⟩
      obtain ⟨⟨a3, b3⟩, h3⟩ : ∃ r, C.relR (.mk o n s ks) = r := ⟨_, rfl⟩
      obtain ⟨⟨a4, b4⟩, h4⟩ : ∃ r, C.plusR C.c4 (.mk o2 n2 s2 ks2) = r := ⟨_, rfl⟩
      obtain ⟨⟨a5, b5⟩, h5⟩ : ∃ r, C.plusR C.c1 (.mk o2 n2 s2 ks2) = r := ⟨_, rfl⟩
      obtain ⟨⟨a6, b6⟩, h6⟩ : ∃ r, C.plusR C.c2 (.mk o2 n2 s2 ks2) = r := ⟨_, rfl⟩
      have H1 := Lib.hid h1
      have H3 := Lib.hid h3
      have H4 := Lib.hid h4
      have H5 := Lib.hid h5
      have H6 := Lib.hid h6
      clear hf hg h1 h3 h4 h5 h6 HF1 HF2
      have k0 := X3.out.cb.cell 0 _ rfl
      have k1 := X3.out.cb.cell 1 _ rfl
      have k2 := X3.out.cb.cell 2 _ rfl
      have k3 := X3.out.cb.cell 3 _ rfl
      have k4 := X3.out.cb.cell 4 _ rfl
      have k5 := X3.out.cb.cell 5 _ rfl
      have k6 := X3.out.cb.cell 6 _ rfl
      have k7 := X3.out.cb.cell 7 _ rfl
      have k8 := X3.out.cb.cell 8 _ rfl
      have k9 := X3.out.cb.cell 9 _ rfl
      have k10 := X3.out.cb.cell 10 _ rfl
      have k11 := X3.out.cb.cell 11 _ rfl
      have k12 := X3.out.cb.cell 12 _ rfl
      have p0 := X3.out.pb.cell 0 _ rfl
      have p1 := X3.out.pb.cell 1 _ rfl
      have p2 := X3.out.pb.cell 2 _ rfl
      have p3 := X3.out.pb.cell 3 _ rfl
      have p4 := X3.out.pb.cell 4 _ rfl
      have p5 := X3.out.pb.cell 5 _ rfl
      have p6 := X3.out.pb.cell 6 _ rfl
      have p7 := X3.out.pb.cell 7 _ rfl
      have p8 := X3.out.pb.cell 8 _ rfl
      go_wp2_with fail
      refine (set_b C o n s ks A c l o2 n2 s2 ks2 A2 c2 l2 z a b _ (HML.out.below HML.out.pos X3.out.below) HL.out.1 HC.out.1 HC.out.2.1 (HE.out.1.below X3.out.below) HL.out.2 HC.out.2.2.1 HC.out.2.2.2 (HE.out.2.below X3.out.below) H1).mono ?_
      rintro e w4 ⟨rfl, hb⟩
      have X4 := Lib.hid (X3.out.next hb)
      clear hb X3 k0 k1 k2 k3 k4 k5 k6 k7 k8 k9 k10 k11 k12 p0 p1 p2 p3 p4 p5 p6 p7 p8
      have k0 := X4.out.cb.cell 0 _ rfl
      have k1 := X4.out.cb.cell 1 _ rfl
      have k2 := X4.out.cb.cell 2 _ rfl
      have k3 := X4.out.cb.cell 3 _ rfl
      have k4 := X4.out.cb.cell 4 _ rfl
      have k5 := X4.out.cb.cell 5 _ rfl
      have k6 := X4.out.cb.cell 6 _ rfl
      have k7 := X4.out.cb.cell 7 _ rfl
      have k8 := X4.out.cb.cell 8 _ rfl
      have k9 := X4.out.cb.cell 9 _ rfl
      have k10 := X4.out.cb.cell 10 _ rfl
      have k11 := X4.out.cb.cell 11 _ rfl
      have k12 := X4.out.cb.cell 12 _ rfl
      have p0 := X4.out.pb.cell 0 _ rfl
      have p1 := X4.out.pb.cell 1 _ rfl
      have p2 := X4.out.pb.cell 2 _ rfl
      have p3 := X4.out.pb.cell 3 _ rfl
      have p4 := X4.out.pb.cell 4 _ rfl
      have p5 := X4.out.pb.cell 5 _ rfl
      have p6 := X4.out.pb.cell 6 _ rfl
      have p7 := X4.out.pb.cell 7 _ rfl
      have p8 := X4.out.pb.cell 8 _ rfl
      go_wp2_with fail
      refine (leave_b C o n s ks A c l o2 n2 s2 ks2 A2 c2 l2 z a b _ (HML.out.below HML.out.pos X4.out.below) HL.out.1 HC.out.1 HC.out.2.1 (HE.out.1.below X4.out.below) HL.out.2 HC.out.2.2.1 HC.out.2.2.2 (HE.out.2.below X4.out.below) H1).mono ?_
      rintro e w5 ⟨rfl, hb⟩
      have X5 := Lib.hid (X4.out.next hb)
      clear hb X4 k0 k1 k2 k3 k4 k5 k6 k7 k8 k9 k10 k11 k12 p0 p1 p2 p3 p4 p5 p6 p7 p8
      have k0 := X5.out.cb.cell 0 _ rfl
      have k1 := X5.out.cb.cell 1 _ rfl
      have k2 := X5.out.cb.cell 2 _ rfl
      have k3 := X5.out.cb.cell 3 _ rfl
      have k4 := X5.out.cb.cell 4 _ rfl
      have k5 := X5.out.cb.cell 5 _ rfl
      have k6 := X5.out.cb.cell 6 _ rfl
      have k7 := X5.out.cb.cell 7 _ rfl
      have k8 := X5.out.cb.cell 8 _ rfl
      have k9 := X5.out.cb.cell 9 _ rfl
      have k10 := X5.out.cb.cell 10 _ rfl
      have k11 := X5.out.cb.cell 11 _ rfl
      have k12 := X5.out.cb.cell 12 _ rfl
      have p0 := X5.out.pb.cell 0 _ rfl
      have p1 := X5.out.pb.cell 1 _ rfl
      have p2 := X5.out.pb.cell 2 _ rfl
      have p3 := X5.out.pb.cell 3 _ rfl
      have p4 := X5.out.pb.cell 4 _ rfl
      have p5 := X5.out.pb.cell 5 _ rfl
      have p6 := X5.out.pb.cell 6 _ rfl
      have p7 := X5.out.pb.cell 7 _ rfl
      have p8 := X5.out.pb.cell 8 _ rfl
      go_wp2_with fail
      refine (release_b C o n s ks A c l a3 b3 _ (HML.out.below HML.out.pos X5.out.below) HL.out.1 HC.out.1 HC.out.2.1 (HE.out.1.below X5.out.below) H3).mono ?_
      rintro e w6 ⟨rfl, hb⟩
      have X6 := Lib.hid (X5.out.next hb)
      clear hb X5 k0 k1 k2 k3 k4 k5 k6 k7 k8 k9 k10 k11 k12 p0 p1 p2 p3 p4 p5 p6 p7 p8
      have k0 := X6.out.cb.cell 0 _ rfl
      have k1 := X6.out.cb.cell 1 _ rfl
      have k2 := X6.out.cb.cell 2 _ rfl
      have k3 := X6.out.cb.cell 3 _ rfl
      have k4 := X6.out.cb.cell 4 _ rfl
      have k5 := X6.out.cb.cell 5 _ rfl
      have k6 := X6.out.cb.cell 6 _ rfl
      have k7 := X6.out.cb.cell 7 _ rfl
      have k8 := X6.out.cb.cell 8 _ rfl
      have k9 := X6.out.cb.cell 9 _ rfl
      have k10 := X6.out.cb.cell 10 _ rfl
      have k11 := X6.out.cb.cell 11 _ rfl
      have k12 := X6.out.cb.cell 12 _ rfl
      have p0 := X6.out.pb.cell 0 _ rfl
      have p1 := X6.out.pb.cell 1 _ rfl
      have p2 := X6.out.pb.cell 2 _ rfl
      have p3 := X6.out.pb.cell 3 _ rfl
      have p4 := X6.out.pb.cell 4 _ rfl
      have p5 := X6.out.pb.cell 5 _ rfl
      have p6 := X6.out.pb.cell 6 _ rfl
      have p7 := X6.out.pb.cell 7 _ rfl
      have p8 := X6.out.pb.cell 8 _ rfl
      go_wp2_with fail
      refine (output_b C o2 n2 s2 ks2 A2 c2 l2 a4 b4 _ (HML.out.below HML.out.pos X6.out.below) HL.out.2 HC.out.2.2.1 HC.out.2.2.2 (HE.out.2.below X6.out.below) H4).mono ?_
      rintro e w7 ⟨rfl, hb⟩
      have X7 := Lib.hid (X6.out.next hb)
      clear hb X6 k0 k1 k2 k3 k4 k5 k6 k7 k8 k9 k10 k11 k12 p0 p1 p2 p3 p4 p5 p6 p7 p8
      have k0 := X7.out.cb.cell 0 _ rfl
      have k1 := X7.out.cb.cell 1 _ rfl
      have k2 := X7.out.cb.cell 2 _ rfl
      have k3 := X7.out.cb.cell 3 _ rfl
      have k4 := X7.out.cb.cell 4 _ rfl
      have k5 := X7.out.cb.cell 5 _ rfl
      have k6 := X7.out.cb.cell 6 _ rfl
      have k7 := X7.out.cb.cell 7 _ rfl
      have k8 := X7.out.cb.cell 8 _ rfl
      have k9 := X7.out.cb.cell 9 _ rfl
      have k10 := X7.out.cb.cell 10 _ rfl
      have k11 := X7.out.cb.cell 11 _ rfl
      have k12 := X7.out.cb.cell 12 _ rfl
      have p0 := X7.out.pb.cell 0 _ rfl
      have p1 := X7.out.pb.cell 1 _ rfl
      have p2 := X7.out.pb.cell 2 _ rfl
      have p3 := X7.out.pb.cell 3 _ rfl
      have p4 := X7.out.pb.cell 4 _ rfl
      have p5 := X7.out.pb.cell 5 _ rfl
      have p6 := X7.out.pb.cell 6 _ rfl
      have p7 := X7.out.pb.cell 7 _ rfl
      have p8 := X7.out.pb.cell 8 _ rfl
      go_wp2_with fail
      refine (ifc_b C o2 n2 s2 ks2 A2 c2 l2 a5 b5 _ (HML.out.below HML.out.pos X7.out.below) HL.out.2 HC.out.2.2.1 HC.out.2.2.2 (HE.out.2.below X7.out.below) H5).mono ?_
      rintro e w8 ⟨rfl, hb⟩
      have X8 := Lib.hid (X7.out.next hb)
      clear hb X7 k0 k1 k2 k3 k4 k5 k6 k7 k8 k9 k10 k11 k12 p0 p1 p2 p3 p4 p5 p6 p7 p8
      have k0 := X8.out.cb.cell 0 _ rfl
      have k1 := X8.out.cb.cell 1 _ rfl
      have k2 := X8.out.cb.cell 2 _ rfl
      have k3 := X8.out.cb.cell 3 _ rfl
      have k4 := X8.out.cb.cell 4 _ rfl
      have k5 := X8.out.cb.cell 5 _ rfl
      have k6 := X8.out.cb.cell 6 _ rfl
      have k7 := X8.out.cb.cell 7 _ rfl
      have k8 := X8.out.cb.cell 8 _ rfl
      have k9 := X8.out.cb.cell 9 _ rfl
      have k10 := X8.out.cb.cell 10 _ rfl
      have k11 := X8.out.cb.cell 11 _ rfl
      have k12 := X8.out.cb.cell 12 _ rfl
      have p0 := X8.out.pb.cell 0 _ rfl
      have p1 := X8.out.pb.cell 1 _ rfl
      have p2 := X8.out.pb.cell 2 _ rfl
      have p3 := X8.out.pb.cell 3 _ rfl
      have p4 := X8.out.pb.cell 4 _ rfl
      have p5 := X8.out.pb.cell 5 _ rfl
      have p6 := X8.out.pb.cell 6 _ rfl
      have p7 := X8.out.pb.cell 7 _ rfl
      have p8 := X8.out.pb.cell 8 _ rfl
      go_wp2_with fail
      refine (while_b C o2 n2 s2 ks2 A2 c2 l2 a6 b6 _ (HML.out.below HML.out.pos X8.out.below) HL.out.2 HC.out.2.2.1 HC.out.2.2.2 (HE.out.2.below X8.out.below) H6).mono ?_
      rintro e w9 ⟨rfl, hb⟩
      have X9 := Lib.hid (X8.out.next hb)
      clear hb X8 k0 k1 k2 k3 k4 k5 k6 k7 k8 k9 k10 k11 k12 p0 p1 p2 p3 p4 p5 p6 p7 p8
      have k0 := X9.out.cb.cell 0 _ rfl
      have k1 := X9.out.cb.cell 1 _ rfl
      have k2 := X9.out.cb.cell 2 _ rfl
      have k3 := X9.out.cb.cell 3 _ rfl
      have k4 := X9.out.cb.cell 4 _ rfl
      have k5 := X9.out.cb.cell 5 _ rfl
      have k6 := X9.out.cb.cell 6 _ rfl
      have k7 := X9.out.cb.cell 7 _ rfl
      have k8 := X9.out.cb.cell 8 _ rfl
      have k9 := X9.out.cb.cell 9 _ rfl
      have k10 := X9.out.cb.cell 10 _ rfl
      have k11 := X9.out.cb.cell 11 _ rfl
      have k12 := X9.out.cb.cell 12 _ rfl
      have p0 := X9.out.pb.cell 0 _ rfl
      have p1 := X9.out.pb.cell 1 _ rfl
      have p2 := X9.out.pb.cell 2 _ rfl
      have p3 := X9.out.pb.cell 3 _ rfl
      have p4 := X9.out.pb.cell 4 _ rfl
      have p5 := X9.out.pb.cell 5 _ rfl
      have p6 := X9.out.pb.cell 6 _ rfl
      have p7 := X9.out.pb.cell 7 _ rfl
      have p8 := X9.out.pb.cell 8 _ rfl
      go_wp2_with fail
      refine (rset_b C o n s ks A c l o2 n2 s2 ks2 A2 c2 l2 z a b _ HL.out.1 HC.out.1 HC.out.2.1 (HE.out.1.below X9.out.below) HL.out.2 HC.out.2.2.1 HC.out.2.2.2 (HE.out.2.below X9.out.below) H1).mono ?_
      rintro e w10 ⟨rfl, hb⟩
      have X10 := Lib.hid (X9.out.next hb)
      clear hb X9 k0 k1 k2 k3 k4 k5 k6 k7 k8 k9 k10 k11 k12 p0 p1 p2 p3 p4 p5 p6 p7 p8
      have k0 := X10.out.cb.cell 0 _ rfl
      have k1 := X10.out.cb.cell 1 _ rfl
      have k2 := X10.out.cb.cell 2 _ rfl
      have k3 := X10.out.cb.cell 3 _ rfl
      have k4 := X10.out.cb.cell 4 _ rfl
      have k5 := X10.out.cb.cell 5 _ rfl
      have k6 := X10.out.cb.cell 6 _ rfl
      have k7 := X10.out.cb.cell 7 _ rfl
      have k8 := X10.out.cb.cell 8 _ rfl
      have k9 := X10.out.cb.cell 9 _ rfl
      have k10 := X10.out.cb.cell 10 _ rfl
      have k11 := X10.out.cb.cell 11 _ rfl
      have k12 := X10.out.cb.cell 12 _ rfl
      have p0 := X10.out.pb.cell 0 _ rfl
      have p1 := X10.out.pb.cell 1 _ rfl
      have p2 := X10.out.pb.cell 2 _ rfl
      have p3 := X10.out.pb.cell 3 _ rfl
      have p4 := X10.out.pb.cell 4 _ rfl
      have p5 := X10.out.pb.cell 5 _ rfl
      have p6 := X10.out.pb.cell 6 _ rfl
      have p7 := X10.out.pb.cell 7 _ rfl
      have p8 := X10.out.pb.cell 8 _ rfl
      go_wp2_with fail
      refine (rleave_b C o n s ks A c l o2 n2 s2 ks2 A2 c2 l2 z a b _ HL.out.1 HC.out.1 HC.out.2.1 (HE.out.1.below X10.out.below) HL.out.2 HC.out.2.2.1 HC.out.2.2.2 (HE.out.2.below X10.out.below) H1).mono ?_
      rintro e w11 ⟨rfl, hb⟩
      have X11 := Lib.hid (X10.out.next hb)
      clear hb X10 k0 k1 k2 k3 k4 k5 k6 k7 k8 k9 k10 k11 k12 p0 p1 p2 p3 p4 p5 p6 p7 p8
      have k0 := X11.out.cb.cell 0 _ rfl
      have k1 := X11.out.cb.cell 1 _ rfl
      have k2 := X11.out.cb.cell 2 _ rfl
      have k3 := X11.out.cb.cell 3 _ rfl
      have k4 := X11.out.cb.cell 4 _ rfl
      have k5 := X11.out.cb.cell 5 _ rfl
      have k6 := X11.out.cb.cell 6 _ rfl
      have k7 := X11.out.cb.cell 7 _ rfl
      have k8 := X11.out.cb.cell 8 _ rfl
      have k9 := X11.out.cb.cell 9 _ rfl
      have k10 := X11.out.cb.cell 10 _ rfl
      have k11 := X11.out.cb.cell 11 _ rfl
      have k12 := X11.out.cb.cell 12 _ rfl
      have p0 := X11.out.pb.cell 0 _ rfl
      have p1 := X11.out.pb.cell 1 _ rfl
      have p2 := X11.out.pb.cell 2 _ rfl
      have p3 := X11.out.pb.cell 3 _ rfl
      have p4 := X11.out.pb.cell 4 _ rfl
      have p5 := X11.out.pb.cell 5 _ rfl
      have p6 := X11.out.pb.cell 6 _ rfl
      have p7 := X11.out.pb.cell 7 _ rfl
      have p8 := X11.out.pb.cell 8 _ rfl
      go_wp2_with fail
      refine (rrelease_b C o n s ks A c l a3 b3 _ HL.out.1 HC.out.1 HC.out.2.1 (HE.out.1.below X11.out.below) H3).mono ?_
      rintro e w12 ⟨rfl, hb⟩
      have X12 := Lib.hid (X11.out.next hb)
      clear hb X11 k0 k1 k2 k3 k4 k5 k6 k7 k8 k9 k10 k11 k12 p0 p1 p2 p3 p4 p5 p6 p7 p8
      have k0 := X12.out.cb.cell 0 _ rfl
      have k1 := X12.out.cb.cell 1 _ rfl
      have k2 := X12.out.cb.cell 2 _ rfl
      have k3 := X12.out.cb.cell 3 _ rfl
      have k4 := X12.out.cb.cell 4 _ rfl
      have k5 := X12.out.cb.cell 5 _ rfl
      have k6 := X12.out.cb.cell 6 _ rfl
      have k7 := X12.out.cb.cell 7 _ rfl
      have k8 := X12.out.cb.cell 8 _ rfl
      have k9 := X12.out.cb.cell 9 _ rfl
      have k10 := X12.out.cb.cell 10 _ rfl
      have k11 := X12.out.cb.cell 11 _ rfl
      have k12 := X12.out.cb.cell 12 _ rfl
      have p0 := X12.out.pb.cell 0 _ rfl
      have p1 := X12.out.pb.cell 1 _ rfl
      have p2 := X12.out.pb.cell 2 _ rfl
      have p3 := X12.out.pb.cell 3 _ rfl
      have p4 := X12.out.pb.cell 4 _ rfl
      have p5 := X12.out.pb.cell 5 _ rfl
      have p6 := X12.out.pb.cell 6 _ rfl
      have p7 := X12.out.pb.cell 7 _ rfl
      have p8 := X12.out.pb.cell 8 _ rfl
      go_wp2_with fail
      refine (routput_b C o2 n2 s2 ks2 A2 c2 l2 a4 b4 _ HL.out.2 HC.out.2.2.1 HC.out.2.2.2 (HE.out.2.below X12.out.below) H4).mono ?_
      rintro e w13 ⟨rfl, hb⟩
      have X13 := Lib.hid (X12.out.next hb)
      clear hb X12 k0 k1 k2 k3 k4 k5 k6 k7 k8 k9 k10 k11 k12 p0 p1 p2 p3 p4 p5 p6 p7 p8
      have k0 := X13.out.cb.cell 0 _ rfl
      have k1 := X13.out.cb.cell 1 _ rfl
      have k2 := X13.out.cb.cell 2 _ rfl
      have k3 := X13.out.cb.cell 3 _ rfl
      have k4 := X13.out.cb.cell 4 _ rfl
      have k5 := X13.out.cb.cell 5 _ rfl
      have k6 := X13.out.cb.cell 6 _ rfl
      have k7 := X13.out.cb.cell 7 _ rfl
      have k8 := X13.out.cb.cell 8 _ rfl
      have k9 := X13.out.cb.cell 9 _ rfl
      have k10 := X13.out.cb.cell 10 _ rfl
      have k11 := X13.out.cb.cell 11 _ rfl
      have k12 := X13.out.cb.cell 12 _ rfl
      have p0 := X13.out.pb.cell 0 _ rfl
      have p1 := X13.out.pb.cell 1 _ rfl
      have p2 := X13.out.pb.cell 2 _ rfl
      have p3 := X13.out.pb.cell 3 _ rfl
      have p4 := X13.out.pb.cell 4 _ rfl
      have p5 := X13.out.pb.cell 5 _ rfl
      have p6 := X13.out.pb.cell 6 _ rfl
      have p7 := X13.out.pb.cell 7 _ rfl
      have p8 := X13.out.pb.cell 8 _ rfl
      go_wp2_with fail
      refine (rif_b C o2 n2 s2 ks2 A2 c2 l2 a5 b5 _ HL.out.2 HC.out.2.2.1 HC.out.2.2.2 (HE.out.2.below X13.out.below) H5).mono ?_
      rintro e w14 ⟨rfl, hb⟩
      have X14 := Lib.hid (X13.out.next hb)
      clear hb X13 k0 k1 k2 k3 k4 k5 k6 k7 k8 k9 k10 k11 k12 p0 p1 p2 p3 p4 p5 p6 p7 p8
      have k0 := X14.out.cb.cell 0 _ rfl
      have k1 := X14.out.cb.cell 1 _ rfl
      have k2 := X14.out.cb.cell 2 _ rfl
      have k3 := X14.out.cb.cell 3 _ rfl
      have k4 := X14.out.cb.cell 4 _ rfl
      have k5 := X14.out.cb.cell 5 _ rfl
      have k6 := X14.out.cb.cell 6 _ rfl
      have k7 := X14.out.cb.cell 7 _ rfl
      have k8 := X14.out.cb.cell 8 _ rfl
      have k9 := X14.out.cb.cell 9 _ rfl
      have k10 := X14.out.cb.cell 10 _ rfl
      have k11 := X14.out.cb.cell 11 _ rfl
      have k12 := X14.out.cb.cell 12 _ rfl
      have p0 := X14.out.pb.cell 0 _ rfl
      have p1 := X14.out.pb.cell 1 _ rfl
      have p2 := X14.out.pb.cell 2 _ rfl
      have p3 := X14.out.pb.cell 3 _ rfl
      have p4 := X14.out.pb.cell 4 _ rfl
      have p5 := X14.out.pb.cell 5 _ rfl
      have p6 := X14.out.pb.cell 6 _ rfl
      have p7 := X14.out.pb.cell 7 _ rfl
      have p8 := X14.out.pb.cell 8 _ rfl
      go_wp2_with fail
      refine (rwhile_b C o2 n2 s2 ks2 A2 c2 l2 a6 b6 _ HL.out.2 HC.out.2.2.1 HC.out.2.2.2 (HE.out.2.below X14.out.below) H6).mono ?_
      rintro e w15 ⟨rfl, hb⟩
      have X15 := Lib.hid (X14.out.next hb)
      clear hb X14 k0 k1 k2 k3 k4 k5 k6 k7 k8 k9 k10 k11 k12 p0 p1 p2 p3 p4 p5 p6 p7 p8
      go_wp2_with fail
      go_ret
      exact ⟨ret_bool (by simp), X15.out.below⟩

set_option maxRecDepth 100000 in
theorem costStatements_lifted (os : Os) (started : os.Started) (H : Type) (enc : TypeId × Value → H) :
    ReturnsInHanded {} Try.checked os 8 .any (Rows.costStatementsSpec.pre6 enc Try.prog Try.f8 Rows.costStatementsRow.domain false) (Rows.costStatementsSpec.post enc Try.prog Try.f8 false true false false) := by
  refine returnsInHanded_of_change_shaped (C := Try.checked) own started (by kernel_rfl) Try.func8
    (ChangeSpec.witness6 (enc := enc) (C := Try.checked) false ⟨#[], #[.agg #[.int .i64 0, .int .i64 0, .int .i64 0, .int .i64 0, .int .i64 0, .int .i64 0, .int .i64 0, .int .i64 0, .int .i64 0, .int .i64 0, .int .i64 0, .int .i64 0, .int .i64 0], .agg #[.int .i64 0, .int .i64 0, .string ⟨#[]⟩, .slice none 0 0, .int .i64 0, .int .i64 0, .string ⟨#[]⟩, .slice none 0 0, .int .i64 0]], []⟩ 8 (by kernel_rfl) (by kernel_rfl) (by kernel_rfl) (by kernel_rfl)) ?_
  intro W base args ds gs before hval0 hW hcnd0 _ hsh _
  clear hcnd0
  have hval : ∀ (j : Nat) t v, Try.f8.params[j]? = some t → args[j]? = some v → Value.okWide Try.prog W .any base t v := hval0
  have hW' := hW
  obtain ⟨p, q, hA0, hV, rfl, hfz, hnd⟩ := hW
  have hA : DataW.TrodAll enc Try.prog W 0 (fun _ => true) true Try.f8.params.toList args.toList ds p := hA0
  rw [Try.params8] at hA hval
  obtain ⟨v0, v1, d0, d1, p0, p1, hargs, rfl, rfl, h0, h1⟩ := trodAll_two hA
  obtain rfl : args = #[v0, v1] := hargs
  obtain ⟨rfl, rfl⟩ := trodVars_none hV
  obtain ⟨C, rfl⟩ := open_costs (hval 0 23 v0 rfl rfl) h0
  obtain ⟨o, n, s, A, l, c, ks, o2, n2, s2, A2, l2, c2, ks2, z, rfl, hl, hE, hl2, hE2, hz⟩ := open_pieces (hval 1 37 v1 rfl rfl) h1
  clear hz
  clear hA0 hval0
  have hml : ML W := Try.laysM219.s1_3 W hsh
  refine (statements_walk C o n s ks A c l o2 n2 s2 ks2 A2 c2 l2 z W hml hl hE hl2 hE2).mono fun e W' ⟨he, hb⟩ => ?_
  subst he
  have hlt : ∀ x ∈ p0 ++ p1 ++ [], x.block < W.heap.size := fun x hx => hW'.lt x hx
  exact ⟨_, rfl, _, _, _, [], p0 ++ p1, [], hW', trodAll_mk1 (shut_bool Try.underlying4 _),
    trodAll_mk2 (Below.trod laidOut (by kernel_rfl) (of_decide_eq_true (by kernel_rfl)) h0 hb (fun x hx => hlt x (by simp [hx]))) (Below.trod laidOut (by kernel_rfl) (of_decide_eq_true (by kernel_rfl)) h1 hb (fun x hx => hlt x (by simp [hx]))), rfl, hb.frame _, fun h => by cases h⟩

theorem costStatements_holds : Rows.CostStatementsSaid :=
  OpenClaim.holds_of_wide 8 Try.f8 rfl rfl rfl rfl rfl rfl rfl ⟨rfl, rfl, rfl, rfl, rfl⟩ rfl rfl rfl rfl rfl (by kernel_rfl) Try.func8 (by kernel_rfl)
    (of_decide_eq_true (by kernel_rfl)) (by unfold Func.isWrapper; rw [if_neg (of_decide_eq_false (by kernel_rfl))]; exact ⟨rfl, rfl⟩)
    (fun os started H enc _ => costStatements_lifted os started H enc)
#print axioms costStatements_holds
end Go.Proofs.Ythlhicegchkjjaa
