/-
  CostAdds: the costs with the sum of two models are the sums of the costs. No condition.
-/
import Derived.Test.YthlhicegchkjjaaCoS
namespace Go.Proofs.Ythlhicegchkjjaa
open Go.RowKit Go.ChangeShapes Go.WideShapes Go.ChangeAt

/-- Two models' blocks, and pieces behind them. -/
structure B3 (w W : World) (C D : CM) (vs : List Value) : Prop where
  below : Below w.heap.size w W
  cb : Cs W w.heap.size [.int .i64 C.c0, .int .i64 C.c1, .int .i64 C.c2, .int .i64 C.c3, .int .i64 C.c4, .int .i64 C.c5, .int .i64 C.c6, .int .i64 C.c7, .int .i64 C.c8, .int .i64 C.c9, .int .i64 C.c10, .int .i64 C.c11, .int .i64 C.c12]
  db : Cs W (w.heap.size + 1) [.int .i64 D.c0, .int .i64 D.c1, .int .i64 D.c2, .int .i64 D.c3, .int .i64 D.c4, .int .i64 D.c5, .int .i64 D.c6, .int .i64 D.c7, .int .i64 D.c8, .int .i64 D.c9, .int .i64 D.c10, .int .i64 D.c11, .int .i64 D.c12]
  pb : Cs W (w.heap.size + 1 + 1) vs
theorem B3.next {w W W' : World} {C D : CM} {vs : List Value} (h : B3 w W C D vs) (hb : Below W.heap.size W W') : B3 w W' C D vs := ⟨h.below.trans (hb.mono h.below.size), h.cb.next hb, h.db.next hb, h.pb.next hb⟩
theorem B3.drew {w W : World} {C D : CM} {vs : List Value} (h : B3 w W C D vs) : B3 w W.drew C D vs := h.next (Below.refl _ _).drew
theorem b3 (w : World) (C D : CM) (vs : Array Value) (T T' T'' : TypeId) : B3 w (((w.alloc (.cells #[.int .i64 C.c0, .int .i64 C.c1, .int .i64 C.c2, .int .i64 C.c3, .int .i64 C.c4, .int .i64 C.c5, .int .i64 C.c6, .int .i64 C.c7, .int .i64 C.c8, .int .i64 C.c9, .int .i64 C.c10, .int .i64 C.c11, .int .i64 C.c12] T)).alloc (.cells #[.int .i64 D.c0, .int .i64 D.c1, .int .i64 D.c2, .int .i64 D.c3, .int .i64 D.c4, .int .i64 D.c5, .int .i64 D.c6, .int .i64 D.c7, .int .i64 D.c8, .int .i64 D.c9, .int .i64 D.c10, .int .i64 D.c11, .int .i64 D.c12] T')).alloc (.cells vs T'')) C D vs.toList := by
  refine ⟨((Below.refl _ _).alloc (Nat.le_refl _) _ |>.alloc (by simp) _).alloc (by simp; omega) _, ((Cs.new w _ _).alloc _).alloc _, ?_, ?_⟩
  · have := (Cs.new (w.alloc (.cells #[.int .i64 C.c0, .int .i64 C.c1, .int .i64 C.c2, .int .i64 C.c3, .int .i64 C.c4, .int .i64 C.c5, .int .i64 C.c6, .int .i64 C.c7, .int .i64 C.c8, .int .i64 C.c9, .int .i64 C.c10, .int .i64 C.c11, .int .i64 C.c12] T)) #[.int .i64 D.c0, .int .i64 D.c1, .int .i64 D.c2, .int .i64 D.c3, .int .i64 D.c4, .int .i64 D.c5, .int .i64 D.c6, .int .i64 D.c7, .int .i64 D.c8, .int .i64 D.c9, .int .i64 D.c10, .int .i64 D.c11, .int .i64 D.c12] T').alloc (.cells vs T'')
    simpa using this
  · have := Cs.new ((w.alloc (.cells #[.int .i64 C.c0, .int .i64 C.c1, .int .i64 C.c2, .int .i64 C.c3, .int .i64 C.c4, .int .i64 C.c5, .int .i64 C.c6, .int .i64 C.c7, .int .i64 C.c8, .int .i64 C.c9, .int .i64 C.c10, .int .i64 C.c11, .int .i64 C.c12] T)).alloc (.cells #[.int .i64 D.c0, .int .i64 D.c1, .int .i64 D.c2, .int .i64 D.c3, .int .i64 D.c4, .int .i64 D.c5, .int .i64 D.c6, .int .i64 D.c7, .int .i64 D.c8, .int .i64 D.c9, .int .i64 D.c10, .int .i64 D.c11, .int .i64 D.c12] T')) vs T''
    simpa using this
theorem B3.keep {w W : World} {C D : CM} {o n o2 n2 z : Int} {s s2 : ByteArray} {A A2 : Option Addr} {l c l2 c2 : Nat} (h : B3 w W C D [.int .i64 o, .int .i64 n, .string s, .slice A l c, .int .i64 o2, .int .i64 n2, .string s2, .slice A2 l2 c2, .int .i64 z]) : W.cell? ⟨w.heap.size + 1 + 1, 0, none⟩ = some (.int .i64 o) ∧ W.cell? ⟨w.heap.size + 1 + 1, 1, none⟩ = some (.int .i64 n) ∧ W.cell? ⟨w.heap.size + 1 + 1, 2, none⟩ = some (.string s) ∧ W.cell? ⟨w.heap.size + 1 + 1, 3, none⟩ = some (.slice A l c) ∧ W.cell? ⟨w.heap.size + 1 + 1, 4, none⟩ = some (.int .i64 o2) ∧ W.cell? ⟨w.heap.size + 1 + 1, 5, none⟩ = some (.int .i64 n2) ∧ W.cell? ⟨w.heap.size + 1 + 1, 6, none⟩ = some (.string s2) ∧ W.cell? ⟨w.heap.size + 1 + 1, 7, none⟩ = some (.slice A2 l2 c2) ∧ W.cell? ⟨w.heap.size + 1 + 1, 8, none⟩ = some (.int .i64 z) ∧ W.cell? ⟨w.heap.size + 1, 0, none⟩ = some (.int .i64 D.c0) ∧ W.cell? ⟨w.heap.size + 1, 1, none⟩ = some (.int .i64 D.c1) ∧ W.cell? ⟨w.heap.size + 1, 2, none⟩ = some (.int .i64 D.c2) ∧ W.cell? ⟨w.heap.size + 1, 3, none⟩ = some (.int .i64 D.c3) ∧ W.cell? ⟨w.heap.size + 1, 4, none⟩ = some (.int .i64 D.c4) ∧ W.cell? ⟨w.heap.size + 1, 5, none⟩ = some (.int .i64 D.c5) ∧ W.cell? ⟨w.heap.size + 1, 6, none⟩ = some (.int .i64 D.c6) ∧ W.cell? ⟨w.heap.size + 1, 7, none⟩ = some (.int .i64 D.c7) ∧ W.cell? ⟨w.heap.size + 1, 8, none⟩ = some (.int .i64 D.c8) ∧ W.cell? ⟨w.heap.size + 1, 9, none⟩ = some (.int .i64 D.c9) ∧ W.cell? ⟨w.heap.size + 1, 10, none⟩ = some (.int .i64 D.c10) ∧ W.cell? ⟨w.heap.size + 1, 11, none⟩ = some (.int .i64 D.c11) ∧ W.cell? ⟨w.heap.size + 1, 12, none⟩ = some (.int .i64 D.c12) ∧ W.cell? ⟨w.heap.size, 0, none⟩ = some (.int .i64 C.c0) ∧ W.cell? ⟨w.heap.size, 1, none⟩ = some (.int .i64 C.c1) ∧ W.cell? ⟨w.heap.size, 2, none⟩ = some (.int .i64 C.c2) ∧ W.cell? ⟨w.heap.size, 3, none⟩ = some (.int .i64 C.c3) ∧ W.cell? ⟨w.heap.size, 4, none⟩ = some (.int .i64 C.c4) ∧ W.cell? ⟨w.heap.size, 5, none⟩ = some (.int .i64 C.c5) ∧ W.cell? ⟨w.heap.size, 6, none⟩ = some (.int .i64 C.c6) ∧ W.cell? ⟨w.heap.size, 7, none⟩ = some (.int .i64 C.c7) ∧ W.cell? ⟨w.heap.size, 8, none⟩ = some (.int .i64 C.c8) ∧ W.cell? ⟨w.heap.size, 9, none⟩ = some (.int .i64 C.c9) ∧ W.cell? ⟨w.heap.size, 10, none⟩ = some (.int .i64 C.c10) ∧ W.cell? ⟨w.heap.size, 11, none⟩ = some (.int .i64 C.c11) ∧ W.cell? ⟨w.heap.size, 12, none⟩ = some (.int .i64 C.c12) :=
  ⟨h.pb.cell 0 _ rfl, h.pb.cell 1 _ rfl, h.pb.cell 2 _ rfl, h.pb.cell 3 _ rfl, h.pb.cell 4 _ rfl, h.pb.cell 5 _ rfl, h.pb.cell 6 _ rfl, h.pb.cell 7 _ rfl, h.pb.cell 8 _ rfl, h.db.cell 0 _ rfl, h.db.cell 1 _ rfl, h.db.cell 2 _ rfl, h.db.cell 3 _ rfl, h.db.cell 4 _ rfl, h.db.cell 5 _ rfl, h.db.cell 6 _ rfl, h.db.cell 7 _ rfl, h.db.cell 8 _ rfl, h.db.cell 9 _ rfl, h.db.cell 10 _ rfl, h.db.cell 11 _ rfl, h.db.cell 12 _ rfl, h.cb.cell 0 _ rfl, h.cb.cell 1 _ rfl, h.cb.cell 2 _ rfl, h.cb.cell 3 _ rfl, h.cb.cell 4 _ rfl, h.cb.cell 5 _ rfl, h.cb.cell 6 _ rfl, h.cb.cell 7 _ rfl, h.cb.cell 8 _ rfl, h.cb.cell 9 _ rfl, h.cb.cell 10 _ rfl, h.cb.cell 11 _ rfl, h.cb.cell 12 _ rfl⟩

set_option maxRecDepth 100000 in
set_option maxHeartbeats 20000000 in
theorem adds_1 (C D : CM) (o n : Int) (s : ByteArray) (ks : List ET) (A : Option Addr) (c l : Nat) (o2 n2 : Int) (s2 : ByteArray) (ks2 : List ET) (A2 : Option Addr) (c2 l2 : Nat) (z : Int) (w : World) (hm : ML w) (hl : ks.length = l) (hE : EOk w s A c ks) (hl2 : ks2.length = l2) (hE2 : EOk w s2 A2 c2 ks2) (HF1 : Hid (decide (0 ≤ ET.left (.mk o n s ks) 300) = false)) :
    Calls Try.prog 5 #[.agg #[.int .i64 C.c0, .int .i64 C.c1, .int .i64 C.c2, .int .i64 C.c3, .int .i64 C.c4, .int .i64 C.c5, .int .i64 C.c6, .int .i64 C.c7, .int .i64 C.c8, .int .i64 C.c9, .int .i64 C.c10, .int .i64 C.c11, .int .i64 C.c12], .agg #[.int .i64 D.c0, .int .i64 D.c1, .int .i64 D.c2, .int .i64 D.c3, .int .i64 D.c4, .int .i64 D.c5, .int .i64 D.c6, .int .i64 D.c7, .int .i64 D.c8, .int .i64 D.c9, .int .i64 D.c10, .int .i64 D.c11, .int .i64 D.c12], .agg #[.int .i64 o, .int .i64 n, .string s, .slice A l c, .int .i64 o2, .int .i64 n2, .string s2, .slice A2 l2 c2, .int .i64 z]] w fun e w' => e = .returned (.bool true) ∧ Below w.heap.size w w' := by
  have HE := Lib.hid (And.intro hE hE2)
  have HL := Lib.hid (And.intro hl hl2)
  have HML := Lib.hid hm
  have X0 := Lib.hid (b3 w C D #[.int .i64 o, .int .i64 n, .string s, .slice A l c, .int .i64 o2, .int .i64 n2, .string s2, .slice A2 l2 c2, .int .i64 z] 23 23 37)
  clear hE hl hm hE2 hl2
  go_enter Try.func5, Try.ntmps5
  go_wp2_with fail
  refine (known_t _ (HML.out.below HML.out.pos X0.out.below)).mono ?_
  rintro e w1 ⟨rfl, hb⟩
  have X1 := Lib.hid (X0.out.next hb)
  clear hb X0
  have k0 := X1.out.cb.cell 0 _ rfl
  have k1 := X1.out.cb.cell 1 _ rfl
  have k2 := X1.out.cb.cell 2 _ rfl
  have k3 := X1.out.cb.cell 3 _ rfl
  have k4 := X1.out.cb.cell 4 _ rfl
  have k5 := X1.out.cb.cell 5 _ rfl
  have k6 := X1.out.cb.cell 6 _ rfl
  have k7 := X1.out.cb.cell 7 _ rfl
  have k8 := X1.out.cb.cell 8 _ rfl
  have k9 := X1.out.cb.cell 9 _ rfl
  have k10 := X1.out.cb.cell 10 _ rfl
  have k11 := X1.out.cb.cell 11 _ rfl
  have k12 := X1.out.cb.cell 12 _ rfl
  have d0 := X1.out.db.cell 0 _ rfl
  have d1 := X1.out.db.cell 1 _ rfl
  have d2 := X1.out.db.cell 2 _ rfl
  have d3 := X1.out.db.cell 3 _ rfl
  have d4 := X1.out.db.cell 4 _ rfl
  have d5 := X1.out.db.cell 5 _ rfl
  have d6 := X1.out.db.cell 6 _ rfl
  have d7 := X1.out.db.cell 7 _ rfl
  have d8 := X1.out.db.cell 8 _ rfl
  have d9 := X1.out.db.cell 9 _ rfl
  have d10 := X1.out.db.cell 10 _ rfl
  have d11 := X1.out.db.cell 11 _ rfl
  have d12 := X1.out.db.cell 12 _ rfl
  have p0 := X1.out.pb.cell 0 _ rfl
  have p1 := X1.out.pb.cell 1 _ rfl
  have p2 := X1.out.pb.cell 2 _ rfl
  have p3 := X1.out.pb.cell 3 _ rfl
  have p4 := X1.out.pb.cell 4 _ rfl
  have p5 := X1.out.pb.cell 5 _ rfl
  have p6 := X1.out.pb.cell 6 _ rfl
  have p7 := X1.out.pb.cell 7 _ rfl
  have p8 := X1.out.pb.cell 8 _ rfl
  go_wp2_with fail
  refine (few_b o n s ks A c l _ HL.out.1 HF1 _ (HE.out.1.below X1.out.below)).mono ?_
  rintro e w2 ⟨rfl, hb⟩
  have X2 := Lib.hid (X1.out.next hb)
  clear hb X1 k0 k1 k2 k3 k4 k5 k6 k7 k8 k9 k10 k11 k12 d0 d1 d2 d3 d4 d5 d6 d7 d8 d9 d10 d11 d12 p0 p1 p2 p3 p4 p5 p6 p7 p8
  go_wp2_with fail
  go_ret
  exact ⟨rfl, X2.out.below⟩

set_option maxRecDepth 100000 in
set_option maxHeartbeats 20000000 in
theorem adds_2 (C D : CM) (o n : Int) (s : ByteArray) (ks : List ET) (A : Option Addr) (c l : Nat) (o2 n2 : Int) (s2 : ByteArray) (ks2 : List ET) (A2 : Option Addr) (c2 l2 : Nat) (z : Int) (w : World) (hm : ML w) (hl : ks.length = l) (hE : EOk w s A c ks) (hl2 : ks2.length = l2) (hE2 : EOk w s2 A2 c2 ks2) (HF1 : Hid (decide (0 ≤ ET.left (.mk o n s ks) 300) = true)) (HF2 : Hid (decide (0 ≤ ET.left (.mk o2 n2 s2 ks2) 300) = false)) :
    Calls Try.prog 5 #[.agg #[.int .i64 C.c0, .int .i64 C.c1, .int .i64 C.c2, .int .i64 C.c3, .int .i64 C.c4, .int .i64 C.c5, .int .i64 C.c6, .int .i64 C.c7, .int .i64 C.c8, .int .i64 C.c9, .int .i64 C.c10, .int .i64 C.c11, .int .i64 C.c12], .agg #[.int .i64 D.c0, .int .i64 D.c1, .int .i64 D.c2, .int .i64 D.c3, .int .i64 D.c4, .int .i64 D.c5, .int .i64 D.c6, .int .i64 D.c7, .int .i64 D.c8, .int .i64 D.c9, .int .i64 D.c10, .int .i64 D.c11, .int .i64 D.c12], .agg #[.int .i64 o, .int .i64 n, .string s, .slice A l c, .int .i64 o2, .int .i64 n2, .string s2, .slice A2 l2 c2, .int .i64 z]] w fun e w' => e = .returned (.bool true) ∧ Below w.heap.size w w' := by
  have HE := Lib.hid (And.intro hE hE2)
  have HL := Lib.hid (And.intro hl hl2)
  have HML := Lib.hid hm
  have X0 := Lib.hid (b3 w C D #[.int .i64 o, .int .i64 n, .string s, .slice A l c, .int .i64 o2, .int .i64 n2, .string s2, .slice A2 l2 c2, .int .i64 z] 23 23 37)
  clear hE hl hm hE2 hl2
  go_enter Try.func5, Try.ntmps5
  go_wp2_with fail
  refine (known_t _ (HML.out.below HML.out.pos X0.out.below)).mono ?_
  rintro e w1 ⟨rfl, hb⟩
  have X1 := Lib.hid (X0.out.next hb)
  clear hb X0
  have k0 := X1.out.cb.cell 0 _ rfl
  have k1 := X1.out.cb.cell 1 _ rfl
  have k2 := X1.out.cb.cell 2 _ rfl
  have k3 := X1.out.cb.cell 3 _ rfl
  have k4 := X1.out.cb.cell 4 _ rfl
  have k5 := X1.out.cb.cell 5 _ rfl
  have k6 := X1.out.cb.cell 6 _ rfl
  have k7 := X1.out.cb.cell 7 _ rfl
  have k8 := X1.out.cb.cell 8 _ rfl
  have k9 := X1.out.cb.cell 9 _ rfl
  have k10 := X1.out.cb.cell 10 _ rfl
  have k11 := X1.out.cb.cell 11 _ rfl
  have k12 := X1.out.cb.cell 12 _ rfl
  have d0 := X1.out.db.cell 0 _ rfl
  have d1 := X1.out.db.cell 1 _ rfl
  have d2 := X1.out.db.cell 2 _ rfl
  have d3 := X1.out.db.cell 3 _ rfl
  have d4 := X1.out.db.cell 4 _ rfl
  have d5 := X1.out.db.cell 5 _ rfl
  have d6 := X1.out.db.cell 6 _ rfl
  have d7 := X1.out.db.cell 7 _ rfl
  have d8 := X1.out.db.cell 8 _ rfl
  have d9 := X1.out.db.cell 9 _ rfl
  have d10 := X1.out.db.cell 10 _ rfl
  have d11 := X1.out.db.cell 11 _ rfl
  have d12 := X1.out.db.cell 12 _ rfl
  have p0 := X1.out.pb.cell 0 _ rfl
  have p1 := X1.out.pb.cell 1 _ rfl
  have p2 := X1.out.pb.cell 2 _ rfl
  have p3 := X1.out.pb.cell 3 _ rfl
  have p4 := X1.out.pb.cell 4 _ rfl
  have p5 := X1.out.pb.cell 5 _ rfl
  have p6 := X1.out.pb.cell 6 _ rfl
  have p7 := X1.out.pb.cell 7 _ rfl
  have p8 := X1.out.pb.cell 8 _ rfl
  go_wp2_with fail
  refine (few_b o n s ks A c l _ HL.out.1 HF1 _ (HE.out.1.below X1.out.below)).mono ?_
  rintro e w2 ⟨rfl, hb⟩
  have X2 := Lib.hid (X1.out.next hb)
  clear hb X1 k0 k1 k2 k3 k4 k5 k6 k7 k8 k9 k10 k11 k12 d0 d1 d2 d3 d4 d5 d6 d7 d8 d9 d10 d11 d12 p0 p1 p2 p3 p4 p5 p6 p7 p8
  have k0 := X2.out.cb.cell 0 _ rfl
  have k1 := X2.out.cb.cell 1 _ rfl
  have k2 := X2.out.cb.cell 2 _ rfl
  have k3 := X2.out.cb.cell 3 _ rfl
  have k4 := X2.out.cb.cell 4 _ rfl
  have k5 := X2.out.cb.cell 5 _ rfl
  have k6 := X2.out.cb.cell 6 _ rfl
  have k7 := X2.out.cb.cell 7 _ rfl
  have k8 := X2.out.cb.cell 8 _ rfl
  have k9 := X2.out.cb.cell 9 _ rfl
  have k10 := X2.out.cb.cell 10 _ rfl
  have k11 := X2.out.cb.cell 11 _ rfl
  have k12 := X2.out.cb.cell 12 _ rfl
  have d0 := X2.out.db.cell 0 _ rfl
  have d1 := X2.out.db.cell 1 _ rfl
  have d2 := X2.out.db.cell 2 _ rfl
  have d3 := X2.out.db.cell 3 _ rfl
  have d4 := X2.out.db.cell 4 _ rfl
  have d5 := X2.out.db.cell 5 _ rfl
  have d6 := X2.out.db.cell 6 _ rfl
  have d7 := X2.out.db.cell 7 _ rfl
  have d8 := X2.out.db.cell 8 _ rfl
  have d9 := X2.out.db.cell 9 _ rfl
  have d10 := X2.out.db.cell 10 _ rfl
  have d11 := X2.out.db.cell 11 _ rfl
  have d12 := X2.out.db.cell 12 _ rfl
  have p0 := X2.out.pb.cell 0 _ rfl
  have p1 := X2.out.pb.cell 1 _ rfl
  have p2 := X2.out.pb.cell 2 _ rfl
  have p3 := X2.out.pb.cell 3 _ rfl
  have p4 := X2.out.pb.cell 4 _ rfl
  have p5 := X2.out.pb.cell 5 _ rfl
  have p6 := X2.out.pb.cell 6 _ rfl
  have p7 := X2.out.pb.cell 7 _ rfl
  have p8 := X2.out.pb.cell 8 _ rfl
  go_wp2_with fail
  refine (few_b o2 n2 s2 ks2 A2 c2 l2 _ HL.out.2 HF2 _ (HE.out.2.below X2.out.below)).mono ?_
  rintro e w3 ⟨rfl, hb⟩
  have X3 := Lib.hid (X2.out.next hb)
  clear hb X2 k0 k1 k2 k3 k4 k5 k6 k7 k8 k9 k10 k11 k12 d0 d1 d2 d3 d4 d5 d6 d7 d8 d9 d10 d11 d12 p0 p1 p2 p3 p4 p5 p6 p7 p8
  go_wp2_with fail
  go_ret
  exact ⟨rfl, X3.out.below⟩

set_option maxRecDepth 100000 in
set_option maxHeartbeats 20000000 in
theorem adds_3 (C D : CM) (o n : Int) (s : ByteArray) (ks : List ET) (A : Option Addr) (c l : Nat) (o2 n2 : Int) (s2 : ByteArray) (ks2 : List ET) (A2 : Option Addr) (c2 l2 : Nat) (z : Int) (w : World) (hm : ML w) (hl : ks.length = l) (hE : EOk w s A c ks) (hl2 : ks2.length = l2) (hE2 : EOk w s2 A2 c2 ks2) (HF1 : Hid (decide (0 ≤ ET.left (.mk o n s ks) 300) = true)) (HF2 : Hid (decide (0 ≤ ET.left (.mk o2 n2 s2 ks2) 300) = true)) (HR1 : Hid (C.chk = 3)) :
    Calls Try.prog 5 #[.agg #[.int .i64 C.c0, .int .i64 C.c1, .int .i64 C.c2, .int .i64 C.c3, .int .i64 C.c4, .int .i64 C.c5, .int .i64 C.c6, .int .i64 C.c7, .int .i64 C.c8, .int .i64 C.c9, .int .i64 C.c10, .int .i64 C.c11, .int .i64 C.c12], .agg #[.int .i64 D.c0, .int .i64 D.c1, .int .i64 D.c2, .int .i64 D.c3, .int .i64 D.c4, .int .i64 D.c5, .int .i64 D.c6, .int .i64 D.c7, .int .i64 D.c8, .int .i64 D.c9, .int .i64 D.c10, .int .i64 D.c11, .int .i64 D.c12], .agg #[.int .i64 o, .int .i64 n, .string s, .slice A l c, .int .i64 o2, .int .i64 n2, .string s2, .slice A2 l2 c2, .int .i64 z]] w fun e w' => e = .returned (.bool true) ∧ Below w.heap.size w w' := by
  have HE := Lib.hid (And.intro hE hE2)
  have HL := Lib.hid (And.intro hl hl2)
  have HML := Lib.hid hm
  have X0 := Lib.hid (b3 w C D #[.int .i64 o, .int .i64 n, .string s, .slice A l c, .int .i64 o2, .int .i64 n2, .string s2, .slice A2 l2 c2, .int .i64 z] 23 23 37)
  clear hE hl hm hE2 hl2
  go_enter Try.func5, Try.ntmps5
  go_wp2_with fail
  refine (known_t _ (HML.out.below HML.out.pos X0.out.below)).mono ?_
  rintro e w1 ⟨rfl, hb⟩
  have X1 := Lib.hid (X0.out.next hb)
  clear hb X0
  have k0 := X1.out.cb.cell 0 _ rfl
  have k1 := X1.out.cb.cell 1 _ rfl
  have k2 := X1.out.cb.cell 2 _ rfl
  have k3 := X1.out.cb.cell 3 _ rfl
  have k4 := X1.out.cb.cell 4 _ rfl
  have k5 := X1.out.cb.cell 5 _ rfl
  have k6 := X1.out.cb.cell 6 _ rfl
  have k7 := X1.out.cb.cell 7 _ rfl
  have k8 := X1.out.cb.cell 8 _ rfl
  have k9 := X1.out.cb.cell 9 _ rfl
  have k10 := X1.out.cb.cell 10 _ rfl
  have k11 := X1.out.cb.cell 11 _ rfl
  have k12 := X1.out.cb.cell 12 _ rfl
  have d0 := X1.out.db.cell 0 _ rfl
  have d1 := X1.out.db.cell 1 _ rfl
  have d2 := X1.out.db.cell 2 _ rfl
  have d3 := X1.out.db.cell 3 _ rfl
  have d4 := X1.out.db.cell 4 _ rfl
  have d5 := X1.out.db.cell 5 _ rfl
  have d6 := X1.out.db.cell 6 _ rfl
  have d7 := X1.out.db.cell 7 _ rfl
  have d8 := X1.out.db.cell 8 _ rfl
  have d9 := X1.out.db.cell 9 _ rfl
  have d10 := X1.out.db.cell 10 _ rfl
  have d11 := X1.out.db.cell 11 _ rfl
  have d12 := X1.out.db.cell 12 _ rfl
  have p0 := X1.out.pb.cell 0 _ rfl
  have p1 := X1.out.pb.cell 1 _ rfl
  have p2 := X1.out.pb.cell 2 _ rfl
  have p3 := X1.out.pb.cell 3 _ rfl
  have p4 := X1.out.pb.cell 4 _ rfl
  have p5 := X1.out.pb.cell 5 _ rfl
  have p6 := X1.out.pb.cell 6 _ rfl
  have p7 := X1.out.pb.cell 7 _ rfl
  have p8 := X1.out.pb.cell 8 _ rfl
  go_wp2_with fail
  refine (few_b o n s ks A c l _ HL.out.1 HF1 _ (HE.out.1.below X1.out.below)).mono ?_
  rintro e w2 ⟨rfl, hb⟩
  have X2 := Lib.hid (X1.out.next hb)
  clear hb X1 k0 k1 k2 k3 k4 k5 k6 k7 k8 k9 k10 k11 k12 d0 d1 d2 d3 d4 d5 d6 d7 d8 d9 d10 d11 d12 p0 p1 p2 p3 p4 p5 p6 p7 p8
  have k0 := X2.out.cb.cell 0 _ rfl
  have k1 := X2.out.cb.cell 1 _ rfl
  have k2 := X2.out.cb.cell 2 _ rfl
  have k3 := X2.out.cb.cell 3 _ rfl
  have k4 := X2.out.cb.cell 4 _ rfl
  have k5 := X2.out.cb.cell 5 _ rfl
  have k6 := X2.out.cb.cell 6 _ rfl
  have k7 := X2.out.cb.cell 7 _ rfl
  have k8 := X2.out.cb.cell 8 _ rfl
  have k9 := X2.out.cb.cell 9 _ rfl
  have k10 := X2.out.cb.cell 10 _ rfl
  have k11 := X2.out.cb.cell 11 _ rfl
  have k12 := X2.out.cb.cell 12 _ rfl
  have d0 := X2.out.db.cell 0 _ rfl
  have d1 := X2.out.db.cell 1 _ rfl
  have d2 := X2.out.db.cell 2 _ rfl
  have d3 := X2.out.db.cell 3 _ rfl
  have d4 := X2.out.db.cell 4 _ rfl
  have d5 := X2.out.db.cell 5 _ rfl
  have d6 := X2.out.db.cell 6 _ rfl
  have d7 := X2.out.db.cell 7 _ rfl
  have d8 := X2.out.db.cell 8 _ rfl
  have d9 := X2.out.db.cell 9 _ rfl
  have d10 := X2.out.db.cell 10 _ rfl
  have d11 := X2.out.db.cell 11 _ rfl
  have d12 := X2.out.db.cell 12 _ rfl
  have p0 := X2.out.pb.cell 0 _ rfl
  have p1 := X2.out.pb.cell 1 _ rfl
  have p2 := X2.out.pb.cell 2 _ rfl
  have p3 := X2.out.pb.cell 3 _ rfl
  have p4 := X2.out.pb.cell 4 _ rfl
  have p5 := X2.out.pb.cell 5 _ rfl
  have p6 := X2.out.pb.cell 6 _ rfl
  have p7 := X2.out.pb.cell 7 _ rfl
  have p8 := X2.out.pb.cell 8 _ rfl
  go_wp2_with fail
  refine (few_b o2 n2 s2 ks2 A2 c2 l2 _ HL.out.2 HF2 _ (HE.out.2.below X2.out.below)).mono ?_
  rintro e w3 ⟨rfl, hb⟩
  have X3 := Lib.hid (X2.out.next hb)
  clear hb X2 k0 k1 k2 k3 k4 k5 k6 k7 k8 k9 k10 k11 k12 d0 d1 d2 d3 d4 d5 d6 d7 d8 d9 d10 d11 d12 p0 p1 p2 p3 p4 p5 p6 p7 p8
  have k0 := X3.out.cb.cell 0 _ rfl
  have k1 := X3.out.cb.cell 1 _ rfl
  have k2 := X3.out.cb.cell 2 _ rfl
  have k3 := X3.out.cb.cell 3 _ rfl
  have k4 := X3.out.cb.cell 4 _ rfl
  have k5 := X3.out.cb.cell 5 _ rfl
  have k6 := X3.out.cb.cell 6 _ rfl
  have k7 := X3.out.cb.cell 7 _ rfl
  have k8 := X3.out.cb.cell 8 _ rfl
  have k9 := X3.out.cb.cell 9 _ rfl
  have k10 := X3.out.cb.cell 10 _ rfl
  have k11 := X3.out.cb.cell 11 _ rfl
  have k12 := X3.out.cb.cell 12 _ rfl
  have d0 := X3.out.db.cell 0 _ rfl
  have d1 := X3.out.db.cell 1 _ rfl
  have d2 := X3.out.db.cell 2 _ rfl
  have d3 := X3.out.db.cell 3 _ rfl
  have d4 := X3.out.db.cell 4 _ rfl
  have d5 := X3.out.db.cell 5 _ rfl
  have d6 := X3.out.db.cell 6 _ rfl
  have d7 := X3.out.db.cell 7 _ rfl
  have d8 := X3.out.db.cell 8 _ rfl
  have d9 := X3.out.db.cell 9 _ rfl
  have d10 := X3.out.db.cell 10 _ rfl
  have d11 := X3.out.db.cell 11 _ rfl
  have d12 := X3.out.db.cell 12 _ rfl
  have p0 := X3.out.pb.cell 0 _ rfl
  have p1 := X3.out.pb.cell 1 _ rfl
  have p2 := X3.out.pb.cell 2 _ rfl
  have p3 := X3.out.pb.cell 3 _ rfl
  have p4 := X3.out.pb.cell 4 _ rfl
  have p5 := X3.out.pb.cell 5 _ rfl
  have p6 := X3.out.pb.cell 6 _ rfl
  have p7 := X3.out.pb.cell 7 _ rfl
  have p8 := X3.out.pb.cell 8 _ rfl
  go_wp2_with fail
  refine (rcheckC_b C _ HR1 _).mono ?_
  rintro e w4 ⟨rfl, hb⟩
  have X4 := Lib.hid (X3.out.next hb)
  clear hb X3 k0 k1 k2 k3 k4 k5 k6 k7 k8 k9 k10 k11 k12 d0 d1 d2 d3 d4 d5 d6 d7 d8 d9 d10 d11 d12 p0 p1 p2 p3 p4 p5 p6 p7 p8
  go_wp2_with fail
  go_ret
  exact ⟨rfl, X4.out.below⟩

set_option maxRecDepth 100000 in
set_option maxHeartbeats 20000000 in
theorem adds_4 (C D : CM) (o n : Int) (s : ByteArray) (ks : List ET) (A : Option Addr) (c l : Nat) (o2 n2 : Int) (s2 : ByteArray) (ks2 : List ET) (A2 : Option Addr) (c2 l2 : Nat) (z : Int) (w : World) (hm : ML w) (hl : ks.length = l) (hE : EOk w s A c ks) (hl2 : ks2.length = l2) (hE2 : EOk w s2 A2 c2 ks2) (HF1 : Hid (decide (0 ≤ ET.left (.mk o n s ks) 300) = true)) (HF2 : Hid (decide (0 ≤ ET.left (.mk o2 n2 s2 ks2) 300) = true)) (HR1 : Hid (C.chk = 0)) (HR2 : Hid (D.chk = 3)) :
    Calls Try.prog 5 #[.agg #[.int .i64 C.c0, .int .i64 C.c1, .int .i64 C.c2, .int .i64 C.c3, .int .i64 C.c4, .int .i64 C.c5, .int .i64 C.c6, .int .i64 C.c7, .int .i64 C.c8, .int .i64 C.c9, .int .i64 C.c10, .int .i64 C.c11, .int .i64 C.c12], .agg #[.int .i64 D.c0, .int .i64 D.c1, .int .i64 D.c2, .int .i64 D.c3, .int .i64 D.c4, .int .i64 D.c5, .int .i64 D.c6, .int .i64 D.c7, .int .i64 D.c8, .int .i64 D.c9, .int .i64 D.c10, .int .i64 D.c11, .int .i64 D.c12], .agg #[.int .i64 o, .int .i64 n, .string s, .slice A l c, .int .i64 o2, .int .i64 n2, .string s2, .slice A2 l2 c2, .int .i64 z]] w fun e w' => e = .returned (.bool true) ∧ Below w.heap.size w w' := by
  have HE := Lib.hid (And.intro hE hE2)
  have HL := Lib.hid (And.intro hl hl2)
  have HML := Lib.hid hm
  have X0 := Lib.hid (b3 w C D #[.int .i64 o, .int .i64 n, .string s, .slice A l c, .int .i64 o2, .int .i64 n2, .string s2, .slice A2 l2 c2, .int .i64 z] 23 23 37)
  clear hE hl hm hE2 hl2
  go_enter Try.func5, Try.ntmps5
  go_wp2_with fail
  refine (known_t _ (HML.out.below HML.out.pos X0.out.below)).mono ?_
  rintro e w1 ⟨rfl, hb⟩
  have X1 := Lib.hid (X0.out.next hb)
  clear hb X0
  have k0 := X1.out.cb.cell 0 _ rfl
  have k1 := X1.out.cb.cell 1 _ rfl
  have k2 := X1.out.cb.cell 2 _ rfl
  have k3 := X1.out.cb.cell 3 _ rfl
  have k4 := X1.out.cb.cell 4 _ rfl
  have k5 := X1.out.cb.cell 5 _ rfl
  have k6 := X1.out.cb.cell 6 _ rfl
  have k7 := X1.out.cb.cell 7 _ rfl
  have k8 := X1.out.cb.cell 8 _ rfl
  have k9 := X1.out.cb.cell 9 _ rfl
  have k10 := X1.out.cb.cell 10 _ rfl
  have k11 := X1.out.cb.cell 11 _ rfl
  have k12 := X1.out.cb.cell 12 _ rfl
  have d0 := X1.out.db.cell 0 _ rfl
  have d1 := X1.out.db.cell 1 _ rfl
  have d2 := X1.out.db.cell 2 _ rfl
  have d3 := X1.out.db.cell 3 _ rfl
  have d4 := X1.out.db.cell 4 _ rfl
  have d5 := X1.out.db.cell 5 _ rfl
  have d6 := X1.out.db.cell 6 _ rfl
  have d7 := X1.out.db.cell 7 _ rfl
  have d8 := X1.out.db.cell 8 _ rfl
  have d9 := X1.out.db.cell 9 _ rfl
  have d10 := X1.out.db.cell 10 _ rfl
  have d11 := X1.out.db.cell 11 _ rfl
  have d12 := X1.out.db.cell 12 _ rfl
  have p0 := X1.out.pb.cell 0 _ rfl
  have p1 := X1.out.pb.cell 1 _ rfl
  have p2 := X1.out.pb.cell 2 _ rfl
  have p3 := X1.out.pb.cell 3 _ rfl
  have p4 := X1.out.pb.cell 4 _ rfl
  have p5 := X1.out.pb.cell 5 _ rfl
  have p6 := X1.out.pb.cell 6 _ rfl
  have p7 := X1.out.pb.cell 7 _ rfl
  have p8 := X1.out.pb.cell 8 _ rfl
  go_wp2_with fail
  refine (few_b o n s ks A c l _ HL.out.1 HF1 _ (HE.out.1.below X1.out.below)).mono ?_
  rintro e w2 ⟨rfl, hb⟩
  have X2 := Lib.hid (X1.out.next hb)
  clear hb X1 k0 k1 k2 k3 k4 k5 k6 k7 k8 k9 k10 k11 k12 d0 d1 d2 d3 d4 d5 d6 d7 d8 d9 d10 d11 d12 p0 p1 p2 p3 p4 p5 p6 p7 p8
  have k0 := X2.out.cb.cell 0 _ rfl
  have k1 := X2.out.cb.cell 1 _ rfl
  have k2 := X2.out.cb.cell 2 _ rfl
  have k3 := X2.out.cb.cell 3 _ rfl
  have k4 := X2.out.cb.cell 4 _ rfl
  have k5 := X2.out.cb.cell 5 _ rfl
  have k6 := X2.out.cb.cell 6 _ rfl
  have k7 := X2.out.cb.cell 7 _ rfl
  have k8 := X2.out.cb.cell 8 _ rfl
  have k9 := X2.out.cb.cell 9 _ rfl
  have k10 := X2.out.cb.cell 10 _ rfl
  have k11 := X2.out.cb.cell 11 _ rfl
  have k12 := X2.out.cb.cell 12 _ rfl
  have d0 := X2.out.db.cell 0 _ rfl
  have d1 := X2.out.db.cell 1 _ rfl
  have d2 := X2.out.db.cell 2 _ rfl
  have d3 := X2.out.db.cell 3 _ rfl
  have d4 := X2.out.db.cell 4 _ rfl
  have d5 := X2.out.db.cell 5 _ rfl
  have d6 := X2.out.db.cell 6 _ rfl
  have d7 := X2.out.db.cell 7 _ rfl
  have d8 := X2.out.db.cell 8 _ rfl
  have d9 := X2.out.db.cell 9 _ rfl
  have d10 := X2.out.db.cell 10 _ rfl
  have d11 := X2.out.db.cell 11 _ rfl
  have d12 := X2.out.db.cell 12 _ rfl
  have p0 := X2.out.pb.cell 0 _ rfl
  have p1 := X2.out.pb.cell 1 _ rfl
  have p2 := X2.out.pb.cell 2 _ rfl
  have p3 := X2.out.pb.cell 3 _ rfl
  have p4 := X2.out.pb.cell 4 _ rfl
  have p5 := X2.out.pb.cell 5 _ rfl
  have p6 := X2.out.pb.cell 6 _ rfl
  have p7 := X2.out.pb.cell 7 _ rfl
  have p8 := X2.out.pb.cell 8 _ rfl
  go_wp2_with fail
  refine (few_b o2 n2 s2 ks2 A2 c2 l2 _ HL.out.2 HF2 _ (HE.out.2.below X2.out.below)).mono ?_
  rintro e w3 ⟨rfl, hb⟩
  have X3 := Lib.hid (X2.out.next hb)
  clear hb X2 k0 k1 k2 k3 k4 k5 k6 k7 k8 k9 k10 k11 k12 d0 d1 d2 d3 d4 d5 d6 d7 d8 d9 d10 d11 d12 p0 p1 p2 p3 p4 p5 p6 p7 p8
  have k0 := X3.out.cb.cell 0 _ rfl
  have k1 := X3.out.cb.cell 1 _ rfl
  have k2 := X3.out.cb.cell 2 _ rfl
  have k3 := X3.out.cb.cell 3 _ rfl
  have k4 := X3.out.cb.cell 4 _ rfl
  have k5 := X3.out.cb.cell 5 _ rfl
  have k6 := X3.out.cb.cell 6 _ rfl
  have k7 := X3.out.cb.cell 7 _ rfl
  have k8 := X3.out.cb.cell 8 _ rfl
  have k9 := X3.out.cb.cell 9 _ rfl
  have k10 := X3.out.cb.cell 10 _ rfl
  have k11 := X3.out.cb.cell 11 _ rfl
  have k12 := X3.out.cb.cell 12 _ rfl
  have d0 := X3.out.db.cell 0 _ rfl
  have d1 := X3.out.db.cell 1 _ rfl
  have d2 := X3.out.db.cell 2 _ rfl
  have d3 := X3.out.db.cell 3 _ rfl
  have d4 := X3.out.db.cell 4 _ rfl
  have d5 := X3.out.db.cell 5 _ rfl
  have d6 := X3.out.db.cell 6 _ rfl
  have d7 := X3.out.db.cell 7 _ rfl
  have d8 := X3.out.db.cell 8 _ rfl
  have d9 := X3.out.db.cell 9 _ rfl
  have d10 := X3.out.db.cell 10 _ rfl
  have d11 := X3.out.db.cell 11 _ rfl
  have d12 := X3.out.db.cell 12 _ rfl
  have p0 := X3.out.pb.cell 0 _ rfl
  have p1 := X3.out.pb.cell 1 _ rfl
  have p2 := X3.out.pb.cell 2 _ rfl
  have p3 := X3.out.pb.cell 3 _ rfl
  have p4 := X3.out.pb.cell 4 _ rfl
  have p5 := X3.out.pb.cell 5 _ rfl
  have p6 := X3.out.pb.cell 6 _ rfl
  have p7 := X3.out.pb.cell 7 _ rfl
  have p8 := X3.out.pb.cell 8 _ rfl
  go_wp2_with fail
  refine (rcheckC_b C _ HR1 _).mono ?_
  rintro e w4 ⟨rfl, hb⟩
  have X4 := Lib.hid (X3.out.next hb)
  clear hb X3 k0 k1 k2 k3 k4 k5 k6 k7 k8 k9 k10 k11 k12 d0 d1 d2 d3 d4 d5 d6 d7 d8 d9 d10 d11 d12 p0 p1 p2 p3 p4 p5 p6 p7 p8
  have k0 := X4.out.cb.cell 0 _ rfl
  have k1 := X4.out.cb.cell 1 _ rfl
  have k2 := X4.out.cb.cell 2 _ rfl
  have k3 := X4.out.cb.cell 3 _ rfl
  have k4 := X4.out.cb.cell 4 _ rfl
  have k5 := X4.out.cb.cell 5 _ rfl
  have k6 := X4.out.cb.cell 6 _ rfl
  have k7 := X4.out.cb.cell 7 _ rfl
  have k8 := X4.out.cb.cell 8 _ rfl
  have k9 := X4.out.cb.cell 9 _ rfl
  have k10 := X4.out.cb.cell 10 _ rfl
  have k11 := X4.out.cb.cell 11 _ rfl
  have k12 := X4.out.cb.cell 12 _ rfl
  have d0 := X4.out.db.cell 0 _ rfl
  have d1 := X4.out.db.cell 1 _ rfl
  have d2 := X4.out.db.cell 2 _ rfl
  have d3 := X4.out.db.cell 3 _ rfl
  have d4 := X4.out.db.cell 4 _ rfl
  have d5 := X4.out.db.cell 5 _ rfl
  have d6 := X4.out.db.cell 6 _ rfl
  have d7 := X4.out.db.cell 7 _ rfl
  have d8 := X4.out.db.cell 8 _ rfl
  have d9 := X4.out.db.cell 9 _ rfl
  have d10 := X4.out.db.cell 10 _ rfl
  have d11 := X4.out.db.cell 11 _ rfl
  have d12 := X4.out.db.cell 12 _ rfl
  have p0 := X4.out.pb.cell 0 _ rfl
  have p1 := X4.out.pb.cell 1 _ rfl
  have p2 := X4.out.pb.cell 2 _ rfl
  have p3 := X4.out.pb.cell 3 _ rfl
  have p4 := X4.out.pb.cell 4 _ rfl
  have p5 := X4.out.pb.cell 5 _ rfl
  have p6 := X4.out.pb.cell 6 _ rfl
  have p7 := X4.out.pb.cell 7 _ rfl
  have p8 := X4.out.pb.cell 8 _ rfl
  go_wp2_with fail
  refine (rcheckC_b D _ HR2 _).mono ?_
  rintro e w5 ⟨rfl, hb⟩
  have X5 := Lib.hid (X4.out.next hb)
  clear hb X4 k0 k1 k2 k3 k4 k5 k6 k7 k8 k9 k10 k11 k12 d0 d1 d2 d3 d4 d5 d6 d7 d8 d9 d10 d11 d12 p0 p1 p2 p3 p4 p5 p6 p7 p8
  go_wp2_with fail
  go_ret
  exact ⟨rfl, X5.out.below⟩

set_option maxRecDepth 100000 in
set_option maxHeartbeats 20000000 in
theorem adds_5 (C D : CM) (o n : Int) (s : ByteArray) (ks : List ET) (A : Option Addr) (c l : Nat) (o2 n2 : Int) (s2 : ByteArray) (ks2 : List ET) (A2 : Option Addr) (c2 l2 : Nat) (z : Int) (w : World) (hm : ML w) (hl : ks.length = l) (hE : EOk w s A c ks) (hl2 : ks2.length = l2) (hE2 : EOk w s2 A2 c2 ks2) (HF1 : Hid (decide (0 ≤ ET.left (.mk o n s ks) 300) = true)) (HF2 : Hid (decide (0 ≤ ET.left (.mk o2 n2 s2 ks2) 300) = true)) (HR1 : Hid (C.chk = 0)) (HR2 : Hid (D.chk = 0)) (E : CM) (HEE : Hid (C.add D = E)) (HOC : Hid (C.ok ∧ D.ok)) (HR3 : Hid (E.chk = 3)) :
    Calls Try.prog 5 #[.agg #[.int .i64 C.c0, .int .i64 C.c1, .int .i64 C.c2, .int .i64 C.c3, .int .i64 C.c4, .int .i64 C.c5, .int .i64 C.c6, .int .i64 C.c7, .int .i64 C.c8, .int .i64 C.c9, .int .i64 C.c10, .int .i64 C.c11, .int .i64 C.c12], .agg #[.int .i64 D.c0, .int .i64 D.c1, .int .i64 D.c2, .int .i64 D.c3, .int .i64 D.c4, .int .i64 D.c5, .int .i64 D.c6, .int .i64 D.c7, .int .i64 D.c8, .int .i64 D.c9, .int .i64 D.c10, .int .i64 D.c11, .int .i64 D.c12], .agg #[.int .i64 o, .int .i64 n, .string s, .slice A l c, .int .i64 o2, .int .i64 n2, .string s2, .slice A2 l2 c2, .int .i64 z]] w fun e w' => e = .returned (.bool true) ∧ Below w.heap.size w w' := by
  have HE := Lib.hid (And.intro hE hE2)
  have HL := Lib.hid (And.intro hl hl2)
  have HML := Lib.hid hm
  have X0 := Lib.hid (b3 w C D #[.int .i64 o, .int .i64 n, .string s, .slice A l c, .int .i64 o2, .int .i64 n2, .string s2, .slice A2 l2 c2, .int .i64 z] 23 23 37)
  clear hE hl hm hE2 hl2
  go_enter Try.func5, Try.ntmps5
  go_wp2_with fail
  refine (known_t _ (HML.out.below HML.out.pos X0.out.below)).mono ?_
  rintro e w1 ⟨rfl, hb⟩
  have X1 := Lib.hid (X0.out.next hb)
  clear hb X0
  have k0 := X1.out.cb.cell 0 _ rfl
  have k1 := X1.out.cb.cell 1 _ rfl
  have k2 := X1.out.cb.cell 2 _ rfl
  have k3 := X1.out.cb.cell 3 _ rfl
  have k4 := X1.out.cb.cell 4 _ rfl
  have k5 := X1.out.cb.cell 5 _ rfl
  have k6 := X1.out.cb.cell 6 _ rfl
  have k7 := X1.out.cb.cell 7 _ rfl
  have k8 := X1.out.cb.cell 8 _ rfl
  have k9 := X1.out.cb.cell 9 _ rfl
  have k10 := X1.out.cb.cell 10 _ rfl
  have k11 := X1.out.cb.cell 11 _ rfl
  have k12 := X1.out.cb.cell 12 _ rfl
  have d0 := X1.out.db.cell 0 _ rfl
  have d1 := X1.out.db.cell 1 _ rfl
  have d2 := X1.out.db.cell 2 _ rfl
  have d3 := X1.out.db.cell 3 _ rfl
  have d4 := X1.out.db.cell 4 _ rfl
  have d5 := X1.out.db.cell 5 _ rfl
  have d6 := X1.out.db.cell 6 _ rfl
  have d7 := X1.out.db.cell 7 _ rfl
  have d8 := X1.out.db.cell 8 _ rfl
  have d9 := X1.out.db.cell 9 _ rfl
  have d10 := X1.out.db.cell 10 _ rfl
  have d11 := X1.out.db.cell 11 _ rfl
  have d12 := X1.out.db.cell 12 _ rfl
  have p0 := X1.out.pb.cell 0 _ rfl
  have p1 := X1.out.pb.cell 1 _ rfl
  have p2 := X1.out.pb.cell 2 _ rfl
  have p3 := X1.out.pb.cell 3 _ rfl
  have p4 := X1.out.pb.cell 4 _ rfl
  have p5 := X1.out.pb.cell 5 _ rfl
  have p6 := X1.out.pb.cell 6 _ rfl
  have p7 := X1.out.pb.cell 7 _ rfl
  have p8 := X1.out.pb.cell 8 _ rfl
  go_wp2_with fail
  refine (few_b o n s ks A c l _ HL.out.1 HF1 _ (HE.out.1.below X1.out.below)).mono ?_
  rintro e w2 ⟨rfl, hb⟩
  have X2 := Lib.hid (X1.out.next hb)
  clear hb X1 k0 k1 k2 k3 k4 k5 k6 k7 k8 k9 k10 k11 k12 d0 d1 d2 d3 d4 d5 d6 d7 d8 d9 d10 d11 d12 p0 p1 p2 p3 p4 p5 p6 p7 p8
  have k0 := X2.out.cb.cell 0 _ rfl
  have k1 := X2.out.cb.cell 1 _ rfl
  have k2 := X2.out.cb.cell 2 _ rfl
  have k3 := X2.out.cb.cell 3 _ rfl
  have k4 := X2.out.cb.cell 4 _ rfl
  have k5 := X2.out.cb.cell 5 _ rfl
  have k6 := X2.out.cb.cell 6 _ rfl
  have k7 := X2.out.cb.cell 7 _ rfl
  have k8 := X2.out.cb.cell 8 _ rfl
  have k9 := X2.out.cb.cell 9 _ rfl
  have k10 := X2.out.cb.cell 10 _ rfl
  have k11 := X2.out.cb.cell 11 _ rfl
  have k12 := X2.out.cb.cell 12 _ rfl
  have d0 := X2.out.db.cell 0 _ rfl
  have d1 := X2.out.db.cell 1 _ rfl
  have d2 := X2.out.db.cell 2 _ rfl
  have d3 := X2.out.db.cell 3 _ rfl
  have d4 := X2.out.db.cell 4 _ rfl
  have d5 := X2.out.db.cell 5 _ rfl
  have d6 := X2.out.db.cell 6 _ rfl
  have d7 := X2.out.db.cell 7 _ rfl
  have d8 := X2.out.db.cell 8 _ rfl
  have d9 := X2.out.db.cell 9 _ rfl
  have d10 := X2.out.db.cell 10 _ rfl
  have d11 := X2.out.db.cell 11 _ rfl
  have d12 := X2.out.db.cell 12 _ rfl
  have p0 := X2.out.pb.cell 0 _ rfl
  have p1 := X2.out.pb.cell 1 _ rfl
  have p2 := X2.out.pb.cell 2 _ rfl
  have p3 := X2.out.pb.cell 3 _ rfl
  have p4 := X2.out.pb.cell 4 _ rfl
  have p5 := X2.out.pb.cell 5 _ rfl
  have p6 := X2.out.pb.cell 6 _ rfl
  have p7 := X2.out.pb.cell 7 _ rfl
  have p8 := X2.out.pb.cell 8 _ rfl
  go_wp2_with fail
  refine (few_b o2 n2 s2 ks2 A2 c2 l2 _ HL.out.2 HF2 _ (HE.out.2.below X2.out.below)).mono ?_
  rintro e w3 ⟨rfl, hb⟩
  have X3 := Lib.hid (X2.out.next hb)
  clear hb X2 k0 k1 k2 k3 k4 k5 k6 k7 k8 k9 k10 k11 k12 d0 d1 d2 d3 d4 d5 d6 d7 d8 d9 d10 d11 d12 p0 p1 p2 p3 p4 p5 p6 p7 p8
  have k0 := X3.out.cb.cell 0 _ rfl
  have k1 := X3.out.cb.cell 1 _ rfl
  have k2 := X3.out.cb.cell 2 _ rfl
  have k3 := X3.out.cb.cell 3 _ rfl
  have k4 := X3.out.cb.cell 4 _ rfl
  have k5 := X3.out.cb.cell 5 _ rfl
  have k6 := X3.out.cb.cell 6 _ rfl
  have k7 := X3.out.cb.cell 7 _ rfl
  have k8 := X3.out.cb.cell 8 _ rfl
  have k9 := X3.out.cb.cell 9 _ rfl
  have k10 := X3.out.cb.cell 10 _ rfl
  have k11 := X3.out.cb.cell 11 _ rfl
  have k12 := X3.out.cb.cell 12 _ rfl
  have d0 := X3.out.db.cell 0 _ rfl
  have d1 := X3.out.db.cell 1 _ rfl
  have d2 := X3.out.db.cell 2 _ rfl
  have d3 := X3.out.db.cell 3 _ rfl
  have d4 := X3.out.db.cell 4 _ rfl
  have d5 := X3.out.db.cell 5 _ rfl
  have d6 := X3.out.db.cell 6 _ rfl
  have d7 := X3.out.db.cell 7 _ rfl
  have d8 := X3.out.db.cell 8 _ rfl
  have d9 := X3.out.db.cell 9 _ rfl
  have d10 := X3.out.db.cell 10 _ rfl
  have d11 := X3.out.db.cell 11 _ rfl
  have d12 := X3.out.db.cell 12 _ rfl
  have p0 := X3.out.pb.cell 0 _ rfl
  have p1 := X3.out.pb.cell 1 _ rfl
  have p2 := X3.out.pb.cell 2 _ rfl
  have p3 := X3.out.pb.cell 3 _ rfl
  have p4 := X3.out.pb.cell 4 _ rfl
  have p5 := X3.out.pb.cell 5 _ rfl
  have p6 := X3.out.pb.cell 6 _ rfl
  have p7 := X3.out.pb.cell 7 _ rfl
  have p8 := X3.out.pb.cell 8 _ rfl
  go_wp2_with fail
  refine (rcheckC_b C _ HR1 _).mono ?_
  rintro e w4 ⟨rfl, hb⟩
  have X4 := Lib.hid (X3.out.next hb)
  clear hb X3 k0 k1 k2 k3 k4 k5 k6 k7 k8 k9 k10 k11 k12 d0 d1 d2 d3 d4 d5 d6 d7 d8 d9 d10 d11 d12 p0 p1 p2 p3 p4 p5 p6 p7 p8
  have k0 := X4.out.cb.cell 0 _ rfl
  have k1 := X4.out.cb.cell 1 _ rfl
  have k2 := X4.out.cb.cell 2 _ rfl
  have k3 := X4.out.cb.cell 3 _ rfl
  have k4 := X4.out.cb.cell 4 _ rfl
  have k5 := X4.out.cb.cell 5 _ rfl
  have k6 := X4.out.cb.cell 6 _ rfl
  have k7 := X4.out.cb.cell 7 _ rfl
  have k8 := X4.out.cb.cell 8 _ rfl
  have k9 := X4.out.cb.cell 9 _ rfl
  have k10 := X4.out.cb.cell 10 _ rfl
  have k11 := X4.out.cb.cell 11 _ rfl
  have k12 := X4.out.cb.cell 12 _ rfl
  have d0 := X4.out.db.cell 0 _ rfl
  have d1 := X4.out.db.cell 1 _ rfl
  have d2 := X4.out.db.cell 2 _ rfl
  have d3 := X4.out.db.cell 3 _ rfl
  have d4 := X4.out.db.cell 4 _ rfl
  have d5 := X4.out.db.cell 5 _ rfl
  have d6 := X4.out.db.cell 6 _ rfl
  have d7 := X4.out.db.cell 7 _ rfl
  have d8 := X4.out.db.cell 8 _ rfl
  have d9 := X4.out.db.cell 9 _ rfl
  have d10 := X4.out.db.cell 10 _ rfl
  have d11 := X4.out.db.cell 11 _ rfl
  have d12 := X4.out.db.cell 12 _ rfl
  have p0 := X4.out.pb.cell 0 _ rfl
  have p1 := X4.out.pb.cell 1 _ rfl
  have p2 := X4.out.pb.cell 2 _ rfl
  have p3 := X4.out.pb.cell 3 _ rfl
  have p4 := X4.out.pb.cell 4 _ rfl
  have p5 := X4.out.pb.cell 5 _ rfl
  have p6 := X4.out.pb.cell 6 _ rfl
  have p7 := X4.out.pb.cell 7 _ rfl
  have p8 := X4.out.pb.cell 8 _ rfl
  go_wp2_with fail
  refine (rcheckC_b D _ HR2 _).mono ?_
  rintro e w5 ⟨rfl, hb⟩
  have X5 := Lib.hid (X4.out.next hb)
  clear hb X4 k0 k1 k2 k3 k4 k5 k6 k7 k8 k9 k10 k11 k12 d0 d1 d2 d3 d4 d5 d6 d7 d8 d9 d10 d11 d12 p0 p1 p2 p3 p4 p5 p6 p7 p8
  have k0 := X5.out.cb.cell 0 _ rfl
  have k1 := X5.out.cb.cell 1 _ rfl
  have k2 := X5.out.cb.cell 2 _ rfl
  have k3 := X5.out.cb.cell 3 _ rfl
  have k4 := X5.out.cb.cell 4 _ rfl
  have k5 := X5.out.cb.cell 5 _ rfl
  have k6 := X5.out.cb.cell 6 _ rfl
  have k7 := X5.out.cb.cell 7 _ rfl
  have k8 := X5.out.cb.cell 8 _ rfl
  have k9 := X5.out.cb.cell 9 _ rfl
  have k10 := X5.out.cb.cell 10 _ rfl
  have k11 := X5.out.cb.cell 11 _ rfl
  have k12 := X5.out.cb.cell 12 _ rfl
  have d0 := X5.out.db.cell 0 _ rfl
  have d1 := X5.out.db.cell 1 _ rfl
  have d2 := X5.out.db.cell 2 _ rfl
  have d3 := X5.out.db.cell 3 _ rfl
  have d4 := X5.out.db.cell 4 _ rfl
  have d5 := X5.out.db.cell 5 _ rfl
  have d6 := X5.out.db.cell 6 _ rfl
  have d7 := X5.out.db.cell 7 _ rfl
  have d8 := X5.out.db.cell 8 _ rfl
  have d9 := X5.out.db.cell 9 _ rfl
  have d10 := X5.out.db.cell 10 _ rfl
  have d11 := X5.out.db.cell 11 _ rfl
  have d12 := X5.out.db.cell 12 _ rfl
  have p0 := X5.out.pb.cell 0 _ rfl
  have p1 := X5.out.pb.cell 1 _ rfl
  have p2 := X5.out.pb.cell 2 _ rfl
  have p3 := X5.out.pb.cell 3 _ rfl
  have p4 := X5.out.pb.cell 4 _ rfl
  have p5 := X5.out.pb.cell 5 _ rfl
  have p6 := X5.out.pb.cell 6 _ rfl
  have p7 := X5.out.pb.cell 7 _ rfl
  have p8 := X5.out.pb.cell 8 _ rfl
  go_wp2_with fail
  refine (lsum_b C D E HOC.out.1 HOC.out.2 HEE _).mono ?_
  rintro e w6 ⟨rfl, hb⟩
  have X6 := Lib.hid (X5.out.next hb)
  clear hb X5 k0 k1 k2 k3 k4 k5 k6 k7 k8 k9 k10 k11 k12 d0 d1 d2 d3 d4 d5 d6 d7 d8 d9 d10 d11 d12 p0 p1 p2 p3 p4 p5 p6 p7 p8
  have k0 := X6.out.cb.cell 0 _ rfl
  have k1 := X6.out.cb.cell 1 _ rfl
  have k2 := X6.out.cb.cell 2 _ rfl
  have k3 := X6.out.cb.cell 3 _ rfl
  have k4 := X6.out.cb.cell 4 _ rfl
  have k5 := X6.out.cb.cell 5 _ rfl
  have k6 := X6.out.cb.cell 6 _ rfl
  have k7 := X6.out.cb.cell 7 _ rfl
  have k8 := X6.out.cb.cell 8 _ rfl
  have k9 := X6.out.cb.cell 9 _ rfl
  have k10 := X6.out.cb.cell 10 _ rfl
  have k11 := X6.out.cb.cell 11 _ rfl
  have k12 := X6.out.cb.cell 12 _ rfl
  have d0 := X6.out.db.cell 0 _ rfl
  have d1 := X6.out.db.cell 1 _ rfl
  have d2 := X6.out.db.cell 2 _ rfl
  have d3 := X6.out.db.cell 3 _ rfl
  have d4 := X6.out.db.cell 4 _ rfl
  have d5 := X6.out.db.cell 5 _ rfl
  have d6 := X6.out.db.cell 6 _ rfl
  have d7 := X6.out.db.cell 7 _ rfl
  have d8 := X6.out.db.cell 8 _ rfl
  have d9 := X6.out.db.cell 9 _ rfl
  have d10 := X6.out.db.cell 10 _ rfl
  have d11 := X6.out.db.cell 11 _ rfl
  have d12 := X6.out.db.cell 12 _ rfl
  have p0 := X6.out.pb.cell 0 _ rfl
  have p1 := X6.out.pb.cell 1 _ rfl
  have p2 := X6.out.pb.cell 2 _ rfl
  have p3 := X6.out.pb.cell 3 _ rfl
  have p4 := X6.out.pb.cell 4 _ rfl
  have p5 := X6.out.pb.cell 5 _ rfl
  have p6 := X6.out.pb.cell 6 _ rfl
  have p7 := X6.out.pb.cell 7 _ rfl
  have p8 := X6.out.pb.cell 8 _ rfl
  go_wp2_with fail
  refine (rcheckC_b E _ HR3 _).mono ?_
  rintro e w7 ⟨rfl, hb⟩
  have X7 := Lib.hid (X6.out.next hb)
  clear hb X6 k0 k1 k2 k3 k4 k5 k6 k7 k8 k9 k10 k11 k12 d0 d1 d2 d3 d4 d5 d6 d7 d8 d9 d10 d11 d12 p0 p1 p2 p3 p4 p5 p6 p7 p8
  go_wp2_with fail
  go_ret
  exact ⟨rfl, X7.out.below⟩

set_option maxRecDepth 100000 in
set_option maxHeartbeats 20000000 in
theorem adds_6 (C D : CM) (o n : Int) (s : ByteArray) (ks : List ET) (A : Option Addr) (c l : Nat) (o2 n2 : Int) (s2 : ByteArray) (ks2 : List ET) (A2 : Option Addr) (c2 l2 : Nat) (z : Int) (w : World) (hm : ML w) (hl : ks.length = l) (hE : EOk w s A c ks) (hl2 : ks2.length = l2) (hE2 : EOk w s2 A2 c2 ks2) (HF1 : Hid (decide (0 ≤ ET.left (.mk o n s ks) 300) = true)) (HF2 : Hid (decide (0 ≤ ET.left (.mk o2 n2 s2 ks2) 300) = true)) (HR1 : Hid (C.chk = 0)) (HR2 : Hid (D.chk = 0)) (E : CM) (HEE : Hid (C.add D = E)) (HOC : Hid (C.ok ∧ D.ok)) (HR3 : Hid (E.chk = 0)) (HC : Hid (ET.cnt (.mk o n s ks) ≤ 1000000 ∧ ET.dep (.mk o n s ks) ≤ 1000000 ∧ ET.cnt (.mk o2 n2 s2 ks2) ≤ 1000000 ∧ ET.dep (.mk o2 n2 s2 ks2) ≤ 1000000)) (a b x y i : Int) (H1 : Hid (C.setR (.mk o n s ks) (.mk o2 n2 s2 ks2) z = (a, 0))) (H2 : Hid (D.setR (.mk o n s ks) (.mk o2 n2 s2 ks2) z = (b, 0))) (H3 : Hid (E.setR (.mk o n s ks) (.mk o2 n2 s2 ks2) z = (a + b, 0))) (H4 : Hid (C.plusR C.c1 (.mk o2 n2 s2 ks2) = (x, i))) (H5 : Hid (D.plusR D.c1 (.mk o2 n2 s2 ks2) = (y, i))) (H6 : Hid (E.plusR E.c1 (.mk o2 n2 s2 ks2) = (x + y, i))) (hnn : a ≤ a + b) (ra0 : 0 ≤ a) (ra1 : a ≤ 1000000000) (rb1 : b ≤ 1000000000) (rx0 : 0 ≤ x) (rx1 : x ≤ 1000000000) (ry0 : 0 ≤ y) (ry1 : y ≤ 1000000000) :
    Calls Try.prog 5 #[.agg #[.int .i64 C.c0, .int .i64 C.c1, .int .i64 C.c2, .int .i64 C.c3, .int .i64 C.c4, .int .i64 C.c5, .int .i64 C.c6, .int .i64 C.c7, .int .i64 C.c8, .int .i64 C.c9, .int .i64 C.c10, .int .i64 C.c11, .int .i64 C.c12], .agg #[.int .i64 D.c0, .int .i64 D.c1, .int .i64 D.c2, .int .i64 D.c3, .int .i64 D.c4, .int .i64 D.c5, .int .i64 D.c6, .int .i64 D.c7, .int .i64 D.c8, .int .i64 D.c9, .int .i64 D.c10, .int .i64 D.c11, .int .i64 D.c12], .agg #[.int .i64 o, .int .i64 n, .string s, .slice A l c, .int .i64 o2, .int .i64 n2, .string s2, .slice A2 l2 c2, .int .i64 z]] w fun e w' => e = .returned (.bool true) ∧ Below w.heap.size w w' := by
  have HE := Lib.hid (And.intro hE hE2)
  have HL := Lib.hid (And.intro hl hl2)
  have HML := Lib.hid hm
  have X0 := Lib.hid (b3 w C D #[.int .i64 o, .int .i64 n, .string s, .slice A l c, .int .i64 o2, .int .i64 n2, .string s2, .slice A2 l2 c2, .int .i64 z] 23 23 37)
  clear hE hl hm hE2 hl2
  go_enter Try.func5, Try.ntmps5
  go_wp2_with fail
  refine (known_t _ (HML.out.below HML.out.pos X0.out.below)).mono ?_
  rintro e w1 ⟨rfl, hb⟩
  have X1 := Lib.hid (X0.out.next hb)
  clear hb X0
  have k0 := X1.out.cb.cell 0 _ rfl
  have k1 := X1.out.cb.cell 1 _ rfl
  have k2 := X1.out.cb.cell 2 _ rfl
  have k3 := X1.out.cb.cell 3 _ rfl
  have k4 := X1.out.cb.cell 4 _ rfl
  have k5 := X1.out.cb.cell 5 _ rfl
  have k6 := X1.out.cb.cell 6 _ rfl
  have k7 := X1.out.cb.cell 7 _ rfl
  have k8 := X1.out.cb.cell 8 _ rfl
  have k9 := X1.out.cb.cell 9 _ rfl
  have k10 := X1.out.cb.cell 10 _ rfl
  have k11 := X1.out.cb.cell 11 _ rfl
  have k12 := X1.out.cb.cell 12 _ rfl
  have d0 := X1.out.db.cell 0 _ rfl
  have d1 := X1.out.db.cell 1 _ rfl
  have d2 := X1.out.db.cell 2 _ rfl
  have d3 := X1.out.db.cell 3 _ rfl
  have d4 := X1.out.db.cell 4 _ rfl
  have d5 := X1.out.db.cell 5 _ rfl
  have d6 := X1.out.db.cell 6 _ rfl
  have d7 := X1.out.db.cell 7 _ rfl
  have d8 := X1.out.db.cell 8 _ rfl
  have d9 := X1.out.db.cell 9 _ rfl
  have d10 := X1.out.db.cell 10 _ rfl
  have d11 := X1.out.db.cell 11 _ rfl
  have d12 := X1.out.db.cell 12 _ rfl
  have p0 := X1.out.pb.cell 0 _ rfl
  have p1 := X1.out.pb.cell 1 _ rfl
  have p2 := X1.out.pb.cell 2 _ rfl
  have p3 := X1.out.pb.cell 3 _ rfl
  have p4 := X1.out.pb.cell 4 _ rfl
  have p5 := X1.out.pb.cell 5 _ rfl
  have p6 := X1.out.pb.cell 6 _ rfl
  have p7 := X1.out.pb.cell 7 _ rfl
  have p8 := X1.out.pb.cell 8 _ rfl
  go_wp2_with fail
  refine (few_b o n s ks A c l _ HL.out.1 HF1 _ (HE.out.1.below X1.out.below)).mono ?_
  rintro e w2 ⟨rfl, hb⟩
  have X2 := Lib.hid (X1.out.next hb)
  clear hb X1 k0 k1 k2 k3 k4 k5 k6 k7 k8 k9 k10 k11 k12 d0 d1 d2 d3 d4 d5 d6 d7 d8 d9 d10 d11 d12 p0 p1 p2 p3 p4 p5 p6 p7 p8
  have k0 := X2.out.cb.cell 0 _ rfl
  have k1 := X2.out.cb.cell 1 _ rfl
  have k2 := X2.out.cb.cell 2 _ rfl
  have k3 := X2.out.cb.cell 3 _ rfl
  have k4 := X2.out.cb.cell 4 _ rfl
  have k5 := X2.out.cb.cell 5 _ rfl
  have k6 := X2.out.cb.cell 6 _ rfl
  have k7 := X2.out.cb.cell 7 _ rfl
  have k8 := X2.out.cb.cell 8 _ rfl
  have k9 := X2.out.cb.cell 9 _ rfl
  have k10 := X2.out.cb.cell 10 _ rfl
  have k11 := X2.out.cb.cell 11 _ rfl
  have k12 := X2.out.cb.cell 12 _ rfl
  have d0 := X2.out.db.cell 0 _ rfl
  have d1 := X2.out.db.cell 1 _ rfl
  have d2 := X2.out.db.cell 2 _ rfl
  have d3 := X2.out.db.cell 3 _ rfl
  have d4 := X2.out.db.cell 4 _ rfl
  have d5 := X2.out.db.cell 5 _ rfl
  have d6 := X2.out.db.cell 6 _ rfl
  have d7 := X2.out.db.cell 7 _ rfl
  have d8 := X2.out.db.cell 8 _ rfl
  have d9 := X2.out.db.cell 9 _ rfl
  have d10 := X2.out.db.cell 10 _ rfl
  have d11 := X2.out.db.cell 11 _ rfl
  have d12 := X2.out.db.cell 12 _ rfl
  have p0 := X2.out.pb.cell 0 _ rfl
  have p1 := X2.out.pb.cell 1 _ rfl
  have p2 := X2.out.pb.cell 2 _ rfl
  have p3 := X2.out.pb.cell 3 _ rfl
  have p4 := X2.out.pb.cell 4 _ rfl
  have p5 := X2.out.pb.cell 5 _ rfl
  have p6 := X2.out.pb.cell 6 _ rfl
  have p7 := X2.out.pb.cell 7 _ rfl
  have p8 := X2.out.pb.cell 8 _ rfl
  go_wp2_with fail
  refine (few_b o2 n2 s2 ks2 A2 c2 l2 _ HL.out.2 HF2 _ (HE.out.2.below X2.out.below)).mono ?_
  rintro e w3 ⟨rfl, hb⟩
  have X3 := Lib.hid (X2.out.next hb)
  clear hb X2 k0 k1 k2 k3 k4 k5 k6 k7 k8 k9 k10 k11 k12 d0 d1 d2 d3 d4 d5 d6 d7 d8 d9 d10 d11 d12 p0 p1 p2 p3 p4 p5 p6 p7 p8
  have k0 := X3.out.cb.cell 0 _ rfl
  have k1 := X3.out.cb.cell 1 _ rfl
  have k2 := X3.out.cb.cell 2 _ rfl
  have k3 := X3.out.cb.cell 3 _ rfl
  have k4 := X3.out.cb.cell 4 _ rfl
  have k5 := X3.out.cb.cell 5 _ rfl
  have k6 := X3.out.cb.cell 6 _ rfl
  have k7 := X3.out.cb.cell 7 _ rfl
  have k8 := X3.out.cb.cell 8 _ rfl
  have k9 := X3.out.cb.cell 9 _ rfl
  have k10 := X3.out.cb.cell 10 _ rfl
  have k11 := X3.out.cb.cell 11 _ rfl
  have k12 := X3.out.cb.cell 12 _ rfl
  have d0 := X3.out.db.cell 0 _ rfl
  have d1 := X3.out.db.cell 1 _ rfl
  have d2 := X3.out.db.cell 2 _ rfl
  have d3 := X3.out.db.cell 3 _ rfl
  have d4 := X3.out.db.cell 4 _ rfl
  have d5 := X3.out.db.cell 5 _ rfl
  have d6 := X3.out.db.cell 6 _ rfl
  have d7 := X3.out.db.cell 7 _ rfl
  have d8 := X3.out.db.cell 8 _ rfl
  have d9 := X3.out.db.cell 9 _ rfl
  have d10 := X3.out.db.cell 10 _ rfl
  have d11 := X3.out.db.cell 11 _ rfl
  have d12 := X3.out.db.cell 12 _ rfl
  have p0 := X3.out.pb.cell 0 _ rfl
  have p1 := X3.out.pb.cell 1 _ rfl
  have p2 := X3.out.pb.cell 2 _ rfl
  have p3 := X3.out.pb.cell 3 _ rfl
  have p4 := X3.out.pb.cell 4 _ rfl
  have p5 := X3.out.pb.cell 5 _ rfl
  have p6 := X3.out.pb.cell 6 _ rfl
  have p7 := X3.out.pb.cell 7 _ rfl
  have p8 := X3.out.pb.cell 8 _ rfl
  go_wp2_with fail
  refine (rcheckC_b C _ HR1 _).mono ?_
  rintro e w4 ⟨rfl, hb⟩
  have X4 := Lib.hid (X3.out.next hb)
  clear hb X3 k0 k1 k2 k3 k4 k5 k6 k7 k8 k9 k10 k11 k12 d0 d1 d2 d3 d4 d5 d6 d7 d8 d9 d10 d11 d12 p0 p1 p2 p3 p4 p5 p6 p7 p8
  have k0 := X4.out.cb.cell 0 _ rfl
  have k1 := X4.out.cb.cell 1 _ rfl
  have k2 := X4.out.cb.cell 2 _ rfl
  have k3 := X4.out.cb.cell 3 _ rfl
  have k4 := X4.out.cb.cell 4 _ rfl
  have k5 := X4.out.cb.cell 5 _ rfl
  have k6 := X4.out.cb.cell 6 _ rfl
  have k7 := X4.out.cb.cell 7 _ rfl
  have k8 := X4.out.cb.cell 8 _ rfl
  have k9 := X4.out.cb.cell 9 _ rfl
  have k10 := X4.out.cb.cell 10 _ rfl
  have k11 := X4.out.cb.cell 11 _ rfl
  have k12 := X4.out.cb.cell 12 _ rfl
  have d0 := X4.out.db.cell 0 _ rfl
  have d1 := X4.out.db.cell 1 _ rfl
  have d2 := X4.out.db.cell 2 _ rfl
  have d3 := X4.out.db.cell 3 _ rfl
  have d4 := X4.out.db.cell 4 _ rfl
  have d5 := X4.out.db.cell 5 _ rfl
  have d6 := X4.out.db.cell 6 _ rfl
  have d7 := X4.out.db.cell 7 _ rfl
  have d8 := X4.out.db.cell 8 _ rfl
  have d9 := X4.out.db.cell 9 _ rfl
  have d10 := X4.out.db.cell 10 _ rfl
  have d11 := X4.out.db.cell 11 _ rfl
  have d12 := X4.out.db.cell 12 _ rfl
  have p0 := X4.out.pb.cell 0 _ rfl
  have p1 := X4.out.pb.cell 1 _ rfl
  have p2 := X4.out.pb.cell 2 _ rfl
  have p3 := X4.out.pb.cell 3 _ rfl
  have p4 := X4.out.pb.cell 4 _ rfl
  have p5 := X4.out.pb.cell 5 _ rfl
  have p6 := X4.out.pb.cell 6 _ rfl
  have p7 := X4.out.pb.cell 7 _ rfl
  have p8 := X4.out.pb.cell 8 _ rfl
  go_wp2_with fail
  refine (rcheckC_b D _ HR2 _).mono ?_
  rintro e w5 ⟨rfl, hb⟩
  have X5 := Lib.hid (X4.out.next hb)
  clear hb X4 k0 k1 k2 k3 k4 k5 k6 k7 k8 k9 k10 k11 k12 d0 d1 d2 d3 d4 d5 d6 d7 d8 d9 d10 d11 d12 p0 p1 p2 p3 p4 p5 p6 p7 p8
  have k0 := X5.out.cb.cell 0 _ rfl
  have k1 := X5.out.cb.cell 1 _ rfl
  have k2 := X5.out.cb.cell 2 _ rfl
  have k3 := X5.out.cb.cell 3 _ rfl
  have k4 := X5.out.cb.cell 4 _ rfl
  have k5 := X5.out.cb.cell 5 _ rfl
  have k6 := X5.out.cb.cell 6 _ rfl
  have k7 := X5.out.cb.cell 7 _ rfl
  have k8 := X5.out.cb.cell 8 _ rfl
  have k9 := X5.out.cb.cell 9 _ rfl
  have k10 := X5.out.cb.cell 10 _ rfl
  have k11 := X5.out.cb.cell 11 _ rfl
  have k12 := X5.out.cb.cell 12 _ rfl
  have d0 := X5.out.db.cell 0 _ rfl
  have d1 := X5.out.db.cell 1 _ rfl
  have d2 := X5.out.db.cell 2 _ rfl
  have d3 := X5.out.db.cell 3 _ rfl
  have d4 := X5.out.db.cell 4 _ rfl
  have d5 := X5.out.db.cell 5 _ rfl
  have d6 := X5.out.db.cell 6 _ rfl
  have d7 := X5.out.db.cell 7 _ rfl
  have d8 := X5.out.db.cell 8 _ rfl
  have d9 := X5.out.db.cell 9 _ rfl
  have d10 := X5.out.db.cell 10 _ rfl
  have d11 := X5.out.db.cell 11 _ rfl
  have d12 := X5.out.db.cell 12 _ rfl
  have p0 := X5.out.pb.cell 0 _ rfl
  have p1 := X5.out.pb.cell 1 _ rfl
  have p2 := X5.out.pb.cell 2 _ rfl
  have p3 := X5.out.pb.cell 3 _ rfl
  have p4 := X5.out.pb.cell 4 _ rfl
  have p5 := X5.out.pb.cell 5 _ rfl
  have p6 := X5.out.pb.cell 6 _ rfl
  have p7 := X5.out.pb.cell 7 _ rfl
  have p8 := X5.out.pb.cell 8 _ rfl
  go_wp2_with fail
  refine (lsum_b C D E HOC.out.1 HOC.out.2 HEE _).mono ?_
  rintro e w6 ⟨rfl, hb⟩
  have X6 := Lib.hid (X5.out.next hb)
  clear hb X5 k0 k1 k2 k3 k4 k5 k6 k7 k8 k9 k10 k11 k12 d0 d1 d2 d3 d4 d5 d6 d7 d8 d9 d10 d11 d12 p0 p1 p2 p3 p4 p5 p6 p7 p8
  have k0 := X6.out.cb.cell 0 _ rfl
  have k1 := X6.out.cb.cell 1 _ rfl
  have k2 := X6.out.cb.cell 2 _ rfl
  have k3 := X6.out.cb.cell 3 _ rfl
  have k4 := X6.out.cb.cell 4 _ rfl
  have k5 := X6.out.cb.cell 5 _ rfl
  have k6 := X6.out.cb.cell 6 _ rfl
  have k7 := X6.out.cb.cell 7 _ rfl
  have k8 := X6.out.cb.cell 8 _ rfl
  have k9 := X6.out.cb.cell 9 _ rfl
  have k10 := X6.out.cb.cell 10 _ rfl
  have k11 := X6.out.cb.cell 11 _ rfl
  have k12 := X6.out.cb.cell 12 _ rfl
  have d0 := X6.out.db.cell 0 _ rfl
  have d1 := X6.out.db.cell 1 _ rfl
  have d2 := X6.out.db.cell 2 _ rfl
  have d3 := X6.out.db.cell 3 _ rfl
  have d4 := X6.out.db.cell 4 _ rfl
  have d5 := X6.out.db.cell 5 _ rfl
  have d6 := X6.out.db.cell 6 _ rfl
  have d7 := X6.out.db.cell 7 _ rfl
  have d8 := X6.out.db.cell 8 _ rfl
  have d9 := X6.out.db.cell 9 _ rfl
  have d10 := X6.out.db.cell 10 _ rfl
  have d11 := X6.out.db.cell 11 _ rfl
  have d12 := X6.out.db.cell 12 _ rfl
  have p0 := X6.out.pb.cell 0 _ rfl
  have p1 := X6.out.pb.cell 1 _ rfl
  have p2 := X6.out.pb.cell 2 _ rfl
  have p3 := X6.out.pb.cell 3 _ rfl
  have p4 := X6.out.pb.cell 4 _ rfl
  have p5 := X6.out.pb.cell 5 _ rfl
  have p6 := X6.out.pb.cell 6 _ rfl
  have p7 := X6.out.pb.cell 7 _ rfl
  have p8 := X6.out.pb.cell 8 _ rfl
  go_wp2_with fail
  refine (rcheckC_b E _ HR3 _).mono ?_
  rintro e w7 ⟨rfl, hb⟩
  have X7 := Lib.hid (X6.out.next hb)
  clear hb X6 k0 k1 k2 k3 k4 k5 k6 k7 k8 k9 k10 k11 k12 d0 d1 d2 d3 d4 d5 d6 d7 d8 d9 d10 d11 d12 p0 p1 p2 p3 p4 p5 p6 p7 p8
  have k0 := X7.out.cb.cell 0 _ rfl
  have k1 := X7.out.cb.cell 1 _ rfl
  have k2 := X7.out.cb.cell 2 _ rfl
  have k3 := X7.out.cb.cell 3 _ rfl
  have k4 := X7.out.cb.cell 4 _ rfl
  have k5 := X7.out.cb.cell 5 _ rfl
  have k6 := X7.out.cb.cell 6 _ rfl
  have k7 := X7.out.cb.cell 7 _ rfl
  have k8 := X7.out.cb.cell 8 _ rfl
  have k9 := X7.out.cb.cell 9 _ rfl
  have k10 := X7.out.cb.cell 10 _ rfl
  have k11 := X7.out.cb.cell 11 _ rfl
  have k12 := X7.out.cb.cell 12 _ rfl
  have d0 := X7.out.db.cell 0 _ rfl
  have d1 := X7.out.db.cell 1 _ rfl
  have d2 := X7.out.db.cell 2 _ rfl
  have d3 := X7.out.db.cell 3 _ rfl
  have d4 := X7.out.db.cell 4 _ rfl
  have d5 := X7.out.db.cell 5 _ rfl
  have d6 := X7.out.db.cell 6 _ rfl
  have d7 := X7.out.db.cell 7 _ rfl
  have d8 := X7.out.db.cell 8 _ rfl
  have d9 := X7.out.db.cell 9 _ rfl
  have d10 := X7.out.db.cell 10 _ rfl
  have d11 := X7.out.db.cell 11 _ rfl
  have d12 := X7.out.db.cell 12 _ rfl
  have p0 := X7.out.pb.cell 0 _ rfl
  have p1 := X7.out.pb.cell 1 _ rfl
  have p2 := X7.out.pb.cell 2 _ rfl
  have p3 := X7.out.pb.cell 3 _ rfl
  have p4 := X7.out.pb.cell 4 _ rfl
  have p5 := X7.out.pb.cell 5 _ rfl
  have p6 := X7.out.pb.cell 6 _ rfl
  have p7 := X7.out.pb.cell 7 _ rfl
  have p8 := X7.out.pb.cell 8 _ rfl
  go_wp2_with fail
  refine (set_b C o n s ks A c l o2 n2 s2 ks2 A2 c2 l2 z a 0 _ (HML.out.below HML.out.pos X7.out.below) HL.out.1 HC.out.1 HC.out.2.1 (HE.out.1.below X7.out.below) HL.out.2 HC.out.2.2.1 HC.out.2.2.2 (HE.out.2.below X7.out.below) H1).mono ?_
  rintro e w8 ⟨rfl, hb⟩
  have X8 := Lib.hid (X7.out.next hb)
  clear hb X7 k0 k1 k2 k3 k4 k5 k6 k7 k8 k9 k10 k11 k12 d0 d1 d2 d3 d4 d5 d6 d7 d8 d9 d10 d11 d12 p0 p1 p2 p3 p4 p5 p6 p7 p8
  have k0 := X8.out.cb.cell 0 _ rfl
  have k1 := X8.out.cb.cell 1 _ rfl
  have k2 := X8.out.cb.cell 2 _ rfl
  have k3 := X8.out.cb.cell 3 _ rfl
  have k4 := X8.out.cb.cell 4 _ rfl
  have k5 := X8.out.cb.cell 5 _ rfl
  have k6 := X8.out.cb.cell 6 _ rfl
  have k7 := X8.out.cb.cell 7 _ rfl
  have k8 := X8.out.cb.cell 8 _ rfl
  have k9 := X8.out.cb.cell 9 _ rfl
  have k10 := X8.out.cb.cell 10 _ rfl
  have k11 := X8.out.cb.cell 11 _ rfl
  have k12 := X8.out.cb.cell 12 _ rfl
  have d0 := X8.out.db.cell 0 _ rfl
  have d1 := X8.out.db.cell 1 _ rfl
  have d2 := X8.out.db.cell 2 _ rfl
  have d3 := X8.out.db.cell 3 _ rfl
  have d4 := X8.out.db.cell 4 _ rfl
  have d5 := X8.out.db.cell 5 _ rfl
  have d6 := X8.out.db.cell 6 _ rfl
  have d7 := X8.out.db.cell 7 _ rfl
  have d8 := X8.out.db.cell 8 _ rfl
  have d9 := X8.out.db.cell 9 _ rfl
  have d10 := X8.out.db.cell 10 _ rfl
  have d11 := X8.out.db.cell 11 _ rfl
  have d12 := X8.out.db.cell 12 _ rfl
  have p0 := X8.out.pb.cell 0 _ rfl
  have p1 := X8.out.pb.cell 1 _ rfl
  have p2 := X8.out.pb.cell 2 _ rfl
  have p3 := X8.out.pb.cell 3 _ rfl
  have p4 := X8.out.pb.cell 4 _ rfl
  have p5 := X8.out.pb.cell 5 _ rfl
  have p6 := X8.out.pb.cell 6 _ rfl
  have p7 := X8.out.pb.cell 7 _ rfl
  have p8 := X8.out.pb.cell 8 _ rfl
  go_wp2_with fail
  refine (set_b D o n s ks A c l o2 n2 s2 ks2 A2 c2 l2 z b 0 _ (HML.out.below HML.out.pos X8.out.below) HL.out.1 HC.out.1 HC.out.2.1 (HE.out.1.below X8.out.below) HL.out.2 HC.out.2.2.1 HC.out.2.2.2 (HE.out.2.below X8.out.below) H2).mono ?_
  rintro e w9 ⟨rfl, hb⟩
  have X9 := Lib.hid (X8.out.next hb)
  clear hb X8 k0 k1 k2 k3 k4 k5 k6 k7 k8 k9 k10 k11 k12 d0 d1 d2 d3 d4 d5 d6 d7 d8 d9 d10 d11 d12 p0 p1 p2 p3 p4 p5 p6 p7 p8
  have k0 := X9.out.cb.cell 0 _ rfl
  have k1 := X9.out.cb.cell 1 _ rfl
  have k2 := X9.out.cb.cell 2 _ rfl
  have k3 := X9.out.cb.cell 3 _ rfl
  have k4 := X9.out.cb.cell 4 _ rfl
  have k5 := X9.out.cb.cell 5 _ rfl
  have k6 := X9.out.cb.cell 6 _ rfl
  have k7 := X9.out.cb.cell 7 _ rfl
  have k8 := X9.out.cb.cell 8 _ rfl
  have k9 := X9.out.cb.cell 9 _ rfl
  have k10 := X9.out.cb.cell 10 _ rfl
  have k11 := X9.out.cb.cell 11 _ rfl
  have k12 := X9.out.cb.cell 12 _ rfl
  have d0 := X9.out.db.cell 0 _ rfl
  have d1 := X9.out.db.cell 1 _ rfl
  have d2 := X9.out.db.cell 2 _ rfl
  have d3 := X9.out.db.cell 3 _ rfl
  have d4 := X9.out.db.cell 4 _ rfl
  have d5 := X9.out.db.cell 5 _ rfl
  have d6 := X9.out.db.cell 6 _ rfl
  have d7 := X9.out.db.cell 7 _ rfl
  have d8 := X9.out.db.cell 8 _ rfl
  have d9 := X9.out.db.cell 9 _ rfl
  have d10 := X9.out.db.cell 10 _ rfl
  have d11 := X9.out.db.cell 11 _ rfl
  have d12 := X9.out.db.cell 12 _ rfl
  have p0 := X9.out.pb.cell 0 _ rfl
  have p1 := X9.out.pb.cell 1 _ rfl
  have p2 := X9.out.pb.cell 2 _ rfl
  have p3 := X9.out.pb.cell 3 _ rfl
  have p4 := X9.out.pb.cell 4 _ rfl
  have p5 := X9.out.pb.cell 5 _ rfl
  have p6 := X9.out.pb.cell 6 _ rfl
  have p7 := X9.out.pb.cell 7 _ rfl
  have p8 := X9.out.pb.cell 8 _ rfl
  go_wp2_with fail
  go_region_held3 (fun W => W.cell? ⟨w.heap.size + 1 + 1, 0, none⟩ = some (.int .i64 o) ∧ W.cell? ⟨w.heap.size + 1 + 1, 1, none⟩ = some (.int .i64 n) ∧ W.cell? ⟨w.heap.size + 1 + 1, 2, none⟩ = some (.string s) ∧ W.cell? ⟨w.heap.size + 1 + 1, 3, none⟩ = some (.slice A l c) ∧ W.cell? ⟨w.heap.size + 1 + 1, 4, none⟩ = some (.int .i64 o2) ∧ W.cell? ⟨w.heap.size + 1 + 1, 5, none⟩ = some (.int .i64 n2) ∧ W.cell? ⟨w.heap.size + 1 + 1, 6, none⟩ = some (.string s2) ∧ W.cell? ⟨w.heap.size + 1 + 1, 7, none⟩ = some (.slice A2 l2 c2) ∧ W.cell? ⟨w.heap.size + 1 + 1, 8, none⟩ = some (.int .i64 z) ∧ W.cell? ⟨w.heap.size + 1, 0, none⟩ = some (.int .i64 D.c0) ∧ W.cell? ⟨w.heap.size + 1, 1, none⟩ = some (.int .i64 D.c1) ∧ W.cell? ⟨w.heap.size + 1, 2, none⟩ = some (.int .i64 D.c2) ∧ W.cell? ⟨w.heap.size + 1, 3, none⟩ = some (.int .i64 D.c3) ∧ W.cell? ⟨w.heap.size + 1, 4, none⟩ = some (.int .i64 D.c4) ∧ W.cell? ⟨w.heap.size + 1, 5, none⟩ = some (.int .i64 D.c5) ∧ W.cell? ⟨w.heap.size + 1, 6, none⟩ = some (.int .i64 D.c6) ∧ W.cell? ⟨w.heap.size + 1, 7, none⟩ = some (.int .i64 D.c7) ∧ W.cell? ⟨w.heap.size + 1, 8, none⟩ = some (.int .i64 D.c8) ∧ W.cell? ⟨w.heap.size + 1, 9, none⟩ = some (.int .i64 D.c9) ∧ W.cell? ⟨w.heap.size + 1, 10, none⟩ = some (.int .i64 D.c10) ∧ W.cell? ⟨w.heap.size + 1, 11, none⟩ = some (.int .i64 D.c11) ∧ W.cell? ⟨w.heap.size + 1, 12, none⟩ = some (.int .i64 D.c12) ∧ W.cell? ⟨w.heap.size, 0, none⟩ = some (.int .i64 C.c0) ∧ W.cell? ⟨w.heap.size, 1, none⟩ = some (.int .i64 C.c1) ∧ W.cell? ⟨w.heap.size, 2, none⟩ = some (.int .i64 C.c2) ∧ W.cell? ⟨w.heap.size, 3, none⟩ = some (.int .i64 C.c3) ∧ W.cell? ⟨w.heap.size, 4, none⟩ = some (.int .i64 C.c4) ∧ W.cell? ⟨w.heap.size, 5, none⟩ = some (.int .i64 C.c5) ∧ W.cell? ⟨w.heap.size, 6, none⟩ = some (.int .i64 C.c6) ∧ W.cell? ⟨w.heap.size, 7, none⟩ = some (.int .i64 C.c7) ∧ W.cell? ⟨w.heap.size, 8, none⟩ = some (.int .i64 C.c8) ∧ W.cell? ⟨w.heap.size, 9, none⟩ = some (.int .i64 C.c9) ∧ W.cell? ⟨w.heap.size, 10, none⟩ = some (.int .i64 C.c10) ∧ W.cell? ⟨w.heap.size, 11, none⟩ = some (.int .i64 C.c11) ∧ W.cell? ⟨w.heap.size, 12, none⟩ = some (.int .i64 C.c12)) (first | exact X9.out.drew.keep | exact Y1.out.keep | exact Y2.out.keep) (first
    | (go_at_call 16; refine (lsum_b C D E HOC.out.1 HOC.out.2 HEE _).mono ?_; rintro e v1 ⟨rfl, hb⟩; have Y1 := Lib.hid (X9.out.drew.next hb); clear hb)
    | (go_at_call 17; refine (set_b E o n s ks A c l o2 n2 s2 ks2 A2 c2 l2 z (a + b) 0 _ (HML.out.below HML.out.pos Y1.out.below) HL.out.1 HC.out.1 HC.out.2.1 (HE.out.1.below Y1.out.below) HL.out.2 HC.out.2.2.1 HC.out.2.2.2 (HE.out.2.below Y1.out.below) H3).mono ?_; rintro e v2 ⟨rfl, hb⟩; have Y2 := Lib.hid (Y1.out.next hb); clear hb))
  have X10 := Lib.hid Y2.out
  clear X9 Y1 Y2 k0 k1 k2 k3 k4 k5 k6 k7 k8 k9 k10 k11 k12 d0 d1 d2 d3 d4 d5 d6 d7 d8 d9 d10 d11 d12 p0 p1 p2 p3 p4 p5 p6 p7 p8
  have k0 := X10.out.cb.cell 0 _ rfl
  have k1 := X10.out.cb.cell 1 _ rfl
  have k2 := X10.out.cb.cell 2 _ rfl
  have k3 := X10.out.cb.cell 3 _ rfl
  have k4 := X10.out.cb.cell 4 _ rfl
  have k5 := X10.out.cb.cell 5 _ rfl
  have k6 := X10.out.cb.cell 6 _ rfl
  have k7 := X10.out.cb.cell 7 _ rfl
  have k8 := X10.out.cb.cell 8 _ rfl
  have k9 := X10.out.cb.cell 9 _ rfl
  have k10 := X10.out.cb.cell 10 _ rfl
  have k11 := X10.out.cb.cell 11 _ rfl
  have k12 := X10.out.cb.cell 12 _ rfl
  have d0 := X10.out.db.cell 0 _ rfl
  have d1 := X10.out.db.cell 1 _ rfl
  have d2 := X10.out.db.cell 2 _ rfl
  have d3 := X10.out.db.cell 3 _ rfl
  have d4 := X10.out.db.cell 4 _ rfl
  have d5 := X10.out.db.cell 5 _ rfl
  have d6 := X10.out.db.cell 6 _ rfl
  have d7 := X10.out.db.cell 7 _ rfl
  have d8 := X10.out.db.cell 8 _ rfl
  have d9 := X10.out.db.cell 9 _ rfl
  have d10 := X10.out.db.cell 10 _ rfl
  have d11 := X10.out.db.cell 11 _ rfl
  have d12 := X10.out.db.cell 12 _ rfl
  have p0 := X10.out.pb.cell 0 _ rfl
  have p1 := X10.out.pb.cell 1 _ rfl
  have p2 := X10.out.pb.cell 2 _ rfl
  have p3 := X10.out.pb.cell 3 _ rfl
  have p4 := X10.out.pb.cell 4 _ rfl
  have p5 := X10.out.pb.cell 5 _ rfl
  have p6 := X10.out.pb.cell 6 _ rfl
  have p7 := X10.out.pb.cell 7 _ rfl
  have p8 := X10.out.pb.cell 8 _ rfl
  go_wp2_with fail
  refine (ifc_b C o2 n2 s2 ks2 A2 c2 l2 x i _ (HML.out.below HML.out.pos X10.out.below) HL.out.2 HC.out.2.2.1 HC.out.2.2.2 (HE.out.2.below X10.out.below) H4).mono ?_
  rintro e w11 ⟨rfl, hb⟩
  have X11 := Lib.hid (X10.out.next hb)
  clear hb X10 k0 k1 k2 k3 k4 k5 k6 k7 k8 k9 k10 k11 k12 d0 d1 d2 d3 d4 d5 d6 d7 d8 d9 d10 d11 d12 p0 p1 p2 p3 p4 p5 p6 p7 p8
  have k0 := X11.out.cb.cell 0 _ rfl
  have k1 := X11.out.cb.cell 1 _ rfl
  have k2 := X11.out.cb.cell 2 _ rfl
  have k3 := X11.out.cb.cell 3 _ rfl
  have k4 := X11.out.cb.cell 4 _ rfl
  have k5 := X11.out.cb.cell 5 _ rfl
  have k6 := X11.out.cb.cell 6 _ rfl
  have k7 := X11.out.cb.cell 7 _ rfl
  have k8 := X11.out.cb.cell 8 _ rfl
  have k9 := X11.out.cb.cell 9 _ rfl
  have k10 := X11.out.cb.cell 10 _ rfl
  have k11 := X11.out.cb.cell 11 _ rfl
  have k12 := X11.out.cb.cell 12 _ rfl
  have d0 := X11.out.db.cell 0 _ rfl
  have d1 := X11.out.db.cell 1 _ rfl
  have d2 := X11.out.db.cell 2 _ rfl
  have d3 := X11.out.db.cell 3 _ rfl
  have d4 := X11.out.db.cell 4 _ rfl
  have d5 := X11.out.db.cell 5 _ rfl
  have d6 := X11.out.db.cell 6 _ rfl
  have d7 := X11.out.db.cell 7 _ rfl
  have d8 := X11.out.db.cell 8 _ rfl
  have d9 := X11.out.db.cell 9 _ rfl
  have d10 := X11.out.db.cell 10 _ rfl
  have d11 := X11.out.db.cell 11 _ rfl
  have d12 := X11.out.db.cell 12 _ rfl
  have p0 := X11.out.pb.cell 0 _ rfl
  have p1 := X11.out.pb.cell 1 _ rfl
  have p2 := X11.out.pb.cell 2 _ rfl
  have p3 := X11.out.pb.cell 3 _ rfl
  have p4 := X11.out.pb.cell 4 _ rfl
  have p5 := X11.out.pb.cell 5 _ rfl
  have p6 := X11.out.pb.cell 6 _ rfl
  have p7 := X11.out.pb.cell 7 _ rfl
  have p8 := X11.out.pb.cell 8 _ rfl
  go_wp2_with fail
  refine (ifc_b D o2 n2 s2 ks2 A2 c2 l2 y i _ (HML.out.below HML.out.pos X11.out.below) HL.out.2 HC.out.2.2.1 HC.out.2.2.2 (HE.out.2.below X11.out.below) H5).mono ?_
  rintro e w12 ⟨rfl, hb⟩
  have X12 := Lib.hid (X11.out.next hb)
  clear hb X11 k0 k1 k2 k3 k4 k5 k6 k7 k8 k9 k10 k11 k12 d0 d1 d2 d3 d4 d5 d6 d7 d8 d9 d10 d11 d12 p0 p1 p2 p3 p4 p5 p6 p7 p8
  have k0 := X12.out.cb.cell 0 _ rfl
  have k1 := X12.out.cb.cell 1 _ rfl
  have k2 := X12.out.cb.cell 2 _ rfl
  have k3 := X12.out.cb.cell 3 _ rfl
  have k4 := X12.out.cb.cell 4 _ rfl
  have k5 := X12.out.cb.cell 5 _ rfl
  have k6 := X12.out.cb.cell 6 _ rfl
  have k7 := X12.out.cb.cell 7 _ rfl
  have k8 := X12.out.cb.cell 8 _ rfl
  have k9 := X12.out.cb.cell 9 _ rfl
  have k10 := X12.out.cb.cell 10 _ rfl
  have k11 := X12.out.cb.cell 11 _ rfl
  have k12 := X12.out.cb.cell 12 _ rfl
  have d0 := X12.out.db.cell 0 _ rfl
  have d1 := X12.out.db.cell 1 _ rfl
  have d2 := X12.out.db.cell 2 _ rfl
  have d3 := X12.out.db.cell 3 _ rfl
  have d4 := X12.out.db.cell 4 _ rfl
  have d5 := X12.out.db.cell 5 _ rfl
  have d6 := X12.out.db.cell 6 _ rfl
  have d7 := X12.out.db.cell 7 _ rfl
  have d8 := X12.out.db.cell 8 _ rfl
  have d9 := X12.out.db.cell 9 _ rfl
  have d10 := X12.out.db.cell 10 _ rfl
  have d11 := X12.out.db.cell 11 _ rfl
  have d12 := X12.out.db.cell 12 _ rfl
  have p0 := X12.out.pb.cell 0 _ rfl
  have p1 := X12.out.pb.cell 1 _ rfl
  have p2 := X12.out.pb.cell 2 _ rfl
  have p3 := X12.out.pb.cell 3 _ rfl
  have p4 := X12.out.pb.cell 4 _ rfl
  have p5 := X12.out.pb.cell 5 _ rfl
  have p6 := X12.out.pb.cell 6 _ rfl
  have p7 := X12.out.pb.cell 7 _ rfl
  have p8 := X12.out.pb.cell 8 _ rfl
  go_wp2_with fail
  go_region_held3 (fun W => W.cell? ⟨w.heap.size + 1 + 1, 0, none⟩ = some (.int .i64 o) ∧ W.cell? ⟨w.heap.size + 1 + 1, 1, none⟩ = some (.int .i64 n) ∧ W.cell? ⟨w.heap.size + 1 + 1, 2, none⟩ = some (.string s) ∧ W.cell? ⟨w.heap.size + 1 + 1, 3, none⟩ = some (.slice A l c) ∧ W.cell? ⟨w.heap.size + 1 + 1, 4, none⟩ = some (.int .i64 o2) ∧ W.cell? ⟨w.heap.size + 1 + 1, 5, none⟩ = some (.int .i64 n2) ∧ W.cell? ⟨w.heap.size + 1 + 1, 6, none⟩ = some (.string s2) ∧ W.cell? ⟨w.heap.size + 1 + 1, 7, none⟩ = some (.slice A2 l2 c2) ∧ W.cell? ⟨w.heap.size + 1 + 1, 8, none⟩ = some (.int .i64 z) ∧ W.cell? ⟨w.heap.size + 1, 0, none⟩ = some (.int .i64 D.c0) ∧ W.cell? ⟨w.heap.size + 1, 1, none⟩ = some (.int .i64 D.c1) ∧ W.cell? ⟨w.heap.size + 1, 2, none⟩ = some (.int .i64 D.c2) ∧ W.cell? ⟨w.heap.size + 1, 3, none⟩ = some (.int .i64 D.c3) ∧ W.cell? ⟨w.heap.size + 1, 4, none⟩ = some (.int .i64 D.c4) ∧ W.cell? ⟨w.heap.size + 1, 5, none⟩ = some (.int .i64 D.c5) ∧ W.cell? ⟨w.heap.size + 1, 6, none⟩ = some (.int .i64 D.c6) ∧ W.cell? ⟨w.heap.size + 1, 7, none⟩ = some (.int .i64 D.c7) ∧ W.cell? ⟨w.heap.size + 1, 8, none⟩ = some (.int .i64 D.c8) ∧ W.cell? ⟨w.heap.size + 1, 9, none⟩ = some (.int .i64 D.c9) ∧ W.cell? ⟨w.heap.size + 1, 10, none⟩ = some (.int .i64 D.c10) ∧ W.cell? ⟨w.heap.size + 1, 11, none⟩ = some (.int .i64 D.c11) ∧ W.cell? ⟨w.heap.size + 1, 12, none⟩ = some (.int .i64 D.c12) ∧ W.cell? ⟨w.heap.size, 0, none⟩ = some (.int .i64 C.c0) ∧ W.cell? ⟨w.heap.size, 1, none⟩ = some (.int .i64 C.c1) ∧ W.cell? ⟨w.heap.size, 2, none⟩ = some (.int .i64 C.c2) ∧ W.cell? ⟨w.heap.size, 3, none⟩ = some (.int .i64 C.c3) ∧ W.cell? ⟨w.heap.size, 4, none⟩ = some (.int .i64 C.c4) ∧ W.cell? ⟨w.heap.size, 5, none⟩ = some (.int .i64 C.c5) ∧ W.cell? ⟨w.heap.size, 6, none⟩ = some (.int .i64 C.c6) ∧ W.cell? ⟨w.heap.size, 7, none⟩ = some (.int .i64 C.c7) ∧ W.cell? ⟨w.heap.size, 8, none⟩ = some (.int .i64 C.c8) ∧ W.cell? ⟨w.heap.size, 9, none⟩ = some (.int .i64 C.c9) ∧ W.cell? ⟨w.heap.size, 10, none⟩ = some (.int .i64 C.c10) ∧ W.cell? ⟨w.heap.size, 11, none⟩ = some (.int .i64 C.c11) ∧ W.cell? ⟨w.heap.size, 12, none⟩ = some (.int .i64 C.c12)) (first | exact X12.out.drew.keep | exact Y1.out.keep | exact Y2.out.keep) (first
    | (go_at_call 16; refine (lsum_b C D E HOC.out.1 HOC.out.2 HEE _).mono ?_; rintro e v1 ⟨rfl, hb⟩; have Y1 := Lib.hid (X12.out.drew.next hb); clear hb)
    | (go_at_call 18; refine (ifc_b E o2 n2 s2 ks2 A2 c2 l2 (x + y) i _ (HML.out.below HML.out.pos Y1.out.below) HL.out.2 HC.out.2.2.1 HC.out.2.2.2 (HE.out.2.below Y1.out.below) H6).mono ?_; rintro e v2 ⟨rfl, hb⟩; have Y2 := Lib.hid (Y1.out.next hb); clear hb))
  have X13 := Lib.hid Y2.out
  clear X12 Y1 Y2 k0 k1 k2 k3 k4 k5 k6 k7 k8 k9 k10 k11 k12 d0 d1 d2 d3 d4 d5 d6 d7 d8 d9 d10 d11 d12 p0 p1 p2 p3 p4 p5 p6 p7 p8
  go_wp2_with fail
  go_ret
  exact ⟨ret_bool (by simp), X13.out.below⟩

set_option maxRecDepth 100000 in
set_option maxHeartbeats 20000000 in
theorem adds_7 (C D : CM) (o n : Int) (s : ByteArray) (ks : List ET) (A : Option Addr) (c l : Nat) (o2 n2 : Int) (s2 : ByteArray) (ks2 : List ET) (A2 : Option Addr) (c2 l2 : Nat) (z : Int) (w : World) (hm : ML w) (hl : ks.length = l) (hE : EOk w s A c ks) (hl2 : ks2.length = l2) (hE2 : EOk w s2 A2 c2 ks2) (HF1 : Hid (decide (0 ≤ ET.left (.mk o n s ks) 300) = true)) (HF2 : Hid (decide (0 ≤ ET.left (.mk o2 n2 s2 ks2) 300) = true)) (HR1 : Hid (C.chk = 0)) (HR2 : Hid (D.chk = 0)) (E : CM) (HEE : Hid (C.add D = E)) (HOC : Hid (C.ok ∧ D.ok)) (HR3 : Hid (E.chk = 0)) (HC : Hid (ET.cnt (.mk o n s ks) ≤ 1000000 ∧ ET.dep (.mk o n s ks) ≤ 1000000 ∧ ET.cnt (.mk o2 n2 s2 ks2) ≤ 1000000 ∧ ET.dep (.mk o2 n2 s2 ks2) ≤ 1000000)) (a b x y i j : Int) (H1 : Hid (C.setR (.mk o n s ks) (.mk o2 n2 s2 ks2) z = (a, j))) (H2 : Hid (D.setR (.mk o n s ks) (.mk o2 n2 s2 ks2) z = (b, j))) (H3 : Hid (E.setR (.mk o n s ks) (.mk o2 n2 s2 ks2) z = (a + b, j))) (H4 : Hid (C.plusR C.c1 (.mk o2 n2 s2 ks2) = (x, i))) (H5 : Hid (D.plusR D.c1 (.mk o2 n2 s2 ks2) = (y, i))) (H6 : Hid (E.plusR E.c1 (.mk o2 n2 s2 ks2) = (x + y, i))) (hj : ¬ j = 0) (hnn : a ≤ a + b) (ra0 : 0 ≤ a) (ra1 : a ≤ 1000000000) (rb1 : b ≤ 1000000000) (rx0 : 0 ≤ x) (rx1 : x ≤ 1000000000) (ry0 : 0 ≤ y) (ry1 : y ≤ 1000000000) :
    Calls Try.prog 5 #[.agg #[.int .i64 C.c0, .int .i64 C.c1, .int .i64 C.c2, .int .i64 C.c3, .int .i64 C.c4, .int .i64 C.c5, .int .i64 C.c6, .int .i64 C.c7, .int .i64 C.c8, .int .i64 C.c9, .int .i64 C.c10, .int .i64 C.c11, .int .i64 C.c12], .agg #[.int .i64 D.c0, .int .i64 D.c1, .int .i64 D.c2, .int .i64 D.c3, .int .i64 D.c4, .int .i64 D.c5, .int .i64 D.c6, .int .i64 D.c7, .int .i64 D.c8, .int .i64 D.c9, .int .i64 D.c10, .int .i64 D.c11, .int .i64 D.c12], .agg #[.int .i64 o, .int .i64 n, .string s, .slice A l c, .int .i64 o2, .int .i64 n2, .string s2, .slice A2 l2 c2, .int .i64 z]] w fun e w' => e = .returned (.bool true) ∧ Below w.heap.size w w' := by
  have HE := Lib.hid (And.intro hE hE2)
  have HL := Lib.hid (And.intro hl hl2)
  have HML := Lib.hid hm
  have X0 := Lib.hid (b3 w C D #[.int .i64 o, .int .i64 n, .string s, .slice A l c, .int .i64 o2, .int .i64 n2, .string s2, .slice A2 l2 c2, .int .i64 z] 23 23 37)
  clear hE hl hm hE2 hl2
  have j0 : (j == 0) = false := by rw [beq_eq_false_iff_ne]; exact hj
  have j1 : (j != 0) = true := by simp [bne, j0]
  clear hj
  go_enter Try.func5, Try.ntmps5
  go_wp2_with fail
  refine (known_t _ (HML.out.below HML.out.pos X0.out.below)).mono ?_
  rintro e w1 ⟨rfl, hb⟩
  have X1 := Lib.hid (X0.out.next hb)
  clear hb X0
  have k0 := X1.out.cb.cell 0 _ rfl
  have k1 := X1.out.cb.cell 1 _ rfl
  have k2 := X1.out.cb.cell 2 _ rfl
  have k3 := X1.out.cb.cell 3 _ rfl
  have k4 := X1.out.cb.cell 4 _ rfl
  have k5 := X1.out.cb.cell 5 _ rfl
  have k6 := X1.out.cb.cell 6 _ rfl
  have k7 := X1.out.cb.cell 7 _ rfl
  have k8 := X1.out.cb.cell 8 _ rfl
  have k9 := X1.out.cb.cell 9 _ rfl
  have k10 := X1.out.cb.cell 10 _ rfl
  have k11 := X1.out.cb.cell 11 _ rfl
  have k12 := X1.out.cb.cell 12 _ rfl
  have d0 := X1.out.db.cell 0 _ rfl
  have d1 := X1.out.db.cell 1 _ rfl
  have d2 := X1.out.db.cell 2 _ rfl
  have d3 := X1.out.db.cell 3 _ rfl
  have d4 := X1.out.db.cell 4 _ rfl
  have d5 := X1.out.db.cell 5 _ rfl
  have d6 := X1.out.db.cell 6 _ rfl
  have d7 := X1.out.db.cell 7 _ rfl
  have d8 := X1.out.db.cell 8 _ rfl
  have d9 := X1.out.db.cell 9 _ rfl
  have d10 := X1.out.db.cell 10 _ rfl
  have d11 := X1.out.db.cell 11 _ rfl
  have d12 := X1.out.db.cell 12 _ rfl
  have p0 := X1.out.pb.cell 0 _ rfl
  have p1 := X1.out.pb.cell 1 _ rfl
  have p2 := X1.out.pb.cell 2 _ rfl
  have p3 := X1.out.pb.cell 3 _ rfl
  have p4 := X1.out.pb.cell 4 _ rfl
  have p5 := X1.out.pb.cell 5 _ rfl
  have p6 := X1.out.pb.cell 6 _ rfl
  have p7 := X1.out.pb.cell 7 _ rfl
  have p8 := X1.out.pb.cell 8 _ rfl
  go_wp2_with fail
  refine (few_b o n s ks A c l _ HL.out.1 HF1 _ (HE.out.1.below X1.out.below)).mono ?_
  rintro e w2 ⟨rfl, hb⟩
  have X2 := Lib.hid (X1.out.next hb)
  clear hb X1 k0 k1 k2 k3 k4 k5 k6 k7 k8 k9 k10 k11 k12 d0 d1 d2 d3 d4 d5 d6 d7 d8 d9 d10 d11 d12 p0 p1 p2 p3 p4 p5 p6 p7 p8
  have k0 := X2.out.cb.cell 0 _ rfl
  have k1 := X2.out.cb.cell 1 _ rfl
  have k2 := X2.out.cb.cell 2 _ rfl
  have k3 := X2.out.cb.cell 3 _ rfl
  have k4 := X2.out.cb.cell 4 _ rfl
  have k5 := X2.out.cb.cell 5 _ rfl
  have k6 := X2.out.cb.cell 6 _ rfl
  have k7 := X2.out.cb.cell 7 _ rfl
  have k8 := X2.out.cb.cell 8 _ rfl
  have k9 := X2.out.cb.cell 9 _ rfl
  have k10 := X2.out.cb.cell 10 _ rfl
  have k11 := X2.out.cb.cell 11 _ rfl
  have k12 := X2.out.cb.cell 12 _ rfl
  have d0 := X2.out.db.cell 0 _ rfl
  have d1 := X2.out.db.cell 1 _ rfl
  have d2 := X2.out.db.cell 2 _ rfl
  have d3 := X2.out.db.cell 3 _ rfl
  have d4 := X2.out.db.cell 4 _ rfl
  have d5 := X2.out.db.cell 5 _ rfl
  have d6 := X2.out.db.cell 6 _ rfl
  have d7 := X2.out.db.cell 7 _ rfl
  have d8 := X2.out.db.cell 8 _ rfl
  have d9 := X2.out.db.cell 9 _ rfl
  have d10 := X2.out.db.cell 10 _ rfl
  have d11 := X2.out.db.cell 11 _ rfl
  have d12 := X2.out.db.cell 12 _ rfl
  have p0 := X2.out.pb.cell 0 _ rfl
  have p1 := X2.out.pb.cell 1 _ rfl
  have p2 := X2.out.pb.cell 2 _ rfl
  have p3 := X2.out.pb.cell 3 _ rfl
  have p4 := X2.out.pb.cell 4 _ rfl
  have p5 := X2.out.pb.cell 5 _ rfl
  have p6 := X2.out.pb.cell 6 _ rfl
  have p7 := X2.out.pb.cell 7 _ rfl
  have p8 := X2.out.pb.cell 8 _ rfl
  go_wp2_with fail
  refine (few_b o2 n2 s2 ks2 A2 c2 l2 _ HL.out.2 HF2 _ (HE.out.2.below X2.out.below)).mono ?_
  rintro e w3 ⟨rfl, hb⟩
  have X3 := Lib.hid (X2.out.next hb)
  clear hb X2 k0 k1 k2 k3 k4 k5 k6 k7 k8 k9 k10 k11 k12 d0 d1 d2 d3 d4 d5 d6 d7 d8 d9 d10 d11 d12 p0 p1 p2 p3 p4 p5 p6 p7 p8
  have k0 := X3.out.cb.cell 0 _ rfl
  have k1 := X3.out.cb.cell 1 _ rfl
  have k2 := X3.out.cb.cell 2 _ rfl
  have k3 := X3.out.cb.cell 3 _ rfl
  have k4 := X3.out.cb.cell 4 _ rfl
  have k5 := X3.out.cb.cell 5 _ rfl
  have k6 := X3.out.cb.cell 6 _ rfl
  have k7 := X3.out.cb.cell 7 _ rfl
  have k8 := X3.out.cb.cell 8 _ rfl
  have k9 := X3.out.cb.cell 9 _ rfl
  have k10 := X3.out.cb.cell 10 _ rfl
  have k11 := X3.out.cb.cell 11 _ rfl
  have k12 := X3.out.cb.cell 12 _ rfl
  have d0 := X3.out.db.cell 0 _ rfl
  have d1 := X3.out.db.cell 1 _ rfl
  have d2 := X3.out.db.cell 2 _ rfl
  have d3 := X3.out.db.cell 3 _ rfl
  have d4 := X3.out.db.cell 4 _ rfl
  have d5 := X3.out.db.cell 5 _ rfl
  have d6 := X3.out.db.cell 6 _ rfl
  have d7 := X3.out.db.cell 7 _ rfl
  have d8 := X3.out.db.cell 8 _ rfl
  have d9 := X3.out.db.cell 9 _ rfl
  have d10 := X3.out.db.cell 10 _ rfl
  have d11 := X3.out.db.cell 11 _ rfl
  have d12 := X3.out.db.cell 12 _ rfl
  have p0 := X3.out.pb.cell 0 _ rfl
  have p1 := X3.out.pb.cell 1 _ rfl
  have p2 := X3.out.pb.cell 2 _ rfl
  have p3 := X3.out.pb.cell 3 _ rfl
  have p4 := X3.out.pb.cell 4 _ rfl
  have p5 := X3.out.pb.cell 5 _ rfl
  have p6 := X3.out.pb.cell 6 _ rfl
  have p7 := X3.out.pb.cell 7 _ rfl
  have p8 := X3.out.pb.cell 8 _ rfl
  go_wp2_with fail
  refine (rcheckC_b C _ HR1 _).mono ?_
  rintro e w4 ⟨rfl, hb⟩
  have X4 := Lib.hid (X3.out.next hb)
  clear hb X3 k0 k1 k2 k3 k4 k5 k6 k7 k8 k9 k10 k11 k12 d0 d1 d2 d3 d4 d5 d6 d7 d8 d9 d10 d11 d12 p0 p1 p2 p3 p4 p5 p6 p7 p8
  have k0 := X4.out.cb.cell 0 _ rfl
  have k1 := X4.out.cb.cell 1 _ rfl
  have k2 := X4.out.cb.cell 2 _ rfl
  have k3 := X4.out.cb.cell 3 _ rfl
  have k4 := X4.out.cb.cell 4 _ rfl
  have k5 := X4.out.cb.cell 5 _ rfl
  have k6 := X4.out.cb.cell 6 _ rfl
  have k7 := X4.out.cb.cell 7 _ rfl
  have k8 := X4.out.cb.cell 8 _ rfl
  have k9 := X4.out.cb.cell 9 _ rfl
  have k10 := X4.out.cb.cell 10 _ rfl
  have k11 := X4.out.cb.cell 11 _ rfl
  have k12 := X4.out.cb.cell 12 _ rfl
  have d0 := X4.out.db.cell 0 _ rfl
  have d1 := X4.out.db.cell 1 _ rfl
  have d2 := X4.out.db.cell 2 _ rfl
  have d3 := X4.out.db.cell 3 _ rfl
  have d4 := X4.out.db.cell 4 _ rfl
  have d5 := X4.out.db.cell 5 _ rfl
  have d6 := X4.out.db.cell 6 _ rfl
  have d7 := X4.out.db.cell 7 _ rfl
  have d8 := X4.out.db.cell 8 _ rfl
  have d9 := X4.out.db.cell 9 _ rfl
  have d10 := X4.out.db.cell 10 _ rfl
  have d11 := X4.out.db.cell 11 _ rfl
  have d12 := X4.out.db.cell 12 _ rfl
  have p0 := X4.out.pb.cell 0 _ rfl
  have p1 := X4.out.pb.cell 1 _ rfl
  have p2 := X4.out.pb.cell 2 _ rfl
  have p3 := X4.out.pb.cell 3 _ rfl
  have p4 := X4.out.pb.cell 4 _ rfl
  have p5 := X4.out.pb.cell 5 _ rfl
  have p6 := X4.out.pb.cell 6 _ rfl
  have p7 := X4.out.pb.cell 7 _ rfl
  have p8 := X4.out.pb.cell 8 _ rfl
  go_wp2_with fail
  refine (rcheckC_b D _ HR2 _).mono ?_
  rintro e w5 ⟨rfl, hb⟩
  have X5 := Lib.hid (X4.out.next hb)
  clear hb X4 k0 k1 k2 k3 k4 k5 k6 k7 k8 k9 k10 k11 k12 d0 d1 d2 d3 d4 d5 d6 d7 d8 d9 d10 d11 d12 p0 p1 p2 p3 p4 p5 p6 p7 p8
  have k0 := X5.out.cb.cell 0 _ rfl
  have k1 := X5.out.cb.cell 1 _ rfl
  have k2 := X5.out.cb.cell 2 _ rfl
  have k3 := X5.out.cb.cell 3 _ rfl
  have k4 := X5.out.cb.cell 4 _ rfl
  have k5 := X5.out.cb.cell 5 _ rfl
  have k6 := X5.out.cb.cell 6 _ rfl
  have k7 := X5.out.cb.cell 7 _ rfl
  have k8 := X5.out.cb.cell 8 _ rfl
  have k9 := X5.out.cb.cell 9 _ rfl
  have k10 := X5.out.cb.cell 10 _ rfl
  have k11 := X5.out.cb.cell 11 _ rfl
  have k12 := X5.out.cb.cell 12 _ rfl
  have d0 := X5.out.db.cell 0 _ rfl
  have d1 := X5.out.db.cell 1 _ rfl
  have d2 := X5.out.db.cell 2 _ rfl
  have d3 := X5.out.db.cell 3 _ rfl
  have d4 := X5.out.db.cell 4 _ rfl
  have d5 := X5.out.db.cell 5 _ rfl
  have d6 := X5.out.db.cell 6 _ rfl
  have d7 := X5.out.db.cell 7 _ rfl
  have d8 := X5.out.db.cell 8 _ rfl
  have d9 := X5.out.db.cell 9 _ rfl
  have d10 := X5.out.db.cell 10 _ rfl
  have d11 := X5.out.db.cell 11 _ rfl
  have d12 := X5.out.db.cell 12 _ rfl
  have p0 := X5.out.pb.cell 0 _ rfl
  have p1 := X5.out.pb.cell 1 _ rfl
  have p2 := X5.out.pb.cell 2 _ rfl
  have p3 := X5.out.pb.cell 3 _ rfl
  have p4 := X5.out.pb.cell 4 _ rfl
  have p5 := X5.out.pb.cell 5 _ rfl
  have p6 := X5.out.pb.cell 6 _ rfl
  have p7 := X5.out.pb.cell 7 _ rfl
  have p8 := X5.out.pb.cell 8 _ rfl
  go_wp2_with fail
  refine (lsum_b C D E HOC.out.1 HOC.out.2 HEE _).mono ?_
  rintro e w6 ⟨rfl, hb⟩
  have X6 := Lib.hid (X5.out.next hb)
  clear hb X5 k0 k1 k2 k3 k4 k5 k6 k7 k8 k9 k10 k11 k12 d0 d1 d2 d3 d4 d5 d6 d7 d8 d9 d10 d11 d12 p0 p1 p2 p3 p4 p5 p6 p7 p8
  have k0 := X6.out.cb.cell 0 _ rfl
  have k1 := X6.out.cb.cell 1 _ rfl
  have k2 := X6.out.cb.cell 2 _ rfl
  have k3 := X6.out.cb.cell 3 _ rfl
  have k4 := X6.out.cb.cell 4 _ rfl
  have k5 := X6.out.cb.cell 5 _ rfl
  have k6 := X6.out.cb.cell 6 _ rfl
  have k7 := X6.out.cb.cell 7 _ rfl
  have k8 := X6.out.cb.cell 8 _ rfl
  have k9 := X6.out.cb.cell 9 _ rfl
  have k10 := X6.out.cb.cell 10 _ rfl
  have k11 := X6.out.cb.cell 11 _ rfl
  have k12 := X6.out.cb.cell 12 _ rfl
  have d0 := X6.out.db.cell 0 _ rfl
  have d1 := X6.out.db.cell 1 _ rfl
  have d2 := X6.out.db.cell 2 _ rfl
  have d3 := X6.out.db.cell 3 _ rfl
  have d4 := X6.out.db.cell 4 _ rfl
  have d5 := X6.out.db.cell 5 _ rfl
  have d6 := X6.out.db.cell 6 _ rfl
  have d7 := X6.out.db.cell 7 _ rfl
  have d8 := X6.out.db.cell 8 _ rfl
  have d9 := X6.out.db.cell 9 _ rfl
  have d10 := X6.out.db.cell 10 _ rfl
  have d11 := X6.out.db.cell 11 _ rfl
  have d12 := X6.out.db.cell 12 _ rfl
  have p0 := X6.out.pb.cell 0 _ rfl
  have p1 := X6.out.pb.cell 1 _ rfl
  have p2 := X6.out.pb.cell 2 _ rfl
  have p3 := X6.out.pb.cell 3 _ rfl
  have p4 := X6.out.pb.cell 4 _ rfl
  have p5 := X6.out.pb.cell 5 _ rfl
  have p6 := X6.out.pb.cell 6 _ rfl
  have p7 := X6.out.pb.cell 7 _ rfl
  have p8 := X6.out.pb.cell 8 _ rfl
  go_wp2_with fail
  refine (rcheckC_b E _ HR3 _).mono ?_
  rintro e w7 ⟨rfl, hb⟩
  have X7 := Lib.hid (X6.out.next hb)
  clear hb X6 k0 k1 k2 k3 k4 k5 k6 k7 k8 k9 k10 k11 k12 d0 d1 d2 d3 d4 d5 d6 d7 d8 d9 d10 d11 d12 p0 p1 p2 p3 p4 p5 p6 p7 p8
  have k0 := X7.out.cb.cell 0 _ rfl
  have k1 := X7.out.cb.cell 1 _ rfl
  have k2 := X7.out.cb.cell 2 _ rfl
  have k3 := X7.out.cb.cell 3 _ rfl
  have k4 := X7.out.cb.cell 4 _ rfl
  have k5 := X7.out.cb.cell 5 _ rfl
  have k6 := X7.out.cb.cell 6 _ rfl
  have k7 := X7.out.cb.cell 7 _ rfl
  have k8 := X7.out.cb.cell 8 _ rfl
  have k9 := X7.out.cb.cell 9 _ rfl
  have k10 := X7.out.cb.cell 10 _ rfl
  have k11 := X7.out.cb.cell 11 _ rfl
  have k12 := X7.out.cb.cell 12 _ rfl
  have d0 := X7.out.db.cell 0 _ rfl
  have d1 := X7.out.db.cell 1 _ rfl
  have d2 := X7.out.db.cell 2 _ rfl
  have d3 := X7.out.db.cell 3 _ rfl
  have d4 := X7.out.db.cell 4 _ rfl
  have d5 := X7.out.db.cell 5 _ rfl
  have d6 := X7.out.db.cell 6 _ rfl
  have d7 := X7.out.db.cell 7 _ rfl
  have d8 := X7.out.db.cell 8 _ rfl
  have d9 := X7.out.db.cell 9 _ rfl
  have d10 := X7.out.db.cell 10 _ rfl
  have d11 := X7.out.db.cell 11 _ rfl
  have d12 := X7.out.db.cell 12 _ rfl
  have p0 := X7.out.pb.cell 0 _ rfl
  have p1 := X7.out.pb.cell 1 _ rfl
  have p2 := X7.out.pb.cell 2 _ rfl
  have p3 := X7.out.pb.cell 3 _ rfl
  have p4 := X7.out.pb.cell 4 _ rfl
  have p5 := X7.out.pb.cell 5 _ rfl
  have p6 := X7.out.pb.cell 6 _ rfl
  have p7 := X7.out.pb.cell 7 _ rfl
  have p8 := X7.out.pb.cell 8 _ rfl
  go_wp2_with fail
  refine (set_b C o n s ks A c l o2 n2 s2 ks2 A2 c2 l2 z a j _ (HML.out.below HML.out.pos X7.out.below) HL.out.1 HC.out.1 HC.out.2.1 (HE.out.1.below X7.out.below) HL.out.2 HC.out.2.2.1 HC.out.2.2.2 (HE.out.2.below X7.out.below) H1).mono ?_
  rintro e w8 ⟨rfl, hb⟩
  have X8 := Lib.hid (X7.out.next hb)
  clear hb X7 k0 k1 k2 k3 k4 k5 k6 k7 k8 k9 k10 k11 k12 d0 d1 d2 d3 d4 d5 d6 d7 d8 d9 d10 d11 d12 p0 p1 p2 p3 p4 p5 p6 p7 p8
  have k0 := X8.out.cb.cell 0 _ rfl
  have k1 := X8.out.cb.cell 1 _ rfl
  have k2 := X8.out.cb.cell 2 _ rfl
  have k3 := X8.out.cb.cell 3 _ rfl
  have k4 := X8.out.cb.cell 4 _ rfl
  have k5 := X8.out.cb.cell 5 _ rfl
  have k6 := X8.out.cb.cell 6 _ rfl
  have k7 := X8.out.cb.cell 7 _ rfl
  have k8 := X8.out.cb.cell 8 _ rfl
  have k9 := X8.out.cb.cell 9 _ rfl
  have k10 := X8.out.cb.cell 10 _ rfl
  have k11 := X8.out.cb.cell 11 _ rfl
  have k12 := X8.out.cb.cell 12 _ rfl
  have d0 := X8.out.db.cell 0 _ rfl
  have d1 := X8.out.db.cell 1 _ rfl
  have d2 := X8.out.db.cell 2 _ rfl
  have d3 := X8.out.db.cell 3 _ rfl
  have d4 := X8.out.db.cell 4 _ rfl
  have d5 := X8.out.db.cell 5 _ rfl
  have d6 := X8.out.db.cell 6 _ rfl
  have d7 := X8.out.db.cell 7 _ rfl
  have d8 := X8.out.db.cell 8 _ rfl
  have d9 := X8.out.db.cell 9 _ rfl
  have d10 := X8.out.db.cell 10 _ rfl
  have d11 := X8.out.db.cell 11 _ rfl
  have d12 := X8.out.db.cell 12 _ rfl
  have p0 := X8.out.pb.cell 0 _ rfl
  have p1 := X8.out.pb.cell 1 _ rfl
  have p2 := X8.out.pb.cell 2 _ rfl
  have p3 := X8.out.pb.cell 3 _ rfl
  have p4 := X8.out.pb.cell 4 _ rfl
  have p5 := X8.out.pb.cell 5 _ rfl
  have p6 := X8.out.pb.cell 6 _ rfl
  have p7 := X8.out.pb.cell 7 _ rfl
  have p8 := X8.out.pb.cell 8 _ rfl
  go_wp2_with fail
  refine (set_b D o n s ks A c l o2 n2 s2 ks2 A2 c2 l2 z b j _ (HML.out.below HML.out.pos X8.out.below) HL.out.1 HC.out.1 HC.out.2.1 (HE.out.1.below X8.out.below) HL.out.2 HC.out.2.2.1 HC.out.2.2.2 (HE.out.2.below X8.out.below) H2).mono ?_
  rintro e w9 ⟨rfl, hb⟩
  have X9 := Lib.hid (X8.out.next hb)
  clear hb X8 k0 k1 k2 k3 k4 k5 k6 k7 k8 k9 k10 k11 k12 d0 d1 d2 d3 d4 d5 d6 d7 d8 d9 d10 d11 d12 p0 p1 p2 p3 p4 p5 p6 p7 p8
  have k0 := X9.out.cb.cell 0 _ rfl
  have k1 := X9.out.cb.cell 1 _ rfl
  have k2 := X9.out.cb.cell 2 _ rfl
  have k3 := X9.out.cb.cell 3 _ rfl
  have k4 := X9.out.cb.cell 4 _ rfl
  have k5 := X9.out.cb.cell 5 _ rfl
  have k6 := X9.out.cb.cell 6 _ rfl
  have k7 := X9.out.cb.cell 7 _ rfl
  have k8 := X9.out.cb.cell 8 _ rfl
  have k9 := X9.out.cb.cell 9 _ rfl
  have k10 := X9.out.cb.cell 10 _ rfl
  have k11 := X9.out.cb.cell 11 _ rfl
  have k12 := X9.out.cb.cell 12 _ rfl
  have d0 := X9.out.db.cell 0 _ rfl
  have d1 := X9.out.db.cell 1 _ rfl
  have d2 := X9.out.db.cell 2 _ rfl
  have d3 := X9.out.db.cell 3 _ rfl
  have d4 := X9.out.db.cell 4 _ rfl
  have d5 := X9.out.db.cell 5 _ rfl
  have d6 := X9.out.db.cell 6 _ rfl
  have d7 := X9.out.db.cell 7 _ rfl
  have d8 := X9.out.db.cell 8 _ rfl
  have d9 := X9.out.db.cell 9 _ rfl
  have d10 := X9.out.db.cell 10 _ rfl
  have d11 := X9.out.db.cell 11 _ rfl
  have d12 := X9.out.db.cell 12 _ rfl
  have p0 := X9.out.pb.cell 0 _ rfl
  have p1 := X9.out.pb.cell 1 _ rfl
  have p2 := X9.out.pb.cell 2 _ rfl
  have p3 := X9.out.pb.cell 3 _ rfl
  have p4 := X9.out.pb.cell 4 _ rfl
  have p5 := X9.out.pb.cell 5 _ rfl
  have p6 := X9.out.pb.cell 6 _ rfl
  have p7 := X9.out.pb.cell 7 _ rfl
  have p8 := X9.out.pb.cell 8 _ rfl
  go_wp2_with fail
  go_region_held3 (fun W => W.cell? ⟨w.heap.size + 1 + 1, 0, none⟩ = some (.int .i64 o) ∧ W.cell? ⟨w.heap.size + 1 + 1, 1, none⟩ = some (.int .i64 n) ∧ W.cell? ⟨w.heap.size + 1 + 1, 2, none⟩ = some (.string s) ∧ W.cell? ⟨w.heap.size + 1 + 1, 3, none⟩ = some (.slice A l c) ∧ W.cell? ⟨w.heap.size + 1 + 1, 4, none⟩ = some (.int .i64 o2) ∧ W.cell? ⟨w.heap.size + 1 + 1, 5, none⟩ = some (.int .i64 n2) ∧ W.cell? ⟨w.heap.size + 1 + 1, 6, none⟩ = some (.string s2) ∧ W.cell? ⟨w.heap.size + 1 + 1, 7, none⟩ = some (.slice A2 l2 c2) ∧ W.cell? ⟨w.heap.size + 1 + 1, 8, none⟩ = some (.int .i64 z) ∧ W.cell? ⟨w.heap.size + 1, 0, none⟩ = some (.int .i64 D.c0) ∧ W.cell? ⟨w.heap.size + 1, 1, none⟩ = some (.int .i64 D.c1) ∧ W.cell? ⟨w.heap.size + 1, 2, none⟩ = some (.int .i64 D.c2) ∧ W.cell? ⟨w.heap.size + 1, 3, none⟩ = some (.int .i64 D.c3) ∧ W.cell? ⟨w.heap.size + 1, 4, none⟩ = some (.int .i64 D.c4) ∧ W.cell? ⟨w.heap.size + 1, 5, none⟩ = some (.int .i64 D.c5) ∧ W.cell? ⟨w.heap.size + 1, 6, none⟩ = some (.int .i64 D.c6) ∧ W.cell? ⟨w.heap.size + 1, 7, none⟩ = some (.int .i64 D.c7) ∧ W.cell? ⟨w.heap.size + 1, 8, none⟩ = some (.int .i64 D.c8) ∧ W.cell? ⟨w.heap.size + 1, 9, none⟩ = some (.int .i64 D.c9) ∧ W.cell? ⟨w.heap.size + 1, 10, none⟩ = some (.int .i64 D.c10) ∧ W.cell? ⟨w.heap.size + 1, 11, none⟩ = some (.int .i64 D.c11) ∧ W.cell? ⟨w.heap.size + 1, 12, none⟩ = some (.int .i64 D.c12) ∧ W.cell? ⟨w.heap.size, 0, none⟩ = some (.int .i64 C.c0) ∧ W.cell? ⟨w.heap.size, 1, none⟩ = some (.int .i64 C.c1) ∧ W.cell? ⟨w.heap.size, 2, none⟩ = some (.int .i64 C.c2) ∧ W.cell? ⟨w.heap.size, 3, none⟩ = some (.int .i64 C.c3) ∧ W.cell? ⟨w.heap.size, 4, none⟩ = some (.int .i64 C.c4) ∧ W.cell? ⟨w.heap.size, 5, none⟩ = some (.int .i64 C.c5) ∧ W.cell? ⟨w.heap.size, 6, none⟩ = some (.int .i64 C.c6) ∧ W.cell? ⟨w.heap.size, 7, none⟩ = some (.int .i64 C.c7) ∧ W.cell? ⟨w.heap.size, 8, none⟩ = some (.int .i64 C.c8) ∧ W.cell? ⟨w.heap.size, 9, none⟩ = some (.int .i64 C.c9) ∧ W.cell? ⟨w.heap.size, 10, none⟩ = some (.int .i64 C.c10) ∧ W.cell? ⟨w.heap.size, 11, none⟩ = some (.int .i64 C.c11) ∧ W.cell? ⟨w.heap.size, 12, none⟩ = some (.int .i64 C.c12)) (first | exact X9.out.drew.keep | exact Y1.out.keep | exact Y2.out.keep) (first
    | (go_at_call 16; refine (lsum_b C D E HOC.out.1 HOC.out.2 HEE _).mono ?_; rintro e v1 ⟨rfl, hb⟩; have Y1 := Lib.hid (X9.out.drew.next hb); clear hb)
    | (go_at_call 17; refine (set_b E o n s ks A c l o2 n2 s2 ks2 A2 c2 l2 z (a + b) j _ (HML.out.below HML.out.pos Y1.out.below) HL.out.1 HC.out.1 HC.out.2.1 (HE.out.1.below Y1.out.below) HL.out.2 HC.out.2.2.1 HC.out.2.2.2 (HE.out.2.below Y1.out.below) H3).mono ?_; rintro e v2 ⟨rfl, hb⟩; have Y2 := Lib.hid (Y1.out.next hb); clear hb))
  have X10 := Lib.hid Y2.out
  clear X9 Y1 Y2 k0 k1 k2 k3 k4 k5 k6 k7 k8 k9 k10 k11 k12 d0 d1 d2 d3 d4 d5 d6 d7 d8 d9 d10 d11 d12 p0 p1 p2 p3 p4 p5 p6 p7 p8
  have k0 := X10.out.cb.cell 0 _ rfl
  have k1 := X10.out.cb.cell 1 _ rfl
  have k2 := X10.out.cb.cell 2 _ rfl
  have k3 := X10.out.cb.cell 3 _ rfl
  have k4 := X10.out.cb.cell 4 _ rfl
  have k5 := X10.out.cb.cell 5 _ rfl
  have k6 := X10.out.cb.cell 6 _ rfl
  have k7 := X10.out.cb.cell 7 _ rfl
  have k8 := X10.out.cb.cell 8 _ rfl
  have k9 := X10.out.cb.cell 9 _ rfl
  have k10 := X10.out.cb.cell 10 _ rfl
  have k11 := X10.out.cb.cell 11 _ rfl
  have k12 := X10.out.cb.cell 12 _ rfl
  have d0 := X10.out.db.cell 0 _ rfl
  have d1 := X10.out.db.cell 1 _ rfl
  have d2 := X10.out.db.cell 2 _ rfl
  have d3 := X10.out.db.cell 3 _ rfl
  have d4 := X10.out.db.cell 4 _ rfl
  have d5 := X10.out.db.cell 5 _ rfl
  have d6 := X10.out.db.cell 6 _ rfl
  have d7 := X10.out.db.cell 7 _ rfl
  have d8 := X10.out.db.cell 8 _ rfl
  have d9 := X10.out.db.cell 9 _ rfl
  have d10 := X10.out.db.cell 10 _ rfl
  have d11 := X10.out.db.cell 11 _ rfl
  have d12 := X10.out.db.cell 12 _ rfl
  have p0 := X10.out.pb.cell 0 _ rfl
  have p1 := X10.out.pb.cell 1 _ rfl
  have p2 := X10.out.pb.cell 2 _ rfl
  have p3 := X10.out.pb.cell 3 _ rfl
  have p4 := X10.out.pb.cell 4 _ rfl
  have p5 := X10.out.pb.cell 5 _ rfl
  have p6 := X10.out.pb.cell 6 _ rfl
  have p7 := X10.out.pb.cell 7 _ rfl
  have p8 := X10.out.pb.cell 8 _ rfl
  go_wp2_with fail
  refine (ifc_b C o2 n2 s2 ks2 A2 c2 l2 x i _ (HML.out.below HML.out.pos X10.out.below) HL.out.2 HC.out.2.2.1 HC.out.2.2.2 (HE.out.2.below X10.out.below) H4).mono ?_
  rintro e w11 ⟨rfl, hb⟩
  have X11 := Lib.hid (X10.out.next hb)
  clear hb X10 k0 k1 k2 k3 k4 k5 k6 k7 k8 k9 k10 k11 k12 d0 d1 d2 d3 d4 d5 d6 d7 d8 d9 d10 d11 d12 p0 p1 p2 p3 p4 p5 p6 p7 p8
  have k0 := X11.out.cb.cell 0 _ rfl
  have k1 := X11.out.cb.cell 1 _ rfl
  have k2 := X11.out.cb.cell 2 _ rfl
  have k3 := X11.out.cb.cell 3 _ rfl
  have k4 := X11.out.cb.cell 4 _ rfl
  have k5 := X11.out.cb.cell 5 _ rfl
  have k6 := X11.out.cb.cell 6 _ rfl
  have k7 := X11.out.cb.cell 7 _ rfl
  have k8 := X11.out.cb.cell 8 _ rfl
  have k9 := X11.out.cb.cell 9 _ rfl
  have k10 := X11.out.cb.cell 10 _ rfl
  have k11 := X11.out.cb.cell 11 _ rfl
  have k12 := X11.out.cb.cell 12 _ rfl
  have d0 := X11.out.db.cell 0 _ rfl
  have d1 := X11.out.db.cell 1 _ rfl
  have d2 := X11.out.db.cell 2 _ rfl
  have d3 := X11.out.db.cell 3 _ rfl
  have d4 := X11.out.db.cell 4 _ rfl
  have d5 := X11.out.db.cell 5 _ rfl
  have d6 := X11.out.db.cell 6 _ rfl
  have d7 := X11.out.db.cell 7 _ rfl
  have d8 := X11.out.db.cell 8 _ rfl
  have d9 := X11.out.db.cell 9 _ rfl
  have d10 := X11.out.db.cell 10 _ rfl
  have d11 := X11.out.db.cell 11 _ rfl
  have d12 := X11.out.db.cell 12 _ rfl
  have p0 := X11.out.pb.cell 0 _ rfl
  have p1 := X11.out.pb.cell 1 _ rfl
  have p2 := X11.out.pb.cell 2 _ rfl
  have p3 := X11.out.pb.cell 3 _ rfl
  have p4 := X11.out.pb.cell 4 _ rfl
  have p5 := X11.out.pb.cell 5 _ rfl
  have p6 := X11.out.pb.cell 6 _ rfl
  have p7 := X11.out.pb.cell 7 _ rfl
  have p8 := X11.out.pb.cell 8 _ rfl
  go_wp2_with fail
  refine (ifc_b D o2 n2 s2 ks2 A2 c2 l2 y i _ (HML.out.below HML.out.pos X11.out.below) HL.out.2 HC.out.2.2.1 HC.out.2.2.2 (HE.out.2.below X11.out.below) H5).mono ?_
  rintro e w12 ⟨rfl, hb⟩
  have X12 := Lib.hid (X11.out.next hb)
  clear hb X11 k0 k1 k2 k3 k4 k5 k6 k7 k8 k9 k10 k11 k12 d0 d1 d2 d3 d4 d5 d6 d7 d8 d9 d10 d11 d12 p0 p1 p2 p3 p4 p5 p6 p7 p8
  have k0 := X12.out.cb.cell 0 _ rfl
  have k1 := X12.out.cb.cell 1 _ rfl
  have k2 := X12.out.cb.cell 2 _ rfl
  have k3 := X12.out.cb.cell 3 _ rfl
  have k4 := X12.out.cb.cell 4 _ rfl
  have k5 := X12.out.cb.cell 5 _ rfl
  have k6 := X12.out.cb.cell 6 _ rfl
  have k7 := X12.out.cb.cell 7 _ rfl
  have k8 := X12.out.cb.cell 8 _ rfl
  have k9 := X12.out.cb.cell 9 _ rfl
  have k10 := X12.out.cb.cell 10 _ rfl
  have k11 := X12.out.cb.cell 11 _ rfl
  have k12 := X12.out.cb.cell 12 _ rfl
  have d0 := X12.out.db.cell 0 _ rfl
  have d1 := X12.out.db.cell 1 _ rfl
  have d2 := X12.out.db.cell 2 _ rfl
  have d3 := X12.out.db.cell 3 _ rfl
  have d4 := X12.out.db.cell 4 _ rfl
  have d5 := X12.out.db.cell 5 _ rfl
  have d6 := X12.out.db.cell 6 _ rfl
  have d7 := X12.out.db.cell 7 _ rfl
  have d8 := X12.out.db.cell 8 _ rfl
  have d9 := X12.out.db.cell 9 _ rfl
  have d10 := X12.out.db.cell 10 _ rfl
  have d11 := X12.out.db.cell 11 _ rfl
  have d12 := X12.out.db.cell 12 _ rfl
  have p0 := X12.out.pb.cell 0 _ rfl
  have p1 := X12.out.pb.cell 1 _ rfl
  have p2 := X12.out.pb.cell 2 _ rfl
  have p3 := X12.out.pb.cell 3 _ rfl
  have p4 := X12.out.pb.cell 4 _ rfl
  have p5 := X12.out.pb.cell 5 _ rfl
  have p6 := X12.out.pb.cell 6 _ rfl
  have p7 := X12.out.pb.cell 7 _ rfl
  have p8 := X12.out.pb.cell 8 _ rfl
  go_wp2_with fail
  go_region_held3 (fun W => W.cell? ⟨w.heap.size + 1 + 1, 0, none⟩ = some (.int .i64 o) ∧ W.cell? ⟨w.heap.size + 1 + 1, 1, none⟩ = some (.int .i64 n) ∧ W.cell? ⟨w.heap.size + 1 + 1, 2, none⟩ = some (.string s) ∧ W.cell? ⟨w.heap.size + 1 + 1, 3, none⟩ = some (.slice A l c) ∧ W.cell? ⟨w.heap.size + 1 + 1, 4, none⟩ = some (.int .i64 o2) ∧ W.cell? ⟨w.heap.size + 1 + 1, 5, none⟩ = some (.int .i64 n2) ∧ W.cell? ⟨w.heap.size + 1 + 1, 6, none⟩ = some (.string s2) ∧ W.cell? ⟨w.heap.size + 1 + 1, 7, none⟩ = some (.slice A2 l2 c2) ∧ W.cell? ⟨w.heap.size + 1 + 1, 8, none⟩ = some (.int .i64 z) ∧ W.cell? ⟨w.heap.size + 1, 0, none⟩ = some (.int .i64 D.c0) ∧ W.cell? ⟨w.heap.size + 1, 1, none⟩ = some (.int .i64 D.c1) ∧ W.cell? ⟨w.heap.size + 1, 2, none⟩ = some (.int .i64 D.c2) ∧ W.cell? ⟨w.heap.size + 1, 3, none⟩ = some (.int .i64 D.c3) ∧ W.cell? ⟨w.heap.size + 1, 4, none⟩ = some (.int .i64 D.c4) ∧ W.cell? ⟨w.heap.size + 1, 5, none⟩ = some (.int .i64 D.c5) ∧ W.cell? ⟨w.heap.size + 1, 6, none⟩ = some (.int .i64 D.c6) ∧ W.cell? ⟨w.heap.size + 1, 7, none⟩ = some (.int .i64 D.c7) ∧ W.cell? ⟨w.heap.size + 1, 8, none⟩ = some (.int .i64 D.c8) ∧ W.cell? ⟨w.heap.size + 1, 9, none⟩ = some (.int .i64 D.c9) ∧ W.cell? ⟨w.heap.size + 1, 10, none⟩ = some (.int .i64 D.c10) ∧ W.cell? ⟨w.heap.size + 1, 11, none⟩ = some (.int .i64 D.c11) ∧ W.cell? ⟨w.heap.size + 1, 12, none⟩ = some (.int .i64 D.c12) ∧ W.cell? ⟨w.heap.size, 0, none⟩ = some (.int .i64 C.c0) ∧ W.cell? ⟨w.heap.size, 1, none⟩ = some (.int .i64 C.c1) ∧ W.cell? ⟨w.heap.size, 2, none⟩ = some (.int .i64 C.c2) ∧ W.cell? ⟨w.heap.size, 3, none⟩ = some (.int .i64 C.c3) ∧ W.cell? ⟨w.heap.size, 4, none⟩ = some (.int .i64 C.c4) ∧ W.cell? ⟨w.heap.size, 5, none⟩ = some (.int .i64 C.c5) ∧ W.cell? ⟨w.heap.size, 6, none⟩ = some (.int .i64 C.c6) ∧ W.cell? ⟨w.heap.size, 7, none⟩ = some (.int .i64 C.c7) ∧ W.cell? ⟨w.heap.size, 8, none⟩ = some (.int .i64 C.c8) ∧ W.cell? ⟨w.heap.size, 9, none⟩ = some (.int .i64 C.c9) ∧ W.cell? ⟨w.heap.size, 10, none⟩ = some (.int .i64 C.c10) ∧ W.cell? ⟨w.heap.size, 11, none⟩ = some (.int .i64 C.c11) ∧ W.cell? ⟨w.heap.size, 12, none⟩ = some (.int .i64 C.c12)) (first | exact X12.out.drew.keep | exact Y1.out.keep | exact Y2.out.keep) (first
    | (go_at_call 16; refine (lsum_b C D E HOC.out.1 HOC.out.2 HEE _).mono ?_; rintro e v1 ⟨rfl, hb⟩; have Y1 := Lib.hid (X12.out.drew.next hb); clear hb)
    | (go_at_call 18; refine (ifc_b E o2 n2 s2 ks2 A2 c2 l2 (x + y) i _ (HML.out.below HML.out.pos Y1.out.below) HL.out.2 HC.out.2.2.1 HC.out.2.2.2 (HE.out.2.below Y1.out.below) H6).mono ?_; rintro e v2 ⟨rfl, hb⟩; have Y2 := Lib.hid (Y1.out.next hb); clear hb))
  have X13 := Lib.hid Y2.out
  clear X12 Y1 Y2 k0 k1 k2 k3 k4 k5 k6 k7 k8 k9 k10 k11 k12 d0 d1 d2 d3 d4 d5 d6 d7 d8 d9 d10 d11 d12 p0 p1 p2 p3 p4 p5 p6 p7 p8
  go_wp2_with fail
  go_ret
  exact ⟨ret_bool (by simp), X13.out.below⟩

theorem adds_walk (C D : CM) (o n : Int) (s : ByteArray) (ks : List ET) (A : Option Addr) (c l : Nat) (o2 n2 : Int) (s2 : ByteArray) (ks2 : List ET) (A2 : Option Addr) (c2 l2 : Nat) (z : Int) (w : World) (hm : ML w) (hl : ks.length = l) (hE : EOk w s A c ks) (hl2 : ks2.length = l2) (hE2 : EOk w s2 A2 c2 ks2) :
    Calls Try.prog 5 #[.agg #[.int .i64 C.c0, .int .i64 C.c1, .int .i64 C.c2, .int .i64 C.c3, .int .i64 C.c4, .int .i64 C.c5, .int .i64 C.c6, .int .i64 C.c7, .int .i64 C.c8, .int .i64 C.c9, .int .i64 C.c10, .int .i64 C.c11, .int .i64 C.c12], .agg #[.int .i64 D.c0, .int .i64 D.c1, .int .i64 D.c2, .int .i64 D.c3, .int .i64 D.c4, .int .i64 D.c5, .int .i64 D.c6, .int .i64 D.c7, .int .i64 D.c8, .int .i64 D.c9, .int .i64 D.c10, .int .i64 D.c11, .int .i64 D.c12], .agg #[.int .i64 o, .int .i64 n, .string s, .slice A l c, .int .i64 o2, .int .i64 n2, .string s2, .slice A2 l2 c2, .int .i64 z]] w fun e w' => e = .returned (.bool true) ∧ Below w.heap.size w w' := by
  obtain ⟨f1, hf1⟩ : ∃ b, decide (0 ≤ ET.left (.mk o n s ks) 300) = b := ⟨_, rfl⟩
  obtain ⟨f2, hf2⟩ : ∃ b, decide (0 ≤ ET.left (.mk o2 n2 s2 ks2) 300) = b := ⟨_, rfl⟩
  cases f1
  · exact adds_1 C D o n s ks A c l o2 n2 s2 ks2 A2 c2 l2 z w hm hl hE hl2 hE2 (Lib.hid hf1)
  cases f2
  · exact adds_2 C D o n s ks A c l o2 n2 s2 ks2 A2 c2 l2 z w hm hl hE hl2 hE2 (Lib.hid hf1) (Lib.hid hf2)
  rcases CM.chk_cases C with ⟨q1, hoC⟩ | q1
  rotate_left
  · exact adds_3 C D o n s ks A c l o2 n2 s2 ks2 A2 c2 l2 z w hm hl hE hl2 hE2 (Lib.hid hf1) (Lib.hid hf2) (Lib.hid q1)
  rcases CM.chk_cases D with ⟨q2, hoD⟩ | q2
  rotate_left
  · exact adds_4 C D o n s ks A c l o2 n2 s2 ks2 A2 c2 l2 z w hm hl hE hl2 hE2 (Lib.hid hf1) (Lib.hid hf2) (Lib.hid q1) (Lib.hid q2)
  obtain ⟨E, hEE⟩ : ∃ E, C.add D = E := ⟨_, rfl⟩
  rcases CM.chk_cases E with ⟨q3, _⟩ | q3
  rotate_left
  · exact adds_5 C D o n s ks A c l o2 n2 s2 ks2 A2 c2 l2 z w hm hl hE hl2 hE2 (Lib.hid hf1) (Lib.hid hf2) (Lib.hid q1) (Lib.hid q2) E (Lib.hid hEE) (Lib.hid ⟨hoC, hoD⟩) (Lib.hid q3)
  have q3' := q3
  rw [← hEE] at q3'
  have hf := ET.few (of_decide_eq_true hf1)
  have hg := ET.few (of_decide_eq_true hf2)
  have HC : Hid (ET.cnt (.mk o n s ks) ≤ 1000000 ∧ ET.dep (.mk o n s ks) ≤ 1000000 ∧ ET.cnt (.mk o2 n2 s2 ks2) ≤ 1000000 ∧ ET.dep (.mk o2 n2 s2 ks2) ≤ 1000000) := ⟨by omega, by omega, by omega, by omega⟩
  obtain ⟨a, b, j, x, y, i, h1, h2, h3, h4, h5, h6, ra0, ra1, rb0, rb1, rx0, rx1, ry0, ry1⟩ := CM.adds q1 q2 q3' (.mk o n s ks) (.mk o2 n2 s2 ks2) z HC.out.1 HC.out.2.2.1
  rw [hEE] at h3 h6
  by_cases hj : j = 0
  · subst hj
    exact adds_6 C D o n s ks A c l o2 n2 s2 ks2 A2 c2 l2 z w hm hl hE hl2 hE2 (Lib.hid hf1) (Lib.hid hf2) (Lib.hid q1) (Lib.hid q2) E (Lib.hid hEE) (Lib.hid ⟨hoC, hoD⟩) (Lib.hid q3) HC a b x y i (Lib.hid h1) (Lib.hid h2) (Lib.hid h3) (Lib.hid h4) (Lib.hid h5) (Lib.hid h6) (by omega) ra0 ra1 rb1 rx0 rx1 ry0 ry1
  · exact adds_7 C D o n s ks A c l o2 n2 s2 ks2 A2 c2 l2 z w hm hl hE hl2 hE2 (Lib.hid hf1) (Lib.hid hf2) (Lib.hid q1) (Lib.hid q2) E (Lib.hid hEE) (Lib.hid ⟨hoC, hoD⟩) (Lib.hid q3) HC a b x y i j (Lib.hid h1) (Lib.hid h2) (Lib.hid h3) (Lib.hid h4) (Lib.hid h5) (Lib.hid h6) hj (by omega) ra0 ra1 rb1 rx0 rx1 ry0 ry1

set_option maxRecDepth 100000 in
theorem costAdds_lifted (os : Os) (started : os.Started) (H : Type) (enc : TypeId × Value → H) :
    ReturnsInHanded {} Try.checked os 5 .any (Rows.costAddsSpec.pre6 enc Try.prog Try.f5 Rows.costAddsRow.domain false) (Rows.costAddsSpec.post enc Try.prog Try.f5 false true false false) := by
  refine returnsInHanded_of_change_shaped (C := Try.checked) own started (by kernel_rfl) Try.func5
    (ChangeSpec.witness6 (enc := enc) (C := Try.checked) false ⟨#[], #[.agg #[.int .i64 0, .int .i64 0, .int .i64 0, .int .i64 0, .int .i64 0, .int .i64 0, .int .i64 0, .int .i64 0, .int .i64 0, .int .i64 0, .int .i64 0, .int .i64 0, .int .i64 0], .agg #[.int .i64 0, .int .i64 0, .int .i64 0, .int .i64 0, .int .i64 0, .int .i64 0, .int .i64 0, .int .i64 0, .int .i64 0, .int .i64 0, .int .i64 0, .int .i64 0, .int .i64 0], .agg #[.int .i64 0, .int .i64 0, .string ⟨#[]⟩, .slice none 0 0, .int .i64 0, .int .i64 0, .string ⟨#[]⟩, .slice none 0 0, .int .i64 0]], []⟩ 8 (by kernel_rfl) (by kernel_rfl) (by kernel_rfl) (by kernel_rfl)) ?_
  intro W base args ds gs before hval0 hW hcnd0 _ hsh _
  clear hcnd0
  have hval : ∀ (j : Nat) t v, Try.f5.params[j]? = some t → args[j]? = some v → Value.okWide Try.prog W .any base t v := hval0
  have hW' := hW
  obtain ⟨p, q, hA0, hV, rfl, hfz, hnd⟩ := hW
  have hA : DataW.TrodAll enc Try.prog W 0 (fun _ => true) true Try.f5.params.toList args.toList ds p := hA0
  rw [Try.params5] at hA hval
  obtain ⟨v0, v1, v2, d0, d1, d2, p0, p1, p2, hargs, rfl, rfl, h0, h1, h2⟩ := trodAll_three hA
  obtain rfl : args = #[v0, v1, v2] := hargs
  obtain ⟨rfl, rfl⟩ := trodVars_none hV
  obtain ⟨C, rfl⟩ := open_costs (hval 0 23 v0 rfl rfl) h0
  obtain ⟨D, rfl⟩ := open_costs (hval 1 23 v1 rfl rfl) h1
  obtain ⟨o, n, s, A, l, c, ks, o2, n2, s2, A2, l2, c2, ks2, z, rfl, hl, hE, hl2, hE2, hz⟩ := open_pieces (hval 2 37 v2 rfl rfl) h2
  clear hz
  clear hA0 hval0
  have hml : ML W := Try.laysM219.s1_3 W hsh
  refine (adds_walk C D o n s ks A c l o2 n2 s2 ks2 A2 c2 l2 z W hml hl hE hl2 hE2).mono fun e W' ⟨he, hb⟩ => ?_
  subst he
  have hlt : ∀ x ∈ p0 ++ p1 ++ p2 ++ [], x.block < W.heap.size := fun x hx => hW'.lt x hx
  exact ⟨_, rfl, _, _, _, [], p0 ++ (p1 ++ p2), [], hW', trodAll_mk1 (shut_bool Try.underlying4 _),
    trodAll_mk3 (Below.trod laidOut (by kernel_rfl) (of_decide_eq_true (by kernel_rfl)) h0 hb (fun x hx => hlt x (by simp [hx]))) (Below.trod laidOut (by kernel_rfl) (of_decide_eq_true (by kernel_rfl)) h1 hb (fun x hx => hlt x (by simp [hx]))) (Below.trod laidOut (by kernel_rfl) (of_decide_eq_true (by kernel_rfl)) h2 hb (fun x hx => hlt x (by simp [hx]))), rfl, hb.frame _, fun h => by cases h⟩

theorem costAdds_holds : Rows.CostAddsSaid :=
  OpenClaim.holds_of_wide 5 Try.f5 rfl rfl rfl rfl rfl rfl rfl ⟨rfl, rfl, rfl, rfl, rfl⟩ rfl rfl rfl rfl rfl (by kernel_rfl) Try.func5 (by kernel_rfl)
    (of_decide_eq_true (by kernel_rfl)) (by unfold Func.isWrapper; rw [if_neg (of_decide_eq_false (by kernel_rfl))]; exact ⟨rfl, rfl⟩)
    (fun os started H enc _ => costAdds_lifted os started H enc)
#print axioms costAdds_holds
end Go.Proofs.Ythlhicegchkjjaa
