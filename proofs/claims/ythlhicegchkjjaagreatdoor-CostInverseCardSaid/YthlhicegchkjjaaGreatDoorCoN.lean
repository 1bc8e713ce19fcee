/-
  The walk over the law's known.
-/
import Derived.Test.YthlhicegchkjjaaGreatDoorCoI
import Derived.Test.YthlhicegchkjjaaGreatDoorCs
namespace Go.Proofs.YthlhicegchkjjaaGreatDoor
open Go.RowKit
def nmT (s : ByteArray) : ET := .mk 3 0 s []
def litT (n : Int) : ET := .mk 0 n ⟨#[]⟩ []
def plT : ET := .mk 5 0 ⟨#[]⟩ [nmT ⟨#[98]⟩, nmT ⟨#[105]⟩]
def mulT : ET := .mk 10 0 ⟨#[]⟩ [plT, litT 2]
def addT : ET := .mk 8 0 ⟨#[]⟩ [nmT ⟨#[97]⟩, mulT]
theorem known_1 : CM.exprR ⟨1, 1, 1, 2, 1, 1, 0, 1, 1, 3, 8, 1, 1⟩ addT = (5, 0) := by decide +kernel
theorem known_2 : CM.exprR ⟨1, 1, 1, 2, 1, 1, 2, 1, 1, 3, 8, 1, 1⟩ addT = (11, 0) := by decide +kernel
theorem known_3 : CM.placeR ⟨1, 1, 1, 2, 1, 1, 2, 1, 1, 3, 8, 1, 1⟩ plT = (3, 0) := by decide +kernel
theorem known_4 : ET.cnt addT ≤ 1000000 ∧ ET.dep addT ≤ 1000000 ∧ ET.cnt plT ≤ 1000000 ∧ ET.dep plT ≤ 1000000 := by decide +kernel
theorem bcell {W w1 : World} (hb : Below W.heap.size W w1) : (∀ b o, b < W.heap.size → w1.cell? ⟨b, o, none⟩ = W.cell? ⟨b, o, none⟩) ∧ (∀ b o, b < W.heap.size → w1.frozen? ⟨b, o, none⟩ = W.frozen? ⟨b, o, none⟩) :=
  ⟨fun b o h => hb.cell (p := ⟨b, o, none⟩) h, fun b o h => hb.frozen (p := ⟨b, o, none⟩) h⟩
set_option maxHeartbeats 1000000 in
theorem name_b (s : ByteArray) (w : World) :
    Calls Tryz.prog 16 #[.string s] w fun e w' => e = .returned (.agg #[.int .i64 3, .int .i64 0, .string s, .slice none 0 0]) ∧ Below w.heap.size w w' := by
  go_enter Tryz.func16, Tryz.ntmps16
  go_wp2_with fail
  go_returns
  refine ⟨rfl, ?_⟩
  (repeat' (first | exact Below.refl _ _ | refine Below.drew ?_ | refine below_drewN ?_ _ | refine Below.alloc ?_ (by simp; try omega) _ | refine Below.setCell ?_ (by simp; try omega) _))
set_option maxHeartbeats 4000000 in
theorem default_b (w : World) :
    Calls Tryz.prog 15 #[] w fun e w' => e = .returned (.agg #[.int .i64 1, .int .i64 1, .int .i64 1, .int .i64 2, .int .i64 1, .int .i64 1, .int .i64 0, .int .i64 1, .int .i64 1, .int .i64 3, .int .i64 8, .int .i64 1, .int .i64 1]) ∧ Below w.heap.size w w' := by
  go_enter Tryz.func15, Tryz.ntmps15
  go_wp2_with fail
  refine (pack_b ⟨1, 1, 1, 2, 1, 1, 0, 1, 1, 3, 8, 1, 1⟩ _).mono ?_
  rintro e w2 ⟨rfl, hb⟩
  have c0 : w2.cell? ⟨w.heap.size, 0, none⟩ = some (.int .i64 0) := (hb.cell (p := ⟨w.heap.size, 0, none⟩) (by simp)).trans (by simp)
  have f0 : w2.frozen? ⟨w.heap.size, 0, none⟩ = false := (hb.frozen (p := ⟨w.heap.size, 0, none⟩) (by simp)).trans (by simp)
  have c1 : w2.cell? ⟨w.heap.size, 1, none⟩ = some (.int .i64 0) := (hb.cell (p := ⟨w.heap.size, 1, none⟩) (by simp)).trans (by simp)
  have f1 : w2.frozen? ⟨w.heap.size, 1, none⟩ = false := (hb.frozen (p := ⟨w.heap.size, 1, none⟩) (by simp)).trans (by simp)
  have c2 : w2.cell? ⟨w.heap.size, 2, none⟩ = some (.int .i64 0) := (hb.cell (p := ⟨w.heap.size, 2, none⟩) (by simp)).trans (by simp)
  have f2 : w2.frozen? ⟨w.heap.size, 2, none⟩ = false := (hb.frozen (p := ⟨w.heap.size, 2, none⟩) (by simp)).trans (by simp)
  have c3 : w2.cell? ⟨w.heap.size, 3, none⟩ = some (.int .i64 0) := (hb.cell (p := ⟨w.heap.size, 3, none⟩) (by simp)).trans (by simp)
  have f3 : w2.frozen? ⟨w.heap.size, 3, none⟩ = false := (hb.frozen (p := ⟨w.heap.size, 3, none⟩) (by simp)).trans (by simp)
  have c4 : w2.cell? ⟨w.heap.size, 4, none⟩ = some (.int .i64 0) := (hb.cell (p := ⟨w.heap.size, 4, none⟩) (by simp)).trans (by simp)
  have f4 : w2.frozen? ⟨w.heap.size, 4, none⟩ = false := (hb.frozen (p := ⟨w.heap.size, 4, none⟩) (by simp)).trans (by simp)
  have c5 : w2.cell? ⟨w.heap.size, 5, none⟩ = some (.int .i64 0) := (hb.cell (p := ⟨w.heap.size, 5, none⟩) (by simp)).trans (by simp)
  have f5 : w2.frozen? ⟨w.heap.size, 5, none⟩ = false := (hb.frozen (p := ⟨w.heap.size, 5, none⟩) (by simp)).trans (by simp)
  have c6 : w2.cell? ⟨w.heap.size, 6, none⟩ = some (.int .i64 0) := (hb.cell (p := ⟨w.heap.size, 6, none⟩) (by simp)).trans (by simp)
  have f6 : w2.frozen? ⟨w.heap.size, 6, none⟩ = false := (hb.frozen (p := ⟨w.heap.size, 6, none⟩) (by simp)).trans (by simp)
  have c7 : w2.cell? ⟨w.heap.size, 7, none⟩ = some (.int .i64 0) := (hb.cell (p := ⟨w.heap.size, 7, none⟩) (by simp)).trans (by simp)
  have f7 : w2.frozen? ⟨w.heap.size, 7, none⟩ = false := (hb.frozen (p := ⟨w.heap.size, 7, none⟩) (by simp)).trans (by simp)
  have c8 : w2.cell? ⟨w.heap.size, 8, none⟩ = some (.int .i64 0) := (hb.cell (p := ⟨w.heap.size, 8, none⟩) (by simp)).trans (by simp)
  have f8 : w2.frozen? ⟨w.heap.size, 8, none⟩ = false := (hb.frozen (p := ⟨w.heap.size, 8, none⟩) (by simp)).trans (by simp)
  have c9 : w2.cell? ⟨w.heap.size, 9, none⟩ = some (.int .i64 0) := (hb.cell (p := ⟨w.heap.size, 9, none⟩) (by simp)).trans (by simp)
  have f9 : w2.frozen? ⟨w.heap.size, 9, none⟩ = false := (hb.frozen (p := ⟨w.heap.size, 9, none⟩) (by simp)).trans (by simp)
  have c10 : w2.cell? ⟨w.heap.size, 10, none⟩ = some (.int .i64 0) := (hb.cell (p := ⟨w.heap.size, 10, none⟩) (by simp)).trans (by simp)
  have f10 : w2.frozen? ⟨w.heap.size, 10, none⟩ = false := (hb.frozen (p := ⟨w.heap.size, 10, none⟩) (by simp)).trans (by simp)
  have c11 : w2.cell? ⟨w.heap.size, 11, none⟩ = some (.int .i64 0) := (hb.cell (p := ⟨w.heap.size, 11, none⟩) (by simp)).trans (by simp)
  have f11 : w2.frozen? ⟨w.heap.size, 11, none⟩ = false := (hb.frozen (p := ⟨w.heap.size, 11, none⟩) (by simp)).trans (by simp)
  have c12 : w2.cell? ⟨w.heap.size, 12, none⟩ = some (.int .i64 0) := (hb.cell (p := ⟨w.heap.size, 12, none⟩) (by simp)).trans (by simp)
  have f12 : w2.frozen? ⟨w.heap.size, 12, none⟩ = false := (hb.frozen (p := ⟨w.heap.size, 12, none⟩) (by simp)).trans (by simp)
  have hz : w.heap.size < w2.heap.size := by have := hb.size; simp at this; omega
  have HB : Hid (Below w.heap.size w w2) := Below.trans ((Below.refl _ _).alloc (Nat.le_refl _) _) (hb.mono (by simp))
  clear hb
  go_wp2_with fail
  refine bodyPost_ret (v := .agg #[.int .i64 1, .int .i64 1, .int .i64 1, .int .i64 2, .int .i64 1, .int .i64 1, .int .i64 0, .int .i64 1, .int .i64 1, .int .i64 3, .int .i64 8, .int .i64 1, .int .i64 1]) (by simp [results, Tryz.results15, go_sem, c0, c1, c2, c3, c4, c5, c6, c7, c8, c9, c10, c11, c12]) rfl ⟨rfl, ?_⟩
  iterate 13 (refine Below.setCell ?_ (by simp) _)
  exact HB.out
theorem eok_leaf (w : World) (s : ByteArray) (hs : s.size ≤ maxLen) : EOk w s none 0 [] := ⟨hs, by simp, Nat.zero_le _, by simp [Kd]⟩
theorem Cs.lok {W : World} {b : Nat} {o n o' n' : Int} {s s' : ByteArray} {A A' : Option Addr} {c c' l l' : Nat} {ks ks' : List ET} (h : Cs W b [.int .i64 o, .int .i64 n, .string s, .slice A l c, .int .i64 o', .int .i64 n', .string s', .slice A' l' c'])
    (hl : ks.length = l) (hl' : ks'.length = l') (hE : EOk W s A c ks) (hE' : EOk W s' A' c' ks') : LOk W (some ⟨b, 0, none⟩) 2 [.mk o n s ks, .mk o' n' s' ks'] :=
  LOk.two hE hE' (Below.refl _ _) h.lt (by omega) (by unfold maxLen; omega) (h.cell 0 _ rfl) (h.cell 1 _ rfl) (h.cell 2 _ rfl) (by rw [hl]; exact h.cell 3 _ rfl) (h.cell 4 _ rfl) (h.cell 5 _ rfl) (h.cell 6 _ rfl) (by rw [hl']; exact h.cell 7 _ rfl)
/-- The law's model and place, in memory. -/
structure Kn (w W : World) (b p g : Nat) (C : CM) : Prop where
  below : Below w.heap.size w W
  hw : w.heap.size ≤ b
  hb : b < p ∧ b < g
  cb : Cs W b [.int .i64 C.c0, .int .i64 C.c1, .int .i64 C.c2, .int .i64 C.c3, .int .i64 C.c4, .int .i64 C.c5, .int .i64 C.c6, .int .i64 C.c7, .int .i64 C.c8, .int .i64 C.c9, .int .i64 C.c10, .int .i64 C.c11, .int .i64 C.c12]
  cg : Cs W g [.int .i64 3, .int .i64 0, .string ⟨#[98]⟩, .slice none 0 0, .int .i64 3, .int .i64 0, .string ⟨#[105]⟩, .slice none 0 0]
  cp : Cs W p [.int .i64 5, .int .i64 0, .string ⟨#[]⟩, .slice (some ⟨g, 0, none⟩) 2 2]
theorem Kn.next {w W W' : World} {b p g : Nat} {C : CM} (h : Kn w W b p g C) (hb : Below W.heap.size W W') : Kn w W' b p g C :=
  ⟨h.below.trans (hb.mono h.below.size), h.hw, h.hb, h.cb.next hb, h.cg.next hb, h.cp.next hb⟩
/-- The law's expression, too. -/
structure Kf (w W : World) (b p g q g3 g4 : Nat) (C : CM) : Prop where
  kn : Kn w W b p g C
  hb : b < q ∧ b < g3 ∧ b < g4
  c4 : Cs W g4 [.int .i64 5, .int .i64 0, .string ⟨#[]⟩, .slice (some ⟨g, 0, none⟩) 2 2, .int .i64 0, .int .i64 2, .string ⟨#[]⟩, .slice none 0 0]
  c3 : Cs W g3 [.int .i64 3, .int .i64 0, .string ⟨#[97]⟩, .slice none 0 0, .int .i64 10, .int .i64 0, .string ⟨#[]⟩, .slice (some ⟨g4, 0, none⟩) 2 2]
  cq : Cs W q [.int .i64 8, .int .i64 0, .string ⟨#[]⟩, .slice (some ⟨g3, 0, none⟩) 2 2]
theorem Kf.next {w W W' : World} {b p g q g3 g4 : Nat} {C : CM} (h : Kf w W b p g q g3 g4 C) (hb : Below W.heap.size W W') : Kf w W' b p g q g3 g4 C :=
  ⟨h.kn.next hb, h.hb, h.c4.next hb, h.c3.next hb, h.cq.next hb⟩
theorem Kf.set {w W : World} {b p g q g3 g4 : Nat} (h : Kf w W b p g q g3 g4 ⟨1, 1, 1, 2, 1, 1, 0, 1, 1, 3, 8, 1, 1⟩) : Kf w (W.setCell ⟨b, 6, none⟩ (.int .i64 2)) b p g q g3 g4 ⟨1, 1, 1, 2, 1, 1, 2, 1, 1, 3, 8, 1, 1⟩ := by
  obtain ⟨⟨k1, k2, k3, k4, k5, k6⟩, j1, j2, j3, j4⟩ := h
  exact ⟨⟨k1.setCell k2 _, k2, k3, k4.set 6 _ (by simp), k5.other (by show b ≠ g; omega) _, k6.other (by show b ≠ p; omega) _⟩, j1, j2.other (by show b ≠ g4; omega) _, j3.other (by show b ≠ g3; omega) _, j4.other (by show b ≠ q; omega) _⟩
theorem Kn.pl {w W : World} {b p g : Nat} {C : CM} (h : Kn w W b p g C) : LOk W (some ⟨g, 0, none⟩) 2 [nmT ⟨#[98]⟩, nmT ⟨#[105]⟩] := h.cg.lok rfl rfl (eok_leaf W _ (by decide)) (eok_leaf W _ (by decide))
theorem Kf.ex {w W : World} {b p g q g3 g4 : Nat} {C : CM} (h : Kf w W b p g q g3 g4 C) : LOk W (some ⟨g3, 0, none⟩) 2 [nmT ⟨#[97]⟩, mulT] :=
  h.c3.lok rfl rfl (eok_leaf W _ (by decide)) (h.c4.lok rfl rfl h.kn.pl (eok_leaf W _ (by decide)))
set_option maxRecDepth 100000 in
set_option maxHeartbeats 20000000 in
theorem known_t (w : World) (hm : ML w) :
    Calls Tryz.prog 5 #[] w fun e w' => e = .returned (.bool true) ∧ Below w.heap.size w w' := by
  go_enter Tryz.func5, Tryz.ntmps5
  go_wp2_with fail
  refine (default_b _).mono ?_
  rintro e w1 ⟨rfl, hb1⟩
  have HB1 := Lib.hid hb1
  clear hb1
  go_wp2_with fail
  refine (name_b _ _).mono ?_
  rintro e w2 ⟨rfl, hb2⟩
  have HB2 := Lib.hid hb2
  clear hb2
  go_wp2_with fail
  refine (name_b _ _).mono ?_
  rintro e w3 ⟨rfl, hb3⟩
  have HB3 := Lib.hid hb3
  clear hb3
  go_upto_region 3 with fail
  have KN : Hid (Kn w ((w3.alloc (.cells #[.int .i64 3, .int .i64 0, .string ⟨#[98]⟩, .slice none 0 0, .int .i64 3, .int .i64 0, .string ⟨#[105]⟩, .slice none 0 0] 44)).alloc (.cells #[.int .i64 5, .int .i64 0, .string ⟨#[]⟩, .slice (some ⟨w3.heap.size, 0, none⟩) 2 2] 44)) w1.heap.size (w3.heap.size + 1) w3.heap.size ⟨1, 1, 1, 2, 1, 1, 0, 1, 1, 3, 8, 1, 1⟩) := by
    have h1 := HB1.out
    have h2 := HB2.out
    have h3 := HB3.out
    have z1 := h1.size
    have z2 := h2.size
    have z3 := h3.size
    simp at z2
    have h12 : Below w1.heap.size w1 w2 := ((Below.refl _ _).alloc (Nat.le_refl _) _).trans (h2.mono (by simp))
    have h13 : Below w1.heap.size w1 w3 := h12.trans (h3.mono (by omega))
    refine ⟨(((h1.trans (h13.mono h1.size)).alloc (by omega) _).alloc (by simp; omega) _), h1.size, ⟨by omega, by omega⟩, ?_, ?_, ?_⟩
    · exact ((((Cs.new w1 _ _).next h2).next h3).alloc _).alloc _
    · exact (Cs.new w3 _ _).alloc _
    · have := Cs.new (w3.alloc (.cells #[.int .i64 3, .int .i64 0, .string ⟨#[98]⟩, .slice none 0 0, .int .i64 3, .int .i64 0, .string ⟨#[105]⟩, .slice none 0 0] 44)) #[.int .i64 5, .int .i64 0, .string ⟨#[]⟩, .slice (some ⟨w3.heap.size, 0, none⟩) 2 2] 44
      simpa using this
  generalize (w3.alloc _).alloc _ = W at KN ⊢
  generalize w1.heap.size = b at KN ⊢
  generalize w3.heap.size = g at KN ⊢
  clear HB1 HB2 HB3
  go_cut [3, 18, 20] (fun u v x wc => ∃ q g3 g4, u = .pointer (some ⟨q, 0, none⟩) ∧ v = .slice (some ⟨g4, 0, none⟩) 2 2 ∧ x = .slice (some ⟨g3, 0, none⟩) 2 2 ∧ Hid (Kf w wc b (g + 1) g q g3 g4 ⟨1, 1, 1, 2, 1, 1, 0, 1, 1, 3, 8, 1, 1⟩))
  case first =>
    have p0 := KN.out.cp.cell 0 _ rfl
    have p1 := KN.out.cp.cell 1 _ rfl
    have p2 := KN.out.cp.cell 2 _ rfl
    have p3 := KN.out.cp.cell 3 _ rfl
    have hgp := KN.out.cp.lt
    have hgp0 : g + 1 < W.heap.size + 1 := by omega
    have r6 : W.heap.size < W.heap.size + 1 + 1 := by omega
    go_region_held_law (fun W => W.cell? ⟨g + 1, 0, none⟩ = some (.int .i64 5) ∧ W.cell? ⟨g + 1, 1, none⟩ = some (.int .i64 0) ∧ W.cell? ⟨g + 1, 2, none⟩ = some (.string ⟨#[]⟩) ∧ W.cell? ⟨g + 1, 3, none⟩ = some (.slice (some ⟨g, 0, none⟩) 2 2))
      (first | go_keep | (refine ⟨?_, ?_, ?_, ?_⟩ <;> go_simp))
      ((go_simp; go_at_call 16; refine (name_b _ _).mono ?_; rintro e w5 ⟨rfl, hb⟩; obtain ⟨hc, hf⟩ := bcell hb; have q0 : w5.cell? ⟨g + 1, 0, none⟩ = some (.int .i64 5) := (hc (g + 1) 0 (by simp; omega)).trans (by go_simp); have q1 : w5.cell? ⟨g + 1, 1, none⟩ = some (.int .i64 0) := (hc (g + 1) 1 (by simp; omega)).trans (by go_simp); have q2 : w5.cell? ⟨g + 1, 2, none⟩ = some (.string ⟨#[]⟩) := (hc (g + 1) 2 (by simp; omega)).trans (by go_simp); have q3 : w5.cell? ⟨g + 1, 3, none⟩ = some (.slice (some ⟨g, 0, none⟩) 2 2) := (hc (g + 1) 3 (by simp; omega)).trans (by go_simp); have hz := hb.size; simp at hz; (first | (have r0 : W.heap.size < w5.heap.size := (by omega)) | (have r0 : True := trivial)); (first | (have r1 : W.heap.size + 1 < w5.heap.size := (by omega)) | (have r1 : True := trivial)); (first | (have r2 : W.heap.size < w5.heap.size + 1 := (by omega)) | (have r2 : True := trivial)); (first | (have r3 : W.heap.size + 1 < w5.heap.size + 1 := (by omega)) | (have r3 : True := trivial)); (have r4 : W.heap.size < w5.heap.size + 1 + 1 := (by omega)); (first | (have r5 : W.heap.size + 1 < w5.heap.size + 1 + 1 := (by omega)) | (have r5 : True := trivial)); have hgp5 : g + 1 < w5.heap.size := (by omega); have hgp6 : g + 1 < w5.heap.size + 1 := (by omega); have hgp7 : g + 1 < w5.heap.size + 1 + 1 := (by omega); have HB5 := Lib.hid hb; clear hb))
    all_goals
      go_wp2_with fail
      go_meet
      case rel =>
        refine ⟨_, _, _, rfl, rfl, rfl, ?_⟩
        have hbl := KN.out.cb.lt
        have HQ : Below W.heap.size W w5 := Below.trans (by (repeat' (first | exact Below.refl _ _ | refine Below.drew ?_ | refine below_drewN ?_ _ | refine Below.alloc ?_ (by simp; try omega) _ | refine Below.setCell ?_ (by simp; try omega) _))) (HB5.out.mono (by simp; try omega))
        refine ⟨KN.out.next ?_, ⟨?_, ?_, ?_⟩, Cs.of8 ?_ ?_ ?_ ?_ ?_ ?_ ?_ ?_ ?_ ?_, Cs.of8 ?_ ?_ ?_ ?_ ?_ ?_ ?_ ?_ ?_ ?_, Cs.of4 ?_ ?_ ?_ ?_ ?_ ?_⟩
        · (repeat' (first | refine Below.alloc ?_ (by first | omega | (simp; done) | (simp; omega)) _ | refine Below.setCell ?_ (by first | omega | (simp; done) | (simp; omega)) _))
          exact HQ
        all_goals clear HQ HB5 KN
        all_goals first
          | omega
          | (intro j; go_simp; done)
          | (go_simp; done)
          | (simp; omega)
  case rest =>
    obtain ⟨q, g3, g4, rfl, rfl, rfl, K⟩ := hcut
    have k0 := K.out.kn.cb.cell 0 _ rfl
    have k1 := K.out.kn.cb.cell 1 _ rfl
    have k2 := K.out.kn.cb.cell 2 _ rfl
    have k3 := K.out.kn.cb.cell 3 _ rfl
    have k4 := K.out.kn.cb.cell 4 _ rfl
    have k5 := K.out.kn.cb.cell 5 _ rfl
    have k6 := K.out.kn.cb.cell 6 _ rfl
    have k7 := K.out.kn.cb.cell 7 _ rfl
    have k8 := K.out.kn.cb.cell 8 _ rfl
    have k9 := K.out.kn.cb.cell 9 _ rfl
    have k10 := K.out.kn.cb.cell 10 _ rfl
    have k11 := K.out.kn.cb.cell 11 _ rfl
    have k12 := K.out.kn.cb.cell 12 _ rfl
    have e0 := K.out.cq.cell 0 _ rfl
    have e1 := K.out.cq.cell 1 _ rfl
    have e2 := K.out.cq.cell 2 _ rfl
    have e3 := K.out.cq.cell 3 _ rfl
    go_wp2_with fail
    refine (expr_b ⟨1, 1, 1, 2, 1, 1, 0, 1, 1, 3, 8, 1, 1⟩ 8 0 ⟨#[]⟩ [nmT ⟨#[97]⟩, mulT] (some ⟨g3, 0, none⟩) 2 2 5 0 _ (hm.below hm.pos K.out.kn.below) rfl known_4.1 known_4.2.1 K.out.ex (Lib.hid known_1)).mono ?_
    rintro e w6 ⟨rfl, hb⟩
    have K6 := Lib.hid (K.out.next hb)
    clear hb K k0 k1 k2 k3 k4 k5 k6 k7 k8 k9 k10 k11 k12 e0 e1 e2 e3
    have k6 := K6.out.kn.cb.cell 6 _ rfl
    have f6 := K6.out.kn.cb.free 6
    go_upto_region 6 with fail
    have K7 := Lib.hid K6.out.set
    generalize w6.setCell ⟨b, 6, none⟩ (.int .i64 2) = w7 at K7 ⊢
    clear K6 k6 f6
    have k0 := K7.out.kn.cb.cell 0 _ rfl
    have k1 := K7.out.kn.cb.cell 1 _ rfl
    have k2 := K7.out.kn.cb.cell 2 _ rfl
    have k3 := K7.out.kn.cb.cell 3 _ rfl
    have k4 := K7.out.kn.cb.cell 4 _ rfl
    have k5 := K7.out.kn.cb.cell 5 _ rfl
    have k6 := K7.out.kn.cb.cell 6 _ rfl
    have k7 := K7.out.kn.cb.cell 7 _ rfl
    have k8 := K7.out.kn.cb.cell 8 _ rfl
    have k9 := K7.out.kn.cb.cell 9 _ rfl
    have k10 := K7.out.kn.cb.cell 10 _ rfl
    have k11 := K7.out.kn.cb.cell 11 _ rfl
    have k12 := K7.out.kn.cb.cell 12 _ rfl
    have e0 := K7.out.cq.cell 0 _ rfl
    have e1 := K7.out.cq.cell 1 _ rfl
    have e2 := K7.out.cq.cell 2 _ rfl
    have e3 := K7.out.cq.cell 3 _ rfl
    go_wp2_with fail
    refine (expr_b ⟨1, 1, 1, 2, 1, 1, 2, 1, 1, 3, 8, 1, 1⟩ 8 0 ⟨#[]⟩ [nmT ⟨#[97]⟩, mulT] (some ⟨g3, 0, none⟩) 2 2 11 0 _ (hm.below hm.pos K7.out.kn.below) rfl known_4.1 known_4.2.1 K7.out.ex (Lib.hid known_2)).mono ?_
    rintro e w8 ⟨rfl, hb⟩
    have K8 := Lib.hid (K7.out.next hb)
    clear hb K7 k0 k1 k2 k3 k4 k5 k6 k7 k8 k9 k10 k11 k12 e0 e1 e2 e3
    have k0 := K8.out.kn.cb.cell 0 _ rfl
    have k1 := K8.out.kn.cb.cell 1 _ rfl
    have k2 := K8.out.kn.cb.cell 2 _ rfl
    have k3 := K8.out.kn.cb.cell 3 _ rfl
    have k4 := K8.out.kn.cb.cell 4 _ rfl
    have k5 := K8.out.kn.cb.cell 5 _ rfl
    have k6 := K8.out.kn.cb.cell 6 _ rfl
    have k7 := K8.out.kn.cb.cell 7 _ rfl
    have k8 := K8.out.kn.cb.cell 8 _ rfl
    have k9 := K8.out.kn.cb.cell 9 _ rfl
    have k10 := K8.out.kn.cb.cell 10 _ rfl
    have k11 := K8.out.kn.cb.cell 11 _ rfl
    have k12 := K8.out.kn.cb.cell 12 _ rfl
    have p0 := K8.out.kn.cp.cell 0 _ rfl
    have p1 := K8.out.kn.cp.cell 1 _ rfl
    have p2 := K8.out.kn.cp.cell 2 _ rfl
    have p3 := K8.out.kn.cp.cell 3 _ rfl
    go_wp2_with fail
    refine (place_c ⟨1, 1, 1, 2, 1, 1, 2, 1, 1, 3, 8, 1, 1⟩ 5 0 ⟨#[]⟩ [nmT ⟨#[98]⟩, nmT ⟨#[105]⟩] (some ⟨g, 0, none⟩) 2 2 3 0 _ (hm.below hm.pos K8.out.kn.below) rfl known_4.2.2.1 known_4.2.2.2 K8.out.kn.pl (Lib.hid known_3)).mono ?_
    rintro e w9 ⟨rfl, hb⟩
    have K9 := Lib.hid (K8.out.next hb)
    clear hb K8 k0 k1 k2 k3 k4 k5 k6 k7 k8 k9 k10 k11 k12 p0 p1 p2 p3
    have k10 := K9.out.kn.cb.cell 10 _ rfl
    go_wp2_with fail
    go_ret
    exact ⟨rfl, K9.out.kn.below⟩
end Go.Proofs.YthlhicegchkjjaaGreatDoor
