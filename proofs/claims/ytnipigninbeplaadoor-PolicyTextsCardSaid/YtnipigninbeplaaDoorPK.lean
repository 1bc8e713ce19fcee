/-
  The walks over example and known.
  The walks over few and PolicyChecks.
-/
import Derived.Test.YtnipigninbeplaaDoorPI
import Derived.Test.YtnipigninbeplaaDoorPJ
import Derived.Test.YtnipigninbeplaaDoorPoZ
import Derived.Test.YtnipigninbeplaaDoorPF
import Derived.Deep.RegionHeld3
namespace Go.Proofs.YtnipigninbeplaaDoor
open Go.RowKit

def PyRes (w : World) (p : Py) (e : Ending) (w' : World) : Prop :=
  Below w.heap.size w w' ∧ ∃ (An : Option Addr) (ln cn : Nat) (Ao : Option Addr) (lo co : Nat) (Ai : Option Addr) (li ci : Nat) (Ah : Option Addr) (lh ch : Nat),
    e = .returned (.agg (pyV An ln cn Ao lo co Ai li ci Ah lh ch p.obs p.timed)) ∧ PyOk w' An ln cn Ao lo co Ai li ci Ah lh ch p
set_option maxRecDepth 100000 in
set_option maxHeartbeats 2000000 in
theorem example_b (w : World) : Calls Tryd.prog 22 #[] w fun e w' => PyRes w exPy e w' := by
  have HC0 := Lib.hid (Cs.new w #[.slice none 0 0, .slice none 0 0, .slice none 0 0, .slice none 0 0, .int .i64 0, .bool false] 26)
  have HB0 := Lib.hid ((Below.refl w.heap.size w).alloc (Nat.le_refl _) (.cells #[.slice none 0 0, .slice none 0 0, .slice none 0 0, .slice none 0 0, .int .i64 0, .bool false] 26))
  go_enter Tryd.func22, Tryd.ntmps22
  go_upto_region 1 with fail
  obtain ⟨W0, hW0⟩ : ∃ z, w.alloc (.cells #[.slice none 0 0, .slice none 0 0, .slice none 0 0, .slice none 0 0, .int .i64 0, .bool false] 26) = z := ⟨_, rfl⟩
  obtain ⟨p0, hp0⟩ : ∃ z, w.heap.size = z := ⟨_, rfl⟩
  have HB1 : Hid (Below w.heap.size w W0) := hW0 ▸ HB0
  have HC1 : Hid (Cs W0 p0 [.slice none 0 0, .slice none 0 0, .slice none 0 0, .slice none 0 0, .int .i64 0, .bool false]) := hW0 ▸ hp0 ▸ HC0
  rw [hW0, hp0]
  have HPP := Lib.hid hp0
  clear hW0 HB0 HC0 hp0
  have hpl := HC1.out.lt
  have HC4 := Lib.hid ((((HC1.out.alloc (.cells #[.string ⟨#[108, 111, 119]⟩, .string ⟨#[104, 105, 103, 104]⟩] 9)).alloc (.cells #[.int .i64 0, .int .i64 1] 42)).alloc (.cells #[.string ⟨#[112, 105, 110]⟩, .int .i64 1] 71)).alloc (.cells #[.string ⟨#[108, 97, 115, 116]⟩, .int .i64 0] 71))
  have c0 := HC4.out.at 0 _ rfl
  have c1 := HC4.out.at 1 _ rfl
  have c2 := HC4.out.at 2 _ rfl
  have c3 := HC4.out.at 3 _ rfl
  have c4 := HC4.out.at 4 _ rfl
  have c5 := HC4.out.at 5 _ rfl
  have f0 := HC4.out.free 0
  have f1 := HC4.out.free 1
  have f2 := HC4.out.free 2
  have f3 := HC4.out.free 3
  have f4 := HC4.out.free 4
  have f5 := HC4.out.free 5
  have HL4 := Lib.hid HC4.out.lt
  have HB4 : Hid (Below w.heap.size w ((((W0.alloc (.cells #[.string ⟨#[108, 111, 119]⟩, .string ⟨#[104, 105, 103, 104]⟩] 9)).alloc (.cells #[.int .i64 0, .int .i64 1] 42)).alloc (.cells #[.string ⟨#[112, 105, 110]⟩, .int .i64 1] 71)).alloc (.cells #[.string ⟨#[108, 97, 115, 116]⟩, .int .i64 0] 71))) := Lib.hid ((((HB1.out.alloc HB1.out.size _).alloc (by have := HB1.out.size; simp; omega) _).alloc (by have := HB1.out.size; simp; omega) _).alloc (by have := HB1.out.size; simp; omega) _)
  have HN1 := Lib.hid (((Cs.new W0 #[.string ⟨#[108, 111, 119]⟩, .string ⟨#[104, 105, 103, 104]⟩] 9).alloc (.cells #[.int .i64 0, .int .i64 1] 42)).alloc (.cells #[.string ⟨#[112, 105, 110]⟩, .int .i64 1] 71) |>.alloc (.cells #[.string ⟨#[108, 97, 115, 116]⟩, .int .i64 0] 71))
  have HN2 := Lib.hid ((Cs.new (W0.alloc (.cells #[.string ⟨#[108, 111, 119]⟩, .string ⟨#[104, 105, 103, 104]⟩] 9)) #[.int .i64 0, .int .i64 1] 42).alloc (.cells #[.string ⟨#[112, 105, 110]⟩, .int .i64 1] 71) |>.alloc (.cells #[.string ⟨#[108, 97, 115, 116]⟩, .int .i64 0] 71))
  have HN3 := Lib.hid ((Cs.new ((W0.alloc (.cells #[.string ⟨#[108, 111, 119]⟩, .string ⟨#[104, 105, 103, 104]⟩] 9)).alloc (.cells #[.int .i64 0, .int .i64 1] 42)) #[.string ⟨#[112, 105, 110]⟩, .int .i64 1] 71).alloc (.cells #[.string ⟨#[108, 97, 115, 116]⟩, .int .i64 0] 71))
  have HN4 := Lib.hid (Cs.new (((W0.alloc (.cells #[.string ⟨#[108, 111, 119]⟩, .string ⟨#[104, 105, 103, 104]⟩] 9)).alloc (.cells #[.int .i64 0, .int .i64 1] 42)).alloc (.cells #[.string ⟨#[112, 105, 110]⟩, .int .i64 1] 71)) #[.string ⟨#[108, 97, 115, 116]⟩, .int .i64 0] 71)
  have HSZ : Hid ((W0.alloc (.cells #[.string ⟨#[108, 111, 119]⟩, .string ⟨#[104, 105, 103, 104]⟩] 9)).heap.size = W0.heap.size + 1 ∧ ((W0.alloc (.cells #[.string ⟨#[108, 111, 119]⟩, .string ⟨#[104, 105, 103, 104]⟩] 9)).alloc (.cells #[.int .i64 0, .int .i64 1] 42)).heap.size = W0.heap.size + 1 + 1 ∧ (((W0.alloc (.cells #[.string ⟨#[108, 111, 119]⟩, .string ⟨#[104, 105, 103, 104]⟩] 9)).alloc (.cells #[.int .i64 0, .int .i64 1] 42)).alloc (.cells #[.string ⟨#[112, 105, 110]⟩, .int .i64 1] 71)).heap.size = W0.heap.size + 1 + 1 + 1) := Lib.hid ⟨by simp, by simp, by simp⟩
  have HPL := Lib.hid hpl
  clear hpl
  go_wp2_with fail
  obtain ⟨k0, k1, k2, k3, k4, k5⟩ := six_cells HC4.out (.slice (some ⟨W0.heap.size, 0, none⟩) 2 2) (.slice (some ⟨W0.heap.size + 1, 0, none⟩) 1 1) (.slice (some ⟨W0.heap.size + 1 + 1, 0, none⟩) 1 1) (.slice (some ⟨W0.heap.size + 1 + 1 + 1, 0, none⟩) 1 1) (.int .i64 0) (.bool true)
  refine bodyPost_ret (v := .agg #[.slice (some ⟨W0.heap.size, 0, none⟩) 2 2, .slice (some ⟨W0.heap.size + 1, 0, none⟩) 1 1, .slice (some ⟨W0.heap.size + 1 + 1, 0, none⟩) 1 1, .slice (some ⟨W0.heap.size + 1 + 1 + 1, 0, none⟩) 1 1, .int .i64 0, .bool true]) (by simp [results, Tryd.results22, go_sem, k0, k1, k2, k3, k4, k5]) rfl ?_
  refine ⟨below_six HB4.out (by rw [HPP.out]; exact Nat.le_refl _) _ _ _ _ _ _, some ⟨W0.heap.size, 0, none⟩, 2, 2, some ⟨W0.heap.size + 1, 0, none⟩, 1, 1, some ⟨W0.heap.size + 1 + 1, 0, none⟩, 1, 1, some ⟨W0.heap.size + 1 + 1 + 1, 0, none⟩, 1, 1, rfl, ?_⟩
  obtain ⟨z1, z2, z3⟩ := HSZ.out
  have hn1 := HN1.out
  have hn2 := HN2.out
  have hn3 := HN3.out
  have hn4 := HN4.out
  rw [z1] at hn2
  rw [z2] at hn3
  rw [z3] at hn4
  have hm : (2 : Nat) ≤ maxLen := by unfold maxLen; omega
  have hm1 : (1 : Nat) ≤ maxLen := by unfold maxLen; omega
  have hms : ∀ s : ByteArray, s.size ≤ 4 → s.size ≤ maxLen := fun s h => by unfold maxLen; omega
  have hP : PyOk ((((W0.alloc (.cells #[.string ⟨#[108, 111, 119]⟩, .string ⟨#[104, 105, 103, 104]⟩] 9)).alloc (.cells #[.int .i64 0, .int .i64 1] 42)).alloc (.cells #[.string ⟨#[112, 105, 110]⟩, .int .i64 1] 71)).alloc (.cells #[.string ⟨#[108, 97, 115, 116]⟩, .int .i64 0] 71)) (some ⟨W0.heap.size, 0, none⟩) 2 2 (some ⟨W0.heap.size + 1, 0, none⟩) 1 1 (some ⟨W0.heap.size + 1 + 1, 0, none⟩) 1 1 (some ⟨W0.heap.size + 1 + 1 + 1, 0, none⟩) 1 1 exPy := by
    refine ⟨⟨rfl, Nat.le_refl _, hm, fun x hx => ?_, fun _ => ⟨_, 0, rfl, hn1.lt, fun j hj => ?_⟩⟩, ⟨rfl, Nat.le_refl _, hm1, fun _ => ⟨_, 0, rfl, hn2.lt, fun j hj => ?_⟩⟩, ⟨rfl, Nat.le_refl _, hm1, fun x hx => ?_, fun _ => ⟨_, 0, rfl, hn3.lt, fun j hj => ?_⟩⟩, ⟨rfl, Nat.le_refl _, hm1, fun x hx => ?_, fun _ => ⟨_, 0, rfl, hn4.lt, fun j hj => ?_⟩⟩⟩
    · refine hms x ?_
      have : x = xLow ∨ x = xHigh := by simpa [exPy] using hx
      rcases this with rfl | rfl <;> decide
    · have hj' : j < 2 := hj
      match j, hj' with
      | 0, _ => exact hn1.at 0 _ rfl
      | 1, _ => exact hn1.at 1 _ rfl
    · have hj' : j < 1 := hj
      match j, hj' with
      | 0, _ => exact ⟨hn2.at 0 _ rfl, hn2.at 1 _ rfl⟩
    · refine hms x.name ?_
      have : x = ⟨xPin, 1⟩ := by simpa [exPy] using hx
      subst this; decide
    · have hj' : j < 1 := hj
      match j, hj' with
      | 0, _ => exact ⟨hn3.at 0 _ rfl, hn3.at 1 _ rfl⟩
    · refine hms x.name ?_
      have : x = ⟨xLast, 0⟩ := by simpa [exPy] using hx
      subst this; decide
    · have hj' : j < 1 := hj
      match j, hj' with
      | 0, _ => exact ⟨hn4.at 0 _ rfl, hn4.at 1 _ rfl⟩
  refine hP.fr (six_fr (Fr.refl _ _) _ _ _ _ _ _) (fun a ha hb => ?_)
  have hpl := HPL.out
  rcases ha with h | h | h | h <;> (injection h with h; subst h; simp only at hb; omega)

set_option maxRecDepth 100000 in
set_option maxHeartbeats 4000000 in
theorem known_b (m : Int) (w : World) (hm : w.cell? ⟨0, 0, none⟩ = some (.int .i64 m)) : Calls Tryd.prog 8 #[] w fun e w' => e = .returned (.bool true) ∧ Below w.heap.size w w' := by
  have HM : Hid (∀ W, Below w.heap.size w W → W.cell? ⟨0, 0, none⟩ = some (.int .i64 m)) := Lib.hid (fun W hb => (hb.cell (p := ⟨0, 0, none⟩) (World.block_lt_of_cell? _ _ hm)).trans hm)
  obtain ⟨kx, hkx⟩ := mk_bytes exT
  have HPR : Hid (printC exPy = (kx.data.toList, 0)) := Lib.hid (by rw [hkx]; exact ex_print)
  have HPA : Hid (parC kx.data.toList = ((0, 0), exPy)) := Lib.hid (by rw [hkx]; exact ex_parse)
  have HP2 : Hid (parC (⟨#[108, 101, 118, 101, 108, 115, 32, 108, 111, 119, 10, 111, 98, 115, 101, 114, 118, 101, 32, 104, 105, 103, 104]⟩ : ByteArray).data.toList = ((2, 7), Py.zero)) := Lib.hid ex_parse2
  have HKX : Hid (kx.toList = exT) := Lib.hid (by rw [ByteArray.toList_eq]; exact hkx)
  have HKZ : Hid (kx.size ≤ maxLen) := Lib.hid (by rw [bsize_len, hkx]; unfold maxLen; decide)
  clear hm hkx
  go_enter Tryd.func8, Tryd.ntmps8
  go_upto_region 3 with (first
    | (go_at_call 22; refine (example_b _).mono ?_; rintro e w1 ⟨hb1, An, ln, cn, Ao, lo, co, Ai, li, ci, Ah, lh, ch, rfl, hp1⟩; have HB1 := Lib.hid hb1; have HE1 := Lib.hid hp1; clear hb1 hp1)
    | (go_at_call 12; refine (print_b exPy An ln cn Ao lo co Ai li ci Ah lh ch (by have := HE1.out.o.len; simp [exPy] at this; omega) kx 0 HPR _ HE1.out).mono ?_; rintro e w2 ⟨rfl, hb2⟩; have HB2 := Lib.hid (HB1.out.trans (hb2.mono HB1.out.size)); clear hb2)
    | (go_at_call 14; refine (parse_b kx HKZ.out ((0, 0), exPy) HPA m _ (HM.out _ HB2.out)).mono ?_; rintro e w3 ⟨hb3, An3, ln3, cn3, Ao3, lo3, co3, Ai3, li3, ci3, Ah3, lh3, ch3, he, hp3⟩; have he' : e = .returned (.tuple #[.agg #[.slice An3 ln3 cn3, .slice Ao3 lo3 co3, .slice Ai3 li3 ci3, .slice Ah3 lh3 ch3, .int .i64 0, .bool true], .int .i64 0, .int .i64 0]) := he; subst he'; have HE3 := Lib.hid hp3; have HB3 := Lib.hid (HB2.out.trans (hb3.mono HB2.out.size)); clear hb3 hp3 he) | fail)
  have HC4 := Lib.hid (Cs.new w3 #[.slice An3 ln3 cn3, .slice Ao3 lo3 co3, .slice Ai3 li3 ci3, .slice Ah3 lh3 ch3, .int .i64 0, .bool true] 26)
  have HB4 := Lib.hid (HB3.out.alloc HB3.out.size (.cells #[.slice An3 ln3 cn3, .slice Ao3 lo3 co3, .slice Ai3 li3 ci3, .slice Ah3 lh3 ch3, .int .i64 0, .bool true] 26))
  have HE4 := Lib.hid (HE3.out.below ((Below.refl _ _).alloc (Nat.le_refl _) (.cells #[.slice An3 ln3 cn3, .slice Ao3 lo3 co3, .slice Ai3 li3 ci3, .slice Ah3 lh3 ch3, .int .i64 0, .bool true] 26)))
  obtain ⟨w4, hw4⟩ : ∃ z, w3.alloc (.cells #[.slice An3 ln3 cn3, .slice Ao3 lo3 co3, .slice Ai3 li3 ci3, .slice Ah3 lh3 ch3, .int .i64 0, .bool true] 26) = z := ⟨_, rfl⟩
  obtain ⟨q, hq⟩ : ∃ z, w3.heap.size = z := ⟨_, rfl⟩
  rw [hw4, hq] at HC4
  rw [hw4] at HB4 HE4
  rw [hw4, hq]
  clear hw4 hq HE3 HB3 HB2 HE1 HB1
  go_upto_region 4 with (first
    | (go_at_call 14; refine (parse_b _ (by unfold maxLen; decide) ((2, 7), Py.zero) HP2 m _ (HM.out _ HB4.out)).mono ?_; rintro e w5 ⟨hb5, An5, ln5, cn5, Ao5, lo5, co5, Ai5, li5, ci5, Ah5, lh5, ch5, he, _⟩; have he' : e = .returned (.tuple #[.agg #[.slice An5 ln5 cn5, .slice Ao5 lo5 co5, .slice Ai5 li5 ci5, .slice Ah5 lh5 ch5, .int .i64 0, .bool false], .int .i64 2, .int .i64 7]) := he; subst he'; have HE5 := Lib.hid (HE4.out.below hb5); have HC5 := Lib.hid (HC4.out.next hb5); have HB5 := Lib.hid (HB4.out.trans (hb5.mono HB4.out.size)); clear hb5 he) | fail)
  have HC6 := Lib.hid (HC5.out.alloc (.cells #[.slice An5 ln5 cn5, .slice Ao5 lo5 co5, .slice Ai5 li5 ci5, .slice Ah5 lh5 ch5, .int .i64 0, .bool false] 26))
  have HB6 := Lib.hid (HB5.out.alloc HB5.out.size (.cells #[.slice An5 ln5 cn5, .slice Ao5 lo5 co5, .slice Ai5 li5 ci5, .slice Ah5 lh5 ch5, .int .i64 0, .bool false] 26))
  have HE6 := Lib.hid (HE5.out.below ((Below.refl _ _).alloc (Nat.le_refl _) (.cells #[.slice An5 ln5 cn5, .slice Ao5 lo5 co5, .slice Ai5 li5 ci5, .slice Ah5 lh5 ch5, .int .i64 0, .bool false] 26)))
  obtain ⟨w6, hw6⟩ : ∃ z, w5.alloc (.cells #[.slice An5 ln5 cn5, .slice Ao5 lo5 co5, .slice Ai5 li5 ci5, .slice Ah5 lh5 ch5, .int .i64 0, .bool false] 26) = z := ⟨_, rfl⟩
  obtain ⟨q6, hq6⟩ : ∃ z, w5.heap.size = z := ⟨_, rfl⟩
  rw [hw6] at HC6 HB6 HE6
  rw [hw6, hq6]
  clear hw6 hq6 HE4 HC4 HB4 HE5 HC5 HB5
  have KP : Hid (∀ W, Cs W q [.slice An3 ln3 cn3, .slice Ao3 lo3 co3, .slice Ai3 li3 ci3, .slice Ah3 lh3 ch3, .int .i64 0, .bool true] → (W.cell? ⟨q, 0, none⟩ = some (.slice An3 ln3 cn3) ∧ W.cell? ⟨q, 1, none⟩ = some (.slice Ao3 lo3 co3) ∧ W.cell? ⟨q, 2, none⟩ = some (.slice Ai3 li3 ci3) ∧ W.cell? ⟨q, 3, none⟩ = some (.slice Ah3 lh3 ch3) ∧ W.cell? ⟨q, 4, none⟩ = some (.int .i64 0) ∧ W.cell? ⟨q, 5, none⟩ = some (.bool true))) := Lib.hid (fun W h => ⟨h.at 0 _ rfl, h.at 1 _ rfl, h.at 2 _ rfl, h.at 3 _ rfl, h.at 4 _ rfl, h.at 5 _ rfl⟩)
  have HWF : Hid (∀ q ∈ exPy.order, (Lit.int .i64 q.1).wf = true ∧ (Lit.int .i64 q.2).wf = true) := Lib.hid (fun q hq => by rw [List.mem_singleton.1 hq]; exact ⟨by decide, by decide⟩)
  have HX6 := Lib.hid HC6.out.drew
  have HY6 := Lib.hid (HE6.out.below (Below.refl _ _).drew)
  have HB7 := Lib.hid HB6.out.drew
  have hkx' : (kx.toList == [108, 101, 118, 101, 108, 115, 32, 108, 111, 119, 44, 32, 104, 105, 103, 104, 10, 111, 114, 100, 101, 114, 32, 108, 111, 119, 32, 60, 32, 104, 105, 103, 104, 10, 105, 110, 112, 117, 116, 32, 112, 105, 110, 32, 104, 105, 103, 104, 10, 104, 97, 116, 99, 104, 32, 108, 97, 115, 116, 32, 108, 111, 119, 10, 111, 98, 115, 101, 114, 118, 101, 32, 108, 111, 119, 32, 116, 105, 109, 101, 100, 10]) = true := by rw [HKX.out]; rfl
  go_region_held3 (fun W => W.cell? ⟨q, 0, none⟩ = some (.slice An3 ln3 cn3) ∧ W.cell? ⟨q, 1, none⟩ = some (.slice Ao3 lo3 co3) ∧ W.cell? ⟨q, 2, none⟩ = some (.slice Ai3 li3 ci3) ∧ W.cell? ⟨q, 3, none⟩ = some (.slice Ah3 lh3 ch3) ∧ W.cell? ⟨q, 4, none⟩ = some (.int .i64 0) ∧ W.cell? ⟨q, 5, none⟩ = some (.bool true)) (first | with_reducible exact KP.out _ HX8.out | with_reducible exact KP.out _ HX7.out | with_reducible exact KP.out _ HX6.out) (first
    | (go_at_call 16; refine (same_b exPy ln3 lo3 li3 lh3 An3 cn3 Ao3 co3 Ai3 ci3 Ah3 ch3 An7 cn7 Ao7 co7 Ai7 ci7 Ah7 ch7 _ HY7.out HE7.out HWF.out).mono ?_; rintro e w8 ⟨rfl, hb8⟩; have HX8 := Lib.hid (HX7.out.next hb8); have HB9 := Lib.hid (HB8.out.trans (hb8.mono HB8.out.size)); clear hb8)
    | (go_at_call 22; refine (example_b _).mono ?_; rintro e w7 ⟨hb7, An7, ln7, cn7, Ao7, lo7, co7, Ai7, li7, ci7, Ah7, lh7, ch7, he, hp7⟩; obtain rfl : ln3 = ln7 := HE6.out.n.len.symm.trans hp7.n.len; obtain rfl : lo3 = lo7 := HE6.out.o.len.symm.trans hp7.o.len; obtain rfl : li3 = li7 := HE6.out.i.len.symm.trans hp7.i.len; obtain rfl : lh3 = lh7 := HE6.out.h.len.symm.trans hp7.h.len; subst he; have HX7 := Lib.hid (HX6.out.next hb7); have HY7 := Lib.hid (HY6.out.below hb7); have HE7 := Lib.hid hp7; have HB8 := Lib.hid (HB7.out.trans (hb7.mono HB7.out.size)); clear hb7 hp7))
  go_wp2_with fail
  go_ret
  exact ⟨rfl, HB9.out⟩

/-- Has a policy few elements? -/
def fewB (m : Int) (ln lo li lh : Nat) : Bool := decide ((ln : Int) ≤ m) && (decide ((lo : Int) ≤ 2 * m) && (decide ((li : Int) ≤ m) && decide ((lh : Int) ≤ m)))
set_option maxRecDepth 100000 in
set_option maxHeartbeats 2000000 in
theorem few_b (p : Py) (An : Option Addr) (ln cn : Nat) (Ao : Option Addr) (lo co : Nat) (Ai : Option Addr) (li ci : Nat) (Ah : Option Addr) (lh ch : Nat) (m : Int) (h0 : 0 ≤ m) (h1 : m ≤ 1000) (b : Bool) (H : Hid (fewB m ln lo li lh = b)) (w : World) (hp : PyOk w An ln cn Ao lo co Ai li ci Ah lh ch p) :
    Calls Tryd.prog 9 #[.agg (pyV An ln cn Ao lo co Ai li ci Ah lh ch p.obs p.timed), .int .i64 m] w fun e w' => e = .returned (.bool b) ∧ Below w.heap.size w w' := by
  have hln : ln ≤ 9223372036854775807 := by have := hp.n.cap; have := hp.n.big; unfold maxLen at this; omega
  have hlo : lo ≤ 9223372036854775807 := by have := hp.o.cap; have := hp.o.big; unfold maxLen at this; omega
  have hli : li ≤ 9223372036854775807 := by have := hp.i.cap; have := hp.i.big; unfold maxLen at this; omega
  have hlh : lh ≤ 9223372036854775807 := by have := hp.h.cap; have := hp.h.big; unfold maxLen at this; omega
  have HC0 := Lib.hid (Cs.new w (pyV An ln cn Ao lo co Ai li ci Ah lh ch p.obs p.timed) 26)
  have HB0 := Lib.hid ((Below.refl w.heap.size w).alloc (Nat.le_refl _) (.cells (pyV An ln cn Ao lo co Ai li ci Ah lh ch p.obs p.timed) 26))
  unfold pyV at HC0 HB0 ⊢
  clear hp
  have c0 := HC0.out.at 0 _ rfl
  have c1 := HC0.out.at 1 _ rfl
  have c2 := HC0.out.at 2 _ rfl
  have c3 := HC0.out.at 3 _ rfl
  by_cases g1 : (ln : Int) ≤ m
  · by_cases g2 : (lo : Int) ≤ 2 * m
    · by_cases g3 : (li : Int) ≤ m
      · by_cases g4 : (lh : Int) ≤ m
        · obtain rfl : b = true := by rw [← H.out]; unfold fewB; simp [g1, g2, g3, g4]
          clear H
          go_enter Tryd.func9, Tryd.ntmps9
          go_wp2_with fail
          go_ret
          exact ⟨rfl, HB0.out⟩
        · obtain rfl : b = false := by rw [← H.out]; unfold fewB; simp [g4]
          clear H
          go_enter Tryd.func9, Tryd.ntmps9
          go_wp2_with fail
          go_ret
          exact ⟨rfl, HB0.out⟩
      · obtain rfl : b = false := by rw [← H.out]; unfold fewB; simp [g3]
        clear H
        go_enter Tryd.func9, Tryd.ntmps9
        go_wp2_with fail
        go_ret
        exact ⟨rfl, HB0.out⟩
    · obtain rfl : b = false := by rw [← H.out]; unfold fewB; simp [g2]
      clear H
      go_enter Tryd.func9, Tryd.ntmps9
      go_wp2_with fail
      go_ret
      exact ⟨rfl, HB0.out⟩
  · obtain rfl : b = false := by rw [← H.out]; unfold fewB; simp [g1]
    clear H
    go_enter Tryd.func9, Tryd.ntmps9
    go_wp2_with fail
    go_ret
    exact ⟨rfl, HB0.out⟩
/-- The cells of a policy. -/
theorem Cs.six {W : World} {b : Nat} {v0 v1 v2 v3 v4 v5 : Value} (h : Cs W b [v0, v1, v2, v3, v4, v5]) : W.cell? ⟨b, 0, none⟩ = some v0 ∧ W.cell? ⟨b, 1, none⟩ = some v1 ∧ W.cell? ⟨b, 2, none⟩ = some v2 ∧ W.cell? ⟨b, 3, none⟩ = some v3 ∧ W.cell? ⟨b, 4, none⟩ = some v4 ∧ W.cell? ⟨b, 5, none⟩ = some v5 :=
  ⟨h.at 0 _ rfl, h.at 1 _ rfl, h.at 2 _ rfl, h.at 3 _ rfl, h.at 4 _ rfl, h.at 5 _ rfl⟩
set_option maxRecDepth 100000 in
set_option maxHeartbeats 4000000 in
theorem checks_b (p : Py) (An : Option Addr) (ln cn : Nat) (Ao : Option Addr) (lo co : Nat) (Ai : Option Addr) (li ci : Nat) (Ah : Option Addr) (lh ch : Nat) (m : Int) (w : World) (hm : w.cell? ⟨0, 0, none⟩ = some (.int .i64 m)) (hp : PyOk w An ln cn Ao lo co Ai li ci Ah lh ch p) :
    Calls Tryd.prog 3 #[.agg (pyV An ln cn Ao lo co Ai li ci Ah lh ch p.obs p.timed)] w fun e w' => e = .returned (.bool true) ∧ Below w.heap.size w w' := by
  have HM := Lib.hid hm
  have HP := Lib.hid hp
  have HC0 := Lib.hid (Cs.new w (pyV An ln cn Ao lo co Ai li ci Ah lh ch p.obs p.timed) 26)
  have HB0 := Lib.hid ((Below.refl w.heap.size w).alloc (Nat.le_refl _) (.cells (pyV An ln cn Ao lo co Ai li ci Ah lh ch p.obs p.timed) 26))
  have HM0 : Hid ((w.alloc (.cells (pyV An ln cn Ao lo co Ai li ci Ah lh ch p.obs p.timed) 26)).cell? ⟨0, 0, none⟩ = some (.int .i64 m)) := Lib.hid ((HB0.out.cell (p := ⟨0, 0, none⟩) (World.block_lt_of_cell? _ _ hm)).trans hm)
  obtain ⟨fb, hfb⟩ : ∃ b, fewB 70 ln lo li lh = b := ⟨_, rfl⟩
  have HFB := Lib.hid hfb
  obtain ⟨r, hr⟩ : ∃ r, polC p = r := ⟨_, rfl⟩
  have HR := Lib.hid hr
  have HFU : Hid (pyV An ln cn Ao lo co Ai li ci Ah lh ch p.obs p.timed = #[.slice An ln cn, .slice Ao lo co, .slice Ai li ci, .slice Ah lh ch, .int .i64 p.obs, .bool p.timed]) := Lib.hid rfl
  unfold pyV at HC0 HB0 HM0 ⊢
  clear hm hp hfb hr
  go_enter Tryd.func3, Tryd.ntmps3
  go_upto_region 1 with fail
  obtain ⟨w1, hw1⟩ : ∃ z, w.alloc (.cells #[.slice An ln cn, .slice Ao lo co, .slice Ai li ci, .slice Ah lh ch, .int .i64 p.obs, .bool p.timed] 26) = z := ⟨_, rfl⟩
  obtain ⟨q, hq⟩ : ∃ z, w.heap.size = z := ⟨_, rfl⟩
  have HB1 : Hid (Below w.heap.size w w1) := hw1 ▸ HB0
  have HC1 : Hid (Cs w1 q [.slice An ln cn, .slice Ao lo co, .slice Ai li ci, .slice Ah lh ch, .int .i64 p.obs, .bool p.timed]) := hw1 ▸ hq ▸ HC0
  have HM1 : Hid (w1.cell? ⟨0, 0, none⟩ = some (.int .i64 m)) := hw1 ▸ HM0
  rw [hw1, hq]
  clear hw1 HB0 HC0 HM0 hq
  go_upto_region 3 with (first | (go_at_call 8; refine (known_b m _ HM1.out).mono ?_; rintro e w2 ⟨rfl, hb2⟩; have HB2 := Lib.hid (HB1.out.trans (hb2.mono HB1.out.size)); have HC2 := Lib.hid (HC1.out.next hb2); clear hb2) | fail)
  obtain ⟨c0, c1, c2, c3, c4, c5⟩ := HC2.out.six
  cases fb with
  | false =>
    go_wp2_with (first | (go_at_call 9; refine (few_b p An ln cn Ao lo co Ai li ci Ah lh ch 70 (by omega) (by omega) false HFB _ (HP.out.below HB2.out)).mono ?_; rintro e w3 ⟨rfl, hb3⟩; have HB3 := Lib.hid (HB2.out.trans (hb3.mono HB2.out.size)); clear hb3) | fail)
    go_ret
    exact ⟨rfl, HB3.out⟩
  | true =>
    go_upto_region 5 with (first | (go_at_call 9; refine (few_b p An ln cn Ao lo co Ai li ci Ah lh ch 70 (by omega) (by omega) true HFB _ (HP.out.below HB2.out)).mono ?_; rintro e w3 ⟨rfl, hb3⟩; have HB3 := Lib.hid (HB2.out.trans (hb3.mono HB2.out.size)); have HC3 := Lib.hid (HC2.out.next hb3); clear hb3) | fail)
    clear c0 c1 c2 c3 c4 c5
    have HB4 := Lib.hid HB3.out.drew
    have HC4 := Lib.hid HC3.out.drew
    go_region_held3 (fun W => W.cell? ⟨q, 0, none⟩ = some (.slice An ln cn) ∧ W.cell? ⟨q, 1, none⟩ = some (.slice Ao lo co) ∧ W.cell? ⟨q, 2, none⟩ = some (.slice Ai li ci) ∧ W.cell? ⟨q, 3, none⟩ = some (.slice Ah lh ch) ∧ W.cell? ⟨q, 4, none⟩ = some (.int .i64 p.obs) ∧ W.cell? ⟨q, 5, none⟩ = some (.bool p.timed)) (first | with_reducible exact HC6.out.six | with_reducible exact HC5.out.six | with_reducible exact HC4.out.six) (first
      | (go_at_call 10; first
        | (refine (check_b p An ln cn Ao lo co Ai li ci Ah lh ch r HR _ (HP.out.below HB5.out)).mono ?_; rintro e w6 ⟨rfl, hb6⟩; have HB6 := Lib.hid (HB5.out.trans (hb6.mono HB5.out.size)); have HC6 := Lib.hid (HC5.out.next hb6); clear hb6)
        | (refine (check_b p An ln cn Ao lo co Ai li ci Ah lh ch r HR _ (HP.out.below HB4.out)).mono ?_; rintro e w5 ⟨rfl, hb5⟩; have HB5 := Lib.hid (HB4.out.trans (hb5.mono HB4.out.size)); have HC5 := Lib.hid (HC4.out.next hb5); clear hb5))
      | (go_at_call 11; first
        | (refine (rcheck_b p An ln cn Ao lo co Ai li ci Ah lh ch r HR _ (HP.out.below HB5.out)).mono ?_; rintro e w6 ⟨rfl, hb6⟩; have HB6 := Lib.hid (HB5.out.trans (hb6.mono HB5.out.size)); have HC6 := Lib.hid (HC5.out.next hb6); clear hb6)
        | (refine (rcheck_b p An ln cn Ao lo co Ai li ci Ah lh ch r HR _ (HP.out.below HB4.out)).mono ?_; rintro e w5 ⟨rfl, hb5⟩; have HB5 := Lib.hid (HB4.out.trans (hb5.mono HB4.out.size)); have HC5 := Lib.hid (HC4.out.next hb5); clear hb5)))
    all_goals
      go_wp2_with fail
      go_ret
      exact ⟨rfl, HB6.out⟩
end Go.Proofs.YtnipigninbeplaaDoor
