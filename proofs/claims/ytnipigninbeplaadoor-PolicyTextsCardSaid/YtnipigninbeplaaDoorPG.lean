/-
  The walk over label.
  The walks over readInput and readHatch.
  The walk over readObserve.
-/
import Derived.Test.YtnipigninbeplaaDoorQoC
namespace Go.Proofs.YtnipigninbeplaaDoor
open Go.RowKit

theorem pair_cells {W : World} {b : Nat} {a0 a1 : Value} (h : Cs W b [a0, a1]) (v0 v1 : Value) :
    (W.setCell ⟨b, 0, none⟩ v0).cell? ⟨b, 0, none⟩ = some v0 ∧ ((W.setCell ⟨b, 0, none⟩ v0).setCell ⟨b, 1, none⟩ v1).cell? ⟨b, 1, none⟩ = some v1 :=
  ⟨World.cell?_setCell_same W _ v0 (h.at 0 _ rfl), World.cell?_setCell_same _ _ v1 ((h.set 0 v0 (by simp)).at 1 _ rfl)⟩
/-- The label and the code of two tokens. -/
def labS (ls : List ByteArray) : List ByteArray → Lb × Int
  | [a, b] => if isW a && isW b then (if findS ls b < 0 then (⟨a, 0⟩, 7) else (⟨a, findS ls b⟩, 0)) else (⟨⟨#[]⟩, 0⟩, 6)
  | _ => (⟨⟨#[]⟩, 0⟩, 6)
theorem labS_len {ls t : List ByteArray} (h : t.length ≠ 2) : labS ls t = (⟨⟨#[]⟩, 0⟩, 6) := by
  match t, h with
  | [], _ => rfl
  | [_], _ => rfl
  | [_, _], h => exact absurd rfl h
  | _ :: _ :: _ :: _, _ => rfl
def LabRes (W : World) (x : Lb × Int) (e : Ending) (W' : World) : Prop := e = .returned (.tuple #[.agg #[.string x.1.name, .int .i64 x.1.lev], .int .i64 x.2]) ∧ Below W.heap.size W W'

set_option maxRecDepth 100000 in
set_option maxHeartbeats 4000000 in
theorem label_b {K : Nat × Obj} (w W : World) (V : Nat → Value) (s : Rd) (ls : List ByteArray) (n : Nat) (D : DataW Unit) (t : List ByteArray) (A : Option Addr) (l c : Nat) (ht : NOk W A l c t) (x : Lb × Int) (H : Hid (labS ls t = x)) (h : Rm K w W V s ls n D) :
    Calls Tryd.prog 87 #[.pointer (some ⟨w.heap.size + 1, 0, none⟩), .slice A l c] W fun e W' => LabRes W x e W' := by
  have hlm : l ≤ 9223372036854775807 := by have := ht.cap; have := ht.big; unfold maxLen at this; omega
  have HR := Lib.hid h
  have HT := Lib.hid ht
  have HL := Lib.hid ht.len
  have HC0 := Lib.hid (Cs.new W #[.string ⟨#[]⟩, .int .i64 0] 71)
  have HB0 := Lib.hid ((Below.refl W.heap.size W).alloc (Nat.le_refl _) (.cells #[.string ⟨#[]⟩, .int .i64 0] 71))
  clear h ht
  go_enter Tryd.func87, Tryd.ntmps87
  go_upto_region 1 with fail
  obtain ⟨w1, hw1⟩ : ∃ z, W.alloc (.cells #[.string ⟨#[]⟩, .int .i64 0] 71) = z := ⟨_, rfl⟩
  obtain ⟨p4, hp4⟩ : ∃ z, W.heap.size = z := ⟨_, rfl⟩
  have HB1 : Hid (Below W.heap.size W w1) := hw1 ▸ HB0
  have HC1 : Hid (Cs w1 p4 [.string ⟨#[]⟩, .int .i64 0]) := hw1 ▸ hp4 ▸ HC0
  rw [hw1, hp4]
  have HP4 := Lib.hid hp4
  clear hw1 HB0 HC0 hp4
  have c0 := HC1.out.at 0 _ rfl
  have c1 := HC1.out.at 1 _ rfl
  have f0 := HC1.out.free 0
  have f1 := HC1.out.free 1
  have HE : Hid (∀ v0 v1, Below W.heap.size W ((w1.setCell ⟨p4, 0, none⟩ v0).setCell ⟨p4, 1, none⟩ v1)) := Lib.hid (fun v0 v1 => (HB1.out.setCell (by rw [HP4.out]; exact Nat.le_refl _) _).setCell (by rw [HP4.out]; exact Nat.le_refl _) _)
  by_cases h2 : l = 2
  · have h2i : (l : Int) = 2 := by omega
    obtain ⟨a, ga, fa, ha, hsa, hAA, hga, k0⟩ := (HT.out.below HB1.out).at 0 (by omega)
    rw [Nat.add_zero] at k0
    obtain ⟨b, gb, fb, hb, hsb, hAB, hgb, k1⟩ := (HT.out.below HB1.out).at 1 (by omega)
    subst hAA
    injection hAB with hAB
    injection hAB with e1 e2
    subst e1 e2
    have HTT : Hid (t = [a, b]) := Lib.hid (by
      have hl := HL.out
      rw [h2] at hl
      match t, hl, ha, hb with
      | [p, q], _, ha, hb =>
        simp only [List.getElem?_cons_zero, Option.some.injEq] at ha
        simp only [List.getElem?_cons_succ, List.getElem?_cons_zero, Option.some.injEq] at hb
        rw [ha, hb])
    subst h2
    obtain ⟨b1, hb1⟩ : ∃ z, isW a = z := ⟨_, rfl⟩
    obtain ⟨b2, hb2⟩ : ∃ z, isW b = z := ⟨_, rfl⟩
    have HW1 := Lib.hid hb1
    have HW2 := Lib.hid hb2
    have HX : Hid ((if b1 && b2 then (if findS ls b < 0 then ((⟨a, 0⟩ : Lb), (7 : Int)) else (⟨a, findS ls b⟩, 0)) else (⟨⟨#[]⟩, 0⟩, 6)) = x) := Lib.hid (by rw [← H.out, HTT.out, ← hb1, ← hb2]; rfl)
    have HSB := Lib.hid hsb
    clear ha hb hb1 hb2 H hga hgb hsa hsb
    cases b1 with
    | false =>
      have hx : x = (⟨⟨#[]⟩, 0⟩, 6) := HX.out.symm
      subst hx
      clear HX
      go_wp2_with (first | (go_at_call 85; refine (isWord_b a false HW1 _).mono ?_; rintro e wy ⟨rfl, rfl⟩) | fail)
      obtain ⟨k0, k1⟩ := pair_cells HC1.out (.string ⟨#[]⟩) (.int .i64 0)
      refine bodyPost_ret (v := .tuple #[.agg #[.string ⟨#[]⟩, .int .i64 0], .int .i64 6]) (by simp [results, Tryd.results87, go_sem, k0, k1]) rfl ?_
      exact ⟨rfl, HE.out _ _⟩
    | true =>
      have G1 : True := trivial
      cases b2 with
      | false =>
        have hx : x = (⟨⟨#[]⟩, 0⟩, 6) := HX.out.symm
        subst hx
        clear HX
        go_wp2_with (first | (go_at_call 85; first | (clear G1; refine (isWord_b a true HW1 _).mono ?_; rintro e wy ⟨rfl, rfl⟩) | (refine (isWord_b b false HW2 _).mono ?_; rintro e wy ⟨rfl, rfl⟩)) | fail)
        obtain ⟨k0, k1⟩ := pair_cells HC1.out (.string ⟨#[]⟩) (.int .i64 0)
        refine bodyPost_ret (v := .tuple #[.agg #[.string ⟨#[]⟩, .int .i64 0], .int .i64 6]) (by simp [results, Tryd.results87, go_sem, k0, k1]) rfl ?_
        exact ⟨rfl, HE.out _ _⟩
      | true =>
        obtain ⟨i, k, hik⟩ : ∃ (i k : Int), (if findS ls b < 0 then ((0 : Int), (7 : Int)) else (findS ls b, 0)) = (i, k) := ⟨_, _, rfl⟩
        have hx : x = (⟨a, i⟩, k) := by
          rw [← HX.out]
          show (if findS ls b < 0 then ((⟨a, 0⟩ : Lb), (7 : Int)) else (⟨a, findS ls b⟩, 0)) = _
          by_cases hf : findS ls b < 0
          · rw [if_pos hf] at hik ⊢
            injection hik with e1 e2
            rw [← e1, ← e2]
          · rw [if_neg hf] at hik ⊢
            injection hik with e1 e2
            rw [← e1, ← e2]
        subst hx
        have HIK := Lib.hid hik
        clear HX hik
        go_wp2_with (first | (go_at_call 85; first | (clear G1; refine (isWord_b a true HW1 _).mono ?_; rintro e wy ⟨rfl, rfl⟩) | (refine (isWord_b b true HW2 _).mono ?_; rintro e wy ⟨rfl, rfl⟩)) | (go_at_call 86; refine (level_b w _ V s ls n D b HSB.out i k HIK (HR.out.next HB1.out)).mono ?_; rintro e wy ⟨rfl, rfl⟩) | fail)
        obtain ⟨k0, k1⟩ := pair_cells HC1.out (.string a) (.int .i64 i)
        refine bodyPost_ret (v := .tuple #[.agg #[.string a, .int .i64 i], .int .i64 k]) (by simp [results, Tryd.results87, go_sem, k0, k1]) rfl ?_
        exact ⟨rfl, HE.out _ _⟩
  · have h2i : ¬ (l : Int) = 2 := by omega
    have hx : x = (⟨⟨#[]⟩, 0⟩, 6) := by rw [← H.out]; exact labS_len (by rw [HL.out]; exact h2)
    subst hx
    clear H
    go_wp2_with fail
    obtain ⟨k0, k1⟩ := pair_cells HC1.out (.string ⟨#[]⟩) (.int .i64 0)
    refine bodyPost_ret (v := .tuple #[.agg #[.string ⟨#[]⟩, .int .i64 0], .int .i64 6]) (by simp [results, Tryd.results87, go_sem, k0, k1]) rfl ?_
    exact ⟨rfl, HE.out _ _⟩

/-- What a reading line hands back. -/
def RdRes (K : Nat × Obj) (w : World) (ls : List ByteArray) (n : Nat) (D : DataW Unit) (x : Int × Rd) (e : Ending) (W' : World) : Prop := e = .returned (.int .i64 x.1) ∧ ∃ V', Rm K w W' V' x.2 ls n D
theorem labS_two {ls : List ByteArray} {a b : ByteArray} : labS ls [a, b] = if isW a && isW b then (if findS ls b < 0 then (⟨a, 0⟩, 7) else (⟨a, findS ls b⟩, 0)) else (⟨⟨#[]⟩, 0⟩, 6) := rfl

theorem rdInput_two (s : Rd) (a b : ByteArray) : rdInput s [a, b] = if isW a && isW b then (if findS s.p.levels b < 0 then (7, s) else (0, ⟨{ s.p with inputs := s.p.inputs ++ [⟨a, findS s.p.levels b⟩] }, s.sorted, s.seen⟩)) else (6, s) := rfl
theorem rdInput_lab (s : Rd) (t : List ByteArray) : rdInput s t = if (labS s.p.levels t).2 = 0 then (0, ⟨{ s.p with inputs := s.p.inputs ++ [(labS s.p.levels t).1] }, s.sorted, s.seen⟩) else ((labS s.p.levels t).2, s) := by
  match t with
  | [] => rfl
  | [_] => rfl
  | [a, b] =>
    rw [labS_two, rdInput_two]
    by_cases h : (isW a && isW b) = true
    · rw [if_pos h, if_pos h]
      by_cases hf : findS s.p.levels b < 0
      · rw [if_pos hf, if_pos hf]; rfl
      · rw [if_neg hf, if_neg hf]; rfl
    · rw [if_neg h, if_neg h]; rfl
  | _ :: _ :: _ :: _ => rfl

set_option maxRecDepth 100000 in
set_option maxHeartbeats 4000000 in
theorem readInput_b {K : Nat × Obj} (w W : World) (V : Nat → Value) (s : Rd) (n : Nat) (D : DataW Unit) (t : List ByteArray) (A : Option Addr) (l c : Nat) (ht : NOk W A l c t) (x : Int × Rd) (H : Hid (rdInput s t = x)) (h : Rm K w W V s s.p.levels n D) (hcnt : s.p.inputs.length ≤ 20000) :
    Calls Tryd.prog 60 #[.pointer (some ⟨w.heap.size + 1, 0, none⟩), .slice A l c] W fun e W' => RdRes K w s.p.levels n D x e W' := by
  have HR := Lib.hid h
  have HT := Lib.hid ht
  obtain ⟨⟨⟨a, i⟩, k⟩, hlb⟩ : ∃ y, labS s.p.levels t = y := ⟨_, rfl⟩
  have HLB := Lib.hid hlb
  have HX : Hid ((if k = 0 then ((0 : Int), (⟨{ s.p with inputs := s.p.inputs ++ [⟨a, i⟩] }, s.sorted, s.seen⟩ : Rd)) else (k, s)) = x) := Lib.hid (by rw [← H.out, rdInput_lab, hlb])
  obtain ⟨i0, hi0, hz0, hz1, hz2⟩ := info_parts (P := Tryd.prog) (e := 71) (z := .agg #[.string ⟨#[]⟩, .int .i64 0]) (size := 2) (bytes := 24) (by kernel_rfl)
  have HIN := Lib.hid (And.intro hi0 (And.intro hz0 (And.intro hz1 hz2)))
  clear h ht hlb H hi0 hz0 hz1 hz2
  by_cases hk : k = 0
  · subst hk
    have hx : x = (0, ⟨{ s.p with inputs := s.p.inputs ++ [⟨a, i⟩] }, s.sorted, s.seen⟩) := HX.out.symm
    have HXX := Lib.hid hx
    clear HX hx
    go_enter Tryd.func60, Tryd.ntmps60
    go_wp2_with (first | (go_at_call 87; refine (label_b w _ V s s.p.levels n D t A l c HT.out (⟨a, i⟩, 0) HLB HR.out).mono ?_; rintro e w1 ⟨rfl, hb1⟩; have HR1 := Lib.hid (HR.out.next hb1); clear hb1) | fail)
    have HN := Lib.hid (Cs.new w1 #[.string a, .int .i64 i] 71)
    have HR4 := Lib.hid (HR1.out.next ((Below.refl _ _).alloc (Nat.le_refl _) (.cells #[.string a, .int .i64 i] 71)))
    obtain ⟨w5, hw5⟩ : ∃ z, w1.alloc (.cells #[.string a, .int .i64 i] 71) = z := ⟨_, rfl⟩
    obtain ⟨q, hq⟩ : ∃ z, w1.heap.size = z := ⟨_, rfl⟩
    rw [hw5, hq] at HN
    rw [hw5] at HR4
    rw [hw5, hq]
    clear hw5 hq HR1
    have n0 := HN.out.at 0 _ rfl
    have n1 := HN.out.at 1 _ rfl
    have hql := HN.out.lt
    have c2 := HR4.out.cs.at 2 _ rfl
    have hl5 : w.heap.size + 1 < w5.heap.size := by have := HR4.out.lt; omega
    have HR5 : Hid (Rm K w w5.drew V s s.p.levels n D) := Lib.hid (HR4.out.next (Below.refl _ _).drew)
    have HOWN : Hid (∀ y, (V 2).ownBlock = some y → w.heap.size + 2 ≤ y) := Lib.hid (fun y hy => (HR5.out.own (by omega) hy).1)
    have HS5 : Hid (w.heap.size + 2 ≤ (w5.drew.alloc (.cells #[.string a, .int .i64 i] 71)).heap.size) := Lib.hid (by have := HR4.out.lt; simp; omega)
    go_region_law (first
      | (refine step_append_lies _ (by rfl) _ _ _ (by rfl) (w.heap.size + 2) 71 i0 _ 2 24 Tryd.underlying24 HIN.out.1 HIN.out.2.1 HIN.out.2.2.1 HIN.out.2.2.2 rfl (by omega) (V 2) s.p.inputs.length (lbvals s.p.inputs) (by rfl) (own_frS (HR5.out.row 2 (by omega)) (Fr.of (S := fun _ => False) ((Below.refl _ _).alloc (Nat.le_refl _) (.cells #[.string a, .int .i64 i] 71))) (fun _ _ h => h)) ⟨w5.drew.heap.size, 0, none⟩ 1 1 [.string a, .int .i64 i] (by rfl) (by rfl) (World.news_of_block (cs := #[.string a, .int .i64 i]) (t := 71) (fr := (0, 0)) (heap_alloc_new w5.drew _)) (by simp [Value.oneCell']) (by omega) (by unfold maxLen; omega) (by omega) HS5.out (w5.drew.heap.size + 1) (by simp) ?_; intro gg cap w6 hown6 hgrow6 hat6 hlt6; have cs6 := cs_grown (HR5.out.cs.alloc (.cells #[.string a, .int .i64 i] 71)) hgrow6 (fun e => by have := HOWN.out _ e; omega); have b6 := cs6.at 2 _ rfl; have bf6 := cs6.free 2; have hbl6 := cs6.lt; clear cs6))
    all_goals
      have HR6 : Hid (Rm K w _ _ ⟨{ s.p with inputs := s.p.inputs ++ [⟨a, i⟩] }, s.sorted, s.seen⟩ s.p.levels n D) := Lib.hid (HR5.out.push (a := 2) (o := .cells #[.string a, .int .i64 i] 71) (by omega) hgrow6 hown6 (by rcases hat6 with h | h; exact .inl h; exact .inr (by rw [h])) ⟨{ s.p with inputs := s.p.inputs ++ [⟨a, i⟩] }, s.sorted, s.seen⟩ (by simp [rN]) (by simp [rX, lbvals]) (fun k hk hka => by match k, hk, hka with | 0, _, _ => exact ⟨rfl, rfl⟩ | 1, _, _ => exact ⟨rfl, rfl⟩ | 3, _, _ => exact ⟨rfl, rfl⟩ | 2, _, h => exact absurd rfl h) ⟨rfl, rfl, rfl, rfl⟩)
      clear hown6 hgrow6 hat6 b6 bf6 hbl6 n0 n1 c2
      go_wp2_with fail
      go_ret
      rw [HXX.out]
      exact ⟨rfl, _, HR6.out⟩
  · have hx : x = (k, s) := by rw [← HX.out, if_neg hk]
    have HXX := Lib.hid hx
    clear HX hx
    go_enter Tryd.func60, Tryd.ntmps60
    go_wp2_with (first | (go_at_call 87; refine (label_b w _ V s s.p.levels n D t A l c HT.out (⟨a, i⟩, k) HLB HR.out).mono ?_; rintro e w1 ⟨rfl, hb1⟩; have HR1 := Lib.hid (HR.out.next hb1); clear hb1) | fail)
    go_ret
    rw [HXX.out]
    exact ⟨rfl, V, HR1.out.next ((Below.refl _ _).alloc (Nat.le_refl _) _)⟩

theorem rdHatch_two (s : Rd) (a b : ByteArray) : rdHatch s [a, b] = if isW a && isW b then (if findS s.p.levels b < 0 then (7, s) else (0, ⟨{ s.p with hatches := s.p.hatches ++ [⟨a, findS s.p.levels b⟩] }, s.sorted, s.seen⟩)) else (6, s) := rfl
theorem rdHatch_lab (s : Rd) (t : List ByteArray) : rdHatch s t = if (labS s.p.levels t).2 = 0 then (0, ⟨{ s.p with hatches := s.p.hatches ++ [(labS s.p.levels t).1] }, s.sorted, s.seen⟩) else ((labS s.p.levels t).2, s) := by
  match t with
  | [] => rfl
  | [_] => rfl
  | [a, b] =>
    rw [labS_two, rdHatch_two]
    by_cases h : (isW a && isW b) = true
    · rw [if_pos h, if_pos h]
      by_cases hf : findS s.p.levels b < 0
      · rw [if_pos hf, if_pos hf]; rfl
      · rw [if_neg hf, if_neg hf]; rfl
    · rw [if_neg h, if_neg h]; rfl
  | _ :: _ :: _ :: _ => rfl

set_option maxRecDepth 100000 in
set_option maxHeartbeats 4000000 in
theorem readHatch_b {K : Nat × Obj} (w W : World) (V : Nat → Value) (s : Rd) (n : Nat) (D : DataW Unit) (t : List ByteArray) (A : Option Addr) (l c : Nat) (ht : NOk W A l c t) (x : Int × Rd) (H : Hid (rdHatch s t = x)) (h : Rm K w W V s s.p.levels n D) (hcnt : s.p.hatches.length ≤ 20000) :
    Calls Tryd.prog 61 #[.pointer (some ⟨w.heap.size + 1, 0, none⟩), .slice A l c] W fun e W' => RdRes K w s.p.levels n D x e W' := by
  have HR := Lib.hid h
  have HT := Lib.hid ht
  obtain ⟨⟨⟨a, i⟩, k⟩, hlb⟩ : ∃ y, labS s.p.levels t = y := ⟨_, rfl⟩
  have HLB := Lib.hid hlb
  have HX : Hid ((if k = 0 then ((0 : Int), (⟨{ s.p with hatches := s.p.hatches ++ [⟨a, i⟩] }, s.sorted, s.seen⟩ : Rd)) else (k, s)) = x) := Lib.hid (by rw [← H.out, rdHatch_lab, hlb])
  obtain ⟨i0, hi0, hz0, hz1, hz2⟩ := info_parts (P := Tryd.prog) (e := 71) (z := .agg #[.string ⟨#[]⟩, .int .i64 0]) (size := 2) (bytes := 24) (by kernel_rfl)
  have HIN := Lib.hid (And.intro hi0 (And.intro hz0 (And.intro hz1 hz2)))
  clear h ht hlb H hi0 hz0 hz1 hz2
  by_cases hk : k = 0
  · subst hk
    have hx : x = (0, ⟨{ s.p with hatches := s.p.hatches ++ [⟨a, i⟩] }, s.sorted, s.seen⟩) := HX.out.symm
    have HXX := Lib.hid hx
    clear HX hx
    go_enter Tryd.func61, Tryd.ntmps61
    go_wp2_with (first | (go_at_call 87; refine (label_b w _ V s s.p.levels n D t A l c HT.out (⟨a, i⟩, 0) HLB HR.out).mono ?_; rintro e w1 ⟨rfl, hb1⟩; have HR1 := Lib.hid (HR.out.next hb1); clear hb1) | fail)
    have HN := Lib.hid (Cs.new w1 #[.string a, .int .i64 i] 71)
    have HR4 := Lib.hid (HR1.out.next ((Below.refl _ _).alloc (Nat.le_refl _) (.cells #[.string a, .int .i64 i] 71)))
    obtain ⟨w5, hw5⟩ : ∃ z, w1.alloc (.cells #[.string a, .int .i64 i] 71) = z := ⟨_, rfl⟩
    obtain ⟨q, hq⟩ : ∃ z, w1.heap.size = z := ⟨_, rfl⟩
    rw [hw5, hq] at HN
    rw [hw5] at HR4
    rw [hw5, hq]
    clear hw5 hq HR1
    have n0 := HN.out.at 0 _ rfl
    have n1 := HN.out.at 1 _ rfl
    have hql := HN.out.lt
    have c3 := HR4.out.cs.at 3 _ rfl
    have hl5 : w.heap.size + 1 < w5.heap.size := by have := HR4.out.lt; omega
    have HR5 : Hid (Rm K w w5.drew V s s.p.levels n D) := Lib.hid (HR4.out.next (Below.refl _ _).drew)
    have HOWN : Hid (∀ y, (V 3).ownBlock = some y → w.heap.size + 2 ≤ y) := Lib.hid (fun y hy => (HR5.out.own (by omega) hy).1)
    have HS5 : Hid (w.heap.size + 2 ≤ (w5.drew.alloc (.cells #[.string a, .int .i64 i] 71)).heap.size) := Lib.hid (by have := HR4.out.lt; simp; omega)
    go_region_law (first
      | (refine step_append_lies _ (by rfl) _ _ _ (by rfl) (w.heap.size + 2) 71 i0 _ 2 24 Tryd.underlying24 HIN.out.1 HIN.out.2.1 HIN.out.2.2.1 HIN.out.2.2.2 rfl (by omega) (V 3) s.p.hatches.length (lbvals s.p.hatches) (by rfl) (own_frS (HR5.out.row 3 (by omega)) (Fr.of (S := fun _ => False) ((Below.refl _ _).alloc (Nat.le_refl _) (.cells #[.string a, .int .i64 i] 71))) (fun _ _ h => h)) ⟨w5.drew.heap.size, 0, none⟩ 1 1 [.string a, .int .i64 i] (by rfl) (by rfl) (World.news_of_block (cs := #[.string a, .int .i64 i]) (t := 71) (fr := (0, 0)) (heap_alloc_new w5.drew _)) (by simp [Value.oneCell']) (by omega) (by unfold maxLen; omega) (by omega) HS5.out (w5.drew.heap.size + 1) (by simp) ?_; intro gg cap w6 hown6 hgrow6 hat6 hlt6; have cs6 := cs_grown (HR5.out.cs.alloc (.cells #[.string a, .int .i64 i] 71)) hgrow6 (fun e => by have := HOWN.out _ e; omega); have b6 := cs6.at 3 _ rfl; have bf6 := cs6.free 3; have hbl6 := cs6.lt; clear cs6))
    all_goals
      have HR6 : Hid (Rm K w _ _ ⟨{ s.p with hatches := s.p.hatches ++ [⟨a, i⟩] }, s.sorted, s.seen⟩ s.p.levels n D) := Lib.hid (HR5.out.push (a := 3) (o := .cells #[.string a, .int .i64 i] 71) (by omega) hgrow6 hown6 (by rcases hat6 with h | h; exact .inl h; exact .inr (by rw [h])) ⟨{ s.p with hatches := s.p.hatches ++ [⟨a, i⟩] }, s.sorted, s.seen⟩ (by simp [rN]) (by simp [rX, lbvals]) (fun k hk hka => by match k, hk, hka with | 0, _, _ => exact ⟨rfl, rfl⟩ | 1, _, _ => exact ⟨rfl, rfl⟩ | 2, _, _ => exact ⟨rfl, rfl⟩ | 3, _, h => exact absurd rfl h) ⟨rfl, rfl, rfl, rfl⟩)
      clear hown6 hgrow6 hat6 b6 bf6 hbl6 n0 n1 c3
      go_wp2_with fail
      go_ret
      rw [HXX.out]
      exact ⟨rfl, _, HR6.out⟩
  · have hx : x = (k, s) := by rw [← HX.out, if_neg hk]
    have HXX := Lib.hid hx
    clear HX hx
    go_enter Tryd.func61, Tryd.ntmps61
    go_wp2_with (first | (go_at_call 87; refine (label_b w _ V s s.p.levels n D t A l c HT.out (⟨a, i⟩, k) HLB HR.out).mono ?_; rintro e w1 ⟨rfl, hb1⟩; have HR1 := Lib.hid (HR.out.next hb1); clear hb1) | fail)
    go_ret
    rw [HXX.out]
    exact ⟨rfl, V, HR1.out.next ((Below.refl _ _).alloc (Nat.le_refl _) _)⟩

theorem observe_len {s : Rd} {t : List ByteArray} (h : t.length < 1 ∨ 2 < t.length) : rdObserve s t = (6, s) := by
  match t, h with
  | [], _ => rfl
  | [_], h => simp at h
  | [_, _], h => simp at h
  | _ :: _ :: _ :: _, _ => rfl

set_option maxRecDepth 100000 in
set_option maxHeartbeats 4000000 in
theorem readObserve_b {K : Nat × Obj} (w W : World) (V : Nat → Value) (s : Rd) (n : Nat) (D : DataW Unit) (t : List ByteArray) (A : Option Addr) (l c : Nat) (ht : NOk W A l c t) (x : Int × Rd) (H : Hid (rdObserve s t = x)) (h : Rm K w W V s s.p.levels n D) :
    Calls Tryd.prog 62 #[.pointer (some ⟨w.heap.size + 1, 0, none⟩), .slice A l c] W fun e W' => RdRes K w s.p.levels n D x e W' := by
  have hlm : l ≤ 9223372036854775807 := by have := ht.cap; have := ht.big; unfold maxLen at this; omega
  have HR := Lib.hid h
  have HT := Lib.hid ht
  have HL := Lib.hid ht.len
  clear h ht
  by_cases h1 : l = 1
  · subst h1
    obtain ⟨a, ga, fa, ha, hsa, hAA, hga, k0⟩ := HT.out.at 0 (by omega)
    rw [Nat.add_zero] at k0
    subst hAA
    have HSEE : seeS s a false = x := by
      rw [← H.out]
      have hl := HL.out
      match t, hl, ha with
      | [p], _, ha =>
        simp only [List.getElem?_cons_zero, Option.some.injEq] at ha
        rw [ha]
        rfl
    clear H ha hga
    obtain ⟨b1, hb1⟩ : ∃ z, isW a = z := ⟨_, rfl⟩
    have HW1 := Lib.hid hb1
    have HX : Hid (seeS s a false = x) := Lib.hid HSEE
    have HSA := Lib.hid hsa
    clear hb1 HSEE hsa
    cases b1 with
    | false =>
      have hx : x = (6, s) := by rw [← HX.out]; unfold seeS; rw [if_pos HW1.out]
      have HXX := Lib.hid hx
      clear HX hx
      go_enter Tryd.func62, Tryd.ntmps62
      go_wp2_with (first | (go_at_call 85; refine (isWord_b a false HW1 _).mono ?_; rintro e wy ⟨rfl, rfl⟩) | fail)
      go_ret
      rw [HXX.out]
      exact ⟨rfl, V, HR.out⟩
    | true =>
      have c8 := HR.out.cs.at 8 _ rfl
      obtain ⟨sn, hsn⟩ : ∃ z, s.seen = z := ⟨_, rfl⟩
      have HSN := Lib.hid hsn
      rw [hsn] at c8
      clear hsn
      cases sn with
      | true =>
        have hx : x = (8, s) := by rw [← HX.out]; unfold seeS; rw [if_neg (by rw [HW1.out]; decide), if_pos HSN.out]
        have HXX := Lib.hid hx
        clear HX hx
        go_enter Tryd.func62, Tryd.ntmps62
        go_wp2_with (first | (go_at_call 85; refine (isWord_b a true HW1 _).mono ?_; rintro e wy ⟨rfl, rfl⟩) | fail)
        go_ret
        rw [HXX.out]
        exact ⟨rfl, V, HR.out⟩
      | false =>
        by_cases hf : findS s.p.levels a < 0
        · have hx : x = (7, s) := by rw [← HX.out]; unfold seeS; rw [if_neg (by rw [HW1.out]; decide), if_neg (by rw [HSN.out]; decide), if_pos hf]
          have HXX := Lib.hid hx
          have HIK : Hid ((if findS s.p.levels a < 0 then ((0 : Int), (7 : Int)) else (findS s.p.levels a, 0)) = (0, 7)) := Lib.hid (by rw [if_pos hf])
          clear HX hx hf
          go_enter Tryd.func62, Tryd.ntmps62
          go_wp2_with (first | (go_at_call 85; refine (isWord_b a true HW1 _).mono ?_; rintro e wy ⟨rfl, rfl⟩) | (go_at_call 86; refine (level_b w _ V s s.p.levels n D a HSA.out 0 7 HIK HR.out).mono ?_; rintro e wy ⟨rfl, rfl⟩) | fail)
          go_ret
          rw [HXX.out]
          exact ⟨rfl, V, HR.out⟩
        · obtain ⟨i, hi⟩ : ∃ i, findS s.p.levels a = i := ⟨_, rfl⟩
          have hx : x = (0, ⟨{ s.p with obs := i, timed := false }, s.sorted, true⟩) := by rw [← HX.out, ← hi]; unfold seeS; rw [if_neg (by rw [HW1.out]; decide), if_neg (by rw [HSN.out]; decide), if_neg hf]
          have HXX := Lib.hid hx
          have HIK : Hid ((if findS s.p.levels a < 0 then ((0 : Int), (7 : Int)) else (findS s.p.levels a, 0)) = (i, 0)) := Lib.hid (by rw [if_neg hf, hi])
          have hS := fun k (hk : k < 4) => (⟨rfl, rfl⟩ : rN s.p k = rN s.p k ∧ rX s.p k = rX s.p k)
          have HR1 := HR.out.field 8 (.bool true) ⟨s.p, s.sorted, true⟩ hS rfl (by omega)
          have HR2 := HR1.field 4 (.int .i64 i) ⟨{ s.p with obs := i }, s.sorted, true⟩ (fun k hk => by match k, hk with | 0, _ => exact ⟨rfl, rfl⟩ | 1, _ => exact ⟨rfl, rfl⟩ | 2, _ => exact ⟨rfl, rfl⟩ | 3, _ => exact ⟨rfl, rfl⟩) rfl (by omega)
          have HR3 := HR2.field 5 (.bool false) ⟨{ s.p with obs := i, timed := false }, s.sorted, true⟩ (fun k hk => by match k, hk with | 0, _ => exact ⟨rfl, rfl⟩ | 1, _ => exact ⟨rfl, rfl⟩ | 2, _ => exact ⟨rfl, rfl⟩ | 3, _ => exact ⟨rfl, rfl⟩) rfl (by omega)
          have HRR := Lib.hid HR3
          have d4 := HR.out.cs.at 4 _ rfl
          have d5 := HR.out.cs.at 5 _ rfl
          have f8 := HR.out.cs.free 8
          have f4 := HR.out.cs.free 4
          have f5 := HR.out.cs.free 5
          clear HX hx hf hi hS HR1 HR2 HR3
          go_enter Tryd.func62, Tryd.ntmps62
          go_wp2_with (first | (go_at_call 85; refine (isWord_b a true HW1 _).mono ?_; rintro e wy ⟨rfl, rfl⟩) | (go_at_call 86; refine (level_b w _ V s s.p.levels n D a HSA.out i 0 HIK HR.out).mono ?_; rintro e wy ⟨rfl, rfl⟩) | fail)
          go_ret
          rw [HXX.out]
          exact ⟨rfl, V, HRR.out⟩
  by_cases h2 : l = 2
  · subst h2
    obtain ⟨a, ga, fa, ha, hsa, hAA, hga, k0⟩ := HT.out.at 0 (by omega)
    rw [Nat.add_zero] at k0
    obtain ⟨b, gb, fb, hb, _, hAB, hgb, k1⟩ := HT.out.at 1 (by omega)
    subst hAA
    injection hAB with hAB
    injection hAB with e1 e2
    subst e1 e2
    have HTT : Hid (t = [a, b]) := Lib.hid (by
      have hl := HL.out
      match t, hl, ha, hb with
      | [p, q], _, ha, hb =>
        simp only [List.getElem?_cons_zero, Option.some.injEq] at ha
        simp only [List.getElem?_cons_succ, List.getElem?_cons_zero, Option.some.injEq] at hb
        rw [ha, hb])
    cases htm : (b.toList == wTimed) with
    | true =>
      have htm' : (b.toList == [116, 105, 109, 101, 100]) = true := htm
      have HSEE : seeS s a true = x := by
        rw [← H.out, HTT.out]
        show _ = if b.toList == wTimed then seeS s a true else (6, s)
        rw [if_pos htm]
      clear H ha hga hb hgb htm
      obtain ⟨b1, hb1⟩ : ∃ z, isW a = z := ⟨_, rfl⟩
      have HW1 := Lib.hid hb1
      have HX : Hid (seeS s a true = x) := Lib.hid HSEE
      have HSA := Lib.hid hsa
      clear hb1 HSEE hsa
      cases b1 with
      | false =>
        have hx : x = (6, s) := by rw [← HX.out]; unfold seeS; rw [if_pos HW1.out]
        have HXX := Lib.hid hx
        clear HX hx
        go_enter Tryd.func62, Tryd.ntmps62
        go_wp2_with (first | (go_at_call 85; refine (isWord_b a false HW1 _).mono ?_; rintro e wy ⟨rfl, rfl⟩) | fail)
        go_ret
        rw [HXX.out]
        exact ⟨rfl, V, HR.out⟩
      | true =>
        have c8 := HR.out.cs.at 8 _ rfl
        obtain ⟨sn, hsn⟩ : ∃ z, s.seen = z := ⟨_, rfl⟩
        have HSN := Lib.hid hsn
        rw [hsn] at c8
        clear hsn
        cases sn with
        | true =>
          have hx : x = (8, s) := by rw [← HX.out]; unfold seeS; rw [if_neg (by rw [HW1.out]; decide), if_pos HSN.out]
          have HXX := Lib.hid hx
          clear HX hx
          go_enter Tryd.func62, Tryd.ntmps62
          go_wp2_with (first | (go_at_call 85; refine (isWord_b a true HW1 _).mono ?_; rintro e wy ⟨rfl, rfl⟩) | fail)
          go_ret
          rw [HXX.out]
          exact ⟨rfl, V, HR.out⟩
        | false =>
          by_cases hf : findS s.p.levels a < 0
          · have hx : x = (7, s) := by rw [← HX.out]; unfold seeS; rw [if_neg (by rw [HW1.out]; decide), if_neg (by rw [HSN.out]; decide), if_pos hf]
            have HXX := Lib.hid hx
            have HIK : Hid ((if findS s.p.levels a < 0 then ((0 : Int), (7 : Int)) else (findS s.p.levels a, 0)) = (0, 7)) := Lib.hid (by rw [if_pos hf])
            clear HX hx hf
            go_enter Tryd.func62, Tryd.ntmps62
            go_wp2_with (first | (go_at_call 85; refine (isWord_b a true HW1 _).mono ?_; rintro e wy ⟨rfl, rfl⟩) | (go_at_call 86; refine (level_b w _ V s s.p.levels n D a HSA.out 0 7 HIK HR.out).mono ?_; rintro e wy ⟨rfl, rfl⟩) | fail)
            go_ret
            rw [HXX.out]
            exact ⟨rfl, V, HR.out⟩
          · obtain ⟨i, hi⟩ : ∃ i, findS s.p.levels a = i := ⟨_, rfl⟩
            have hx : x = (0, ⟨{ s.p with obs := i, timed := true }, s.sorted, true⟩) := by rw [← HX.out, ← hi]; unfold seeS; rw [if_neg (by rw [HW1.out]; decide), if_neg (by rw [HSN.out]; decide), if_neg hf]
            have HXX := Lib.hid hx
            have HIK : Hid ((if findS s.p.levels a < 0 then ((0 : Int), (7 : Int)) else (findS s.p.levels a, 0)) = (i, 0)) := Lib.hid (by rw [if_neg hf, hi])
            have hS := fun k (hk : k < 4) => (⟨rfl, rfl⟩ : rN s.p k = rN s.p k ∧ rX s.p k = rX s.p k)
            have HR1 := HR.out.field 8 (.bool true) ⟨s.p, s.sorted, true⟩ hS rfl (by omega)
            have HR2 := HR1.field 4 (.int .i64 i) ⟨{ s.p with obs := i }, s.sorted, true⟩ (fun k hk => by match k, hk with | 0, _ => exact ⟨rfl, rfl⟩ | 1, _ => exact ⟨rfl, rfl⟩ | 2, _ => exact ⟨rfl, rfl⟩ | 3, _ => exact ⟨rfl, rfl⟩) rfl (by omega)
            have HR3 := HR2.field 5 (.bool true) ⟨{ s.p with obs := i, timed := true }, s.sorted, true⟩ (fun k hk => by match k, hk with | 0, _ => exact ⟨rfl, rfl⟩ | 1, _ => exact ⟨rfl, rfl⟩ | 2, _ => exact ⟨rfl, rfl⟩ | 3, _ => exact ⟨rfl, rfl⟩) rfl (by omega)
            have HRR := Lib.hid HR3
            have d4 := HR.out.cs.at 4 _ rfl
            have d5 := HR.out.cs.at 5 _ rfl
            have f8 := HR.out.cs.free 8
            have f4 := HR.out.cs.free 4
            have f5 := HR.out.cs.free 5
            clear HX hx hf hi hS HR1 HR2 HR3
            go_enter Tryd.func62, Tryd.ntmps62
            go_wp2_with (first | (go_at_call 85; refine (isWord_b a true HW1 _).mono ?_; rintro e wy ⟨rfl, rfl⟩) | (go_at_call 86; refine (level_b w _ V s s.p.levels n D a HSA.out i 0 HIK HR.out).mono ?_; rintro e wy ⟨rfl, rfl⟩) | fail)
            go_ret
            rw [HXX.out]
            exact ⟨rfl, V, HRR.out⟩
    | false =>
      have htm' : (b.toList == [116, 105, 109, 101, 100]) = false := htm
      have hx : x = (6, s) := by
        rw [← H.out, HTT.out]
        show (if b.toList == wTimed then seeS s a true else (6, s)) = _
        rw [if_neg (by rw [htm]; decide)]
      have HXX := Lib.hid hx
      obtain ⟨b1, hb1⟩ : ∃ z, isW a = z := ⟨_, rfl⟩
      have HW1 := Lib.hid hb1
      clear H ha hga hb hgb htm hx hb1 hsa
      cases b1 with
      | false =>
        go_enter Tryd.func62, Tryd.ntmps62
        go_wp2_with (first | (go_at_call 85; refine (isWord_b a false HW1 _).mono ?_; rintro e wy ⟨rfl, rfl⟩) | fail)
        go_ret
        rw [HXX.out]
        exact ⟨rfl, V, HR.out⟩
      | true =>
        go_enter Tryd.func62, Tryd.ntmps62
        go_wp2_with (first | (go_at_call 85; refine (isWord_b a true HW1 _).mono ?_; rintro e wy ⟨rfl, rfl⟩) | fail)
        go_ret
        rw [HXX.out]
        exact ⟨rfl, V, HR.out⟩
  have hx : x = (6, s) := by rw [← H.out]; exact observe_len (by rw [HL.out]; omega)
  have HXX := Lib.hid hx
  clear H hx
  by_cases h0 : l = 0
  · have h0i : (l : Int) < 1 := by omega
    clear h0 h1 h2
    go_enter Tryd.func62, Tryd.ntmps62
    go_wp2_with fail
    go_ret
    rw [HXX.out]
    exact ⟨rfl, V, HR.out⟩
  · have h0i : ¬ (l : Int) < 1 := by omega
    have h2i : (2 : Int) < (l : Int) := by omega
    clear h0 h1 h2
    go_enter Tryd.func62, Tryd.ntmps62
    go_wp2_with fail
    go_ret
    rw [HXX.out]
    exact ⟨rfl, V, HR.out⟩
end Go.Proofs.YtnipigninbeplaaDoor
