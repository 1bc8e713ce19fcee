/-
  The walk over the reference's read.
  The walk over the reference's read.
-/
import Derived.Test.YtnipigninbeplaaDoorPP
import Derived.Test.YtnipigninbeplaaDoorQoG
import Derived.Test.YtnipigninbeplaaDoorPH
namespace Go.Proofs.YtnipigninbeplaaDoor
open Go.RowKit

set_option maxRecDepth 100000 in
set_option maxHeartbeats 8000000 in
/-- A line of levels. -/
theorem readL_b (B : Nat) (W : World) (V : Nat → Value) (s : Rd) (lv ov : Int) (k : ByteArray) (t : List ByteArray) (g f n c : Nat) (hn : n ≤ 9000) (hlv : lv = bI s.sorted) (hov : ov = bI s.seen) (hk : (k.toList == wLevels) = true) (hsh : okL true t = true) (x : Int × Rd) (H : Hid (rdLevels s t = x))
    (ht : NOk W (some ⟨g, f, none⟩) n c (k :: t)) (h : Ro B W V s) (hgv : ∀ i, i < 4 → (V i).ownBlock ≠ some g) (hB : B ≤ W.heap.size) (hinv : s.sorted = false → s.p.levels = []) :
    Calls Tryd.prog 37 #[.agg #[V 0, V 1, V 2, V 3, .int .i64 s.p.obs, .bool s.p.timed, .int .i64 lv, .int .i64 ov], .slice (some ⟨g, f, none⟩) n c] W fun e W' => RsRes B W x e W' := by
  have hnl := ht.len
  simp only [List.length_cons] at hnl
  obtain ⟨k', gA, fA, hk', _, hAA, hgl, kk0⟩ := ht.at 0 (by omega)
  rw [Nat.add_zero] at kk0
  injection hAA with hAA
  injection hAA with eg ef
  subst eg ef
  have ek : k' = k := by simpa using hk'.symm
  subst ek
  clear hk'
  obtain ⟨og, hog, hst⟩ := rb_start (lv := lv) (ov := ov) h hB hgl hgv
  have HTOK : Hid (∀ (W' : World) (j : Nat), W'.heap[g]? = some og → j < n → ∃ s1, (k' :: t)[j]? = some s1 ∧ s1.size ≤ maxLen ∧ W'.cell? ⟨g, f + j, none⟩ = some (.string s1)) := Lib.hid (fun W' j hh hj => by
    obtain ⟨s1, gA, fA, h1, h2, h3, _, h5⟩ := ht.at j hj
    injection h3 with h3
    injection h3 with eg ef
    subst eg ef
    exact ⟨s1, h1, h2, kept_cell (hh.trans hog.symm) h5⟩)
  have HST := Lib.hid hst
  have HVV := Lib.hid (And.intro hlv hov)
  have HNL := Lib.hid hnl
  have HBB := Lib.hid hB
  have hn1 : (0 : Int) < (n : Int) := by omega
  have hn0 : 0 < n := by omega
  clear ht h hlv hov hgv hst hog hnl
  have g1 : (k'.toList == [108, 101, 118, 101, 108, 115]) = true := hk
  have HINV := Lib.hid hinv
  have HSH := Lib.hid hsh
  clear hinv hsh hk hgl kk0
  go_enter Tryd.func37, Tryd.ntmps37
  go_upto_region 1 with fail
  obtain ⟨w1, hw1⟩ : ∃ z, (W.alloc (.cells #[V 0, V 1, V 2, V 3, .int .i64 s.p.obs, .bool s.p.timed, .int .i64 lv, .int .i64 ov] 81)).alloc stZ = z := ⟨_, rfl⟩
  obtain ⟨hrb, hzc, hzk⟩ := HST.out w1 hw1
  have hw1' : (W.alloc (.cells #[V 0, V 1, V 2, V 3, .int .i64 s.p.obs, .bool s.p.timed, .int .i64 lv, .int .i64 ov] 81)).alloc (.cells #[.slice none 0 0, .slice none 0 0, .slice none 0 0, .slice none 0 0, .int .i64 0, .bool false, .int .i64 0, .int .i64 0] 81) = w1 := hw1
  rw [hw1']
  clear hw1 hw1' HST
  have hbrB : B ≤ W.heap.size + 1 := by omega
  obtain ⟨bx, hbx⟩ : ∃ z, W.heap.size = z := ⟨_, rfl⟩
  obtain ⟨br, hbr⟩ : ∃ z, W.heap.size + 1 = z := ⟨_, rfl⟩
  rw [hbr] at hrb hzc hzk hbrB ⊢
  rw [hbx] at hrb ⊢
  have HBR := Lib.hid hbrB
  have HRB := Lib.hid hrb
  have HZ : Hid (∀ W' : World, W'.heap[br]? = some stZ → Cs W' br [.slice none 0 0, .slice none 0 0, .slice none 0 0, .slice none 0 0, .int .i64 0, .bool false, .int .i64 0, .int .i64 0]) := Lib.hid (fun W' hh => hzc.kept (hh.trans hzk.symm))
  have hbxr : bx ≠ br := by omega
  clear hrb hzc hzk hbrB hbx hbr
  obtain ⟨s1, e0, _, kk0⟩ := HTOK.out w1 0 (HRB.out.kp (g, og) (by simp)).1 hn0
  rw [Nat.add_zero] at kk0
  have e1 : s1 = k' := by simpa using e0.symm
  subst e1
  clear e0

  have HIT : Hid (items1 t = some (evens t)) := Lib.hid (by rw [items1_ok, HSH.out]; rfl)
  obtain ⟨so, hso⟩ : ∃ z, s.sorted = z := ⟨_, rfl⟩
  have HSO := Lib.hid hso
  obtain ⟨hl1, hl2⟩ := HVV.out
  rw [hso] at hl1
  have HLO := Lib.hid hl2
  clear hso hl2
  cases so with
  | true =>
    have hx : x = (8, s) := by
      rw [← H.out, rdLevels_ok, HIT.out]
      show (if s.sorted then (8, s) else _) = _
      rw [if_pos HSO.out]
    have HXX := Lib.hid hx
    have hl : lv = 1 := hl1
    subst hl
    clear H hx HVV hl1
    have hzc := HZ.out _ (HRB.out.kp (br, stZ) (by simp)).1
    have HZC := Lib.hid hzc
    have z0 := hzc.at 0 _ rfl
    have y0 := hzc.free 0
    have z1 := hzc.at 1 _ rfl
    have y1 := hzc.free 1
    have z2 := hzc.at 2 _ rfl
    have y2 := hzc.free 2
    have z3 := hzc.at 3 _ rfl
    have y3 := hzc.free 3
    have z4 := hzc.at 4 _ rfl
    have y4 := hzc.free 4
    have z5 := hzc.at 5 _ rfl
    have y5 := hzc.free 5
    have z6 := hzc.at 6 _ rfl
    have y6 := hzc.free 6
    have z7 := hzc.at 7 _ rfl
    have y7 := hzc.free 7
    have hzl := hzc.lt
    clear hzc
    obtain ⟨m0, A0, q0, e0⟩ : ∃ m A q, V 0 = .slice A m q := ⟨_, own_shape (HRB.out.ro.row 0 (by omega))⟩
    obtain ⟨m1, A1, q1, e1⟩ : ∃ m A q, V 1 = .slice A m q := ⟨_, own_shape (HRB.out.ro.row 1 (by omega))⟩
    obtain ⟨m2, A2, q2, e2⟩ : ∃ m A q, V 2 = .slice A m q := ⟨_, own_shape (HRB.out.ro.row 2 (by omega))⟩
    obtain ⟨m3, A3, q3, e3⟩ : ∃ m A q, V 3 = .slice A m q := ⟨_, own_shape (HRB.out.ro.row 3 (by omega))⟩
    have c0 := HRB.out.cs.at 0 _ rfl
    have f0 := HRB.out.cs.free 0
    have c1 := HRB.out.cs.at 1 _ rfl
    have f1 := HRB.out.cs.free 1
    have c2 := HRB.out.cs.at 2 _ rfl
    have f2 := HRB.out.cs.free 2
    have c3 := HRB.out.cs.at 3 _ rfl
    have f3 := HRB.out.cs.free 3
    have c4 := HRB.out.cs.at 4 _ rfl
    have f4 := HRB.out.cs.free 4
    have c5 := HRB.out.cs.at 5 _ rfl
    have f5 := HRB.out.cs.free 5
    have c6 := HRB.out.cs.at 6 _ rfl
    have f6 := HRB.out.cs.free 6
    have c7 := HRB.out.cs.at 7 _ rfl
    have f7 := HRB.out.cs.free 7
    have hbl := HRB.out.cs.lt
    rw [e0] at c0
    rw [e1] at c1
    rw [e2] at c2
    rw [e3] at c3
    have HES := Lib.hid (And.intro e0 (And.intro e1 (And.intro e2 e3)))
    clear e0 e1 e2 e3
    go_wp2_with fail
    obtain ⟨k0, k1, k2, k3, k4, k5, k6, k7⟩ := eight_cells HZC.out (.slice A0 m0 q0) (.slice A1 m1 q1) (.slice A2 m2 q2) (.slice A3 m3 q3) (.int .i64 s.p.obs) (.bool s.p.timed) (.int .i64 1) (.int .i64 ov)
    unfold sixW at k5 k6 k7
    refine bodyPost_ret (v := .tuple #[.agg #[.slice A0 m0 q0, .slice A1 m1 q1, .slice A2 m2 q2, .slice A3 m3 q3, .int .i64 s.p.obs, .bool s.p.timed, .int .i64 1, .int .i64 ov], .int .i64 8]) (by simp [results, Tryd.results37, go_sem, k0, k1, k2, k3, k4, k5, k6, k7]) rfl ?_
    have hres := HRB.out.res (br := br) (ob := stZ) (by simp) HBR.out 8 x (by rw [HXX.out]) (fun h => by cases h)
    obtain ⟨e0, e1, e2, e3⟩ := HES.out
    rw [e0, e1, e2, e3] at hres
    exact hres

  | false =>
    have hx : x = (0, ⟨{ s.p with levels := evens t }, true, s.seen⟩) := by
      rw [← H.out, rdLevels_ok, HIT.out]
      show (if s.sorted then (8, s) else _) = _
      rw [if_neg (by rw [HSO.out]; decide)]
    have HXX := Lib.hid hx
    have hl : lv = 0 := hl1
    subst hl
    have hlv : s.p.levels = [] := HINV.out HSO.out
    obtain ⟨ev, hev⟩ : ∃ ev, evens t = ev := ⟨_, rfl⟩
    rw [hev] at HXX
    have HEV := Lib.hid hev
    have HS0 : Hid (Rb [(g, og), (br, stZ)] B bx W (w1.setCell ⟨bx, 6, none⟩ (.int .i64 1)) V ⟨{ s.p with levels := ev.take 0 }, true, s.seen⟩ 1 ov) := Lib.hid (by
      have h := HRB.out.field 6 (.int .i64 1) ⟨{ s.p with levels := ev.take 0 }, true, s.seen⟩ 1 ov (fun k hk => by
        have e2 : ev.take 0 = s.p.levels := by rw [hlv]; rfl
        rw [e2]
        exact ⟨rfl, rfl⟩) rfl (by omega)
      exact h)
    obtain ⟨i0, hi0, hz0, hz1, hz2⟩ := info_parts (P := Tryd.prog) (e := 9) (z := .string ⟨#[]⟩) (size := 1) (bytes := 16) (by kernel_rfl)
    have HIN := Lib.hid (And.intro hi0 (And.intro hz0 (And.intro hz1 hz2)))
    have c6 := HRB.out.cs.at 6 _ rfl
    have f6 := HRB.out.cs.free 6
    clear H hx hlv hi0 hz0 hz1 hz2 hev HVV hl1
    go_wp2_with fail
    go_loopw [6] (fun v wr => ∃ (i j : Nat) (V' : Nat → Value), Hid (i = 2 * j + 1) ∧ i ≤ n + 1 ∧ v = .int .i64 i ∧ Hid (Rb [(g, og), (br, stZ)] B bx W wr V' ⟨{ s.p with levels := ev.take j }, true, s.seen⟩ 1 ov)) (fun v _ => n + 2 - (intOf v).toNat)
    case atStart => exact ⟨1, 0, V, Lib.hid rfl, by omega, rfl, HS0⟩
    case round =>
      clear HS0 c6 f6 kk0
      obtain ⟨i, j, V', HIJ, hj, rfl, HS⟩ := hrel
      by_cases hjt : i < n
      · have hjt' : (i : Int) < (n : Int) := by omega
        have hj0 : (0 : Int) ≤ (i : Int) := by omega
        obtain ⟨s2, e2, hs2, kk0⟩ := HTOK.out wr i (HS.out.kp (g, og) (by simp)).1 hjt
        have he1 : ev[j]? = some s2 := by
          rw [← HEV.out, evens_at]
          rw [HIJ.out, List.getElem?_cons_succ] at e2
          exact e2
        have HE1 := Lib.hid he1
        have c0 := HS.out.cs.at 0 _ rfl
        have hl5 := HS.out.cs.lt
        have HR5 := Lib.hid (HS.out.next (Below.refl _ _).drew)
        have HS5 : Hid (B ≤ (wr.drew.alloc (.cells #[.string s2] 9)).heap.size) := Lib.hid (by have := HS.out.lt; simp; omega)
        have hjl : j ≤ ev.length := by
          have := HIJ.out
          have := (List.getElem?_eq_some_iff.1 he1).1
          omega
        have HTL : Hid ((ev.take j).length = j) := Lib.hid (by rw [List.length_take, Nat.min_eq_left hjl])
        obtain ⟨tj, htj⟩ : ∃ z, ev.take j = z := ⟨_, rfl⟩
        have HTK : Hid (ev.take (j + 1) = tj ++ [s2]) := Lib.hid (by rw [← htj, List.take_add_one, HE1.out]; rfl)
        rw [htj] at HS HTL HR5
        clear htj
        have htl9 : (tj).length ≤ 9000 := by have := HTL.out; have := HIJ.out; omega
        have HOW : Hid (wr.drew.ownsRow B 9 1 (V' 0) (tj).length (svals (tj))) := Lib.hid (HR5.out.ro.row 0 (by omega))
        clear e2 hs2 he1
        go_upto_region 15 with fail
        go_region_law (first
          | (refine step_append_lies _ (by rfl) _ _ _ (by rfl) B 9 i0 _ 1 16 Tryd.underlying22 HIN.out.1 HIN.out.2.1 HIN.out.2.2.1 HIN.out.2.2.2 rfl (by omega) (V' 0) (tj).length (svals (tj)) (by rfl) (own_frS HOW.out (Fr.of (S := fun _ => False) ((Below.refl _ _).alloc (Nat.le_refl _) (.cells #[.string s2] 9))) (fun _ _ h => h)) ⟨wr.drew.heap.size, 0, none⟩ 1 1 [.string s2] (by rfl) (by rfl) (World.news_of_block (cs := #[.string s2]) (t := 9) (fr := (0, 0)) (heap_alloc_new wr.drew _)) (by simp [Value.oneCell']) (by omega) (by unfold maxLen; omega) (by omega) HS5.out (wr.drew.heap.size + 1) (by simp) ?_; intro gg cap w6 hown6 hgrow6 hat6 hlt6; have cs6 := cs_grown (HR5.out.cs.alloc (.cells #[.string s2] 9)) hgrow6 (HR5.out.nb 0 (by omega)); have b6 := cs6.at 0 _ rfl; have bf6 := cs6.free 0; have hbl6 := cs6.lt; clear cs6))
        all_goals
          obtain ⟨V7, HR6⟩ : ∃ V7 : Nat → Value, Hid (Rb [(g, og), (br, stZ)] B bx W (w6.setCell ⟨bx, 0, none⟩ (.slice (some ⟨gg, 0, none⟩) (tj.length + 1) cap)) V7 ⟨{ s.p with levels := ev.take (j + 1) }, true, s.seen⟩ 1 ov) :=
            ⟨_, Lib.hid (HR5.out.push (a := 0) (o := .cells #[.string s2] 9) (by omega) hgrow6 hown6 (by rcases hat6 with h | h; exact .inl h; exact .inr (by rw [h])) ⟨{ s.p with levels := ev.take (j + 1) }, true, s.seen⟩ (by show (ev.take (j + 1)).length = tj.length + 1; rw [HTK.out]; simp) (by show svals (ev.take (j + 1)) = svals tj ++ [.string s2]; rw [HTK.out]; exact svals_app _ _) (fun k hk hka => by match k, hk, hka with | 3, _, _ => exact ⟨rfl, rfl⟩ | 1, _, _ => exact ⟨rfl, rfl⟩ | 2, _, _ => exact ⟨rfl, rfl⟩ | 0, _, h => exact absurd rfl h) ⟨rfl, rfl⟩)⟩
          clear hown6 hgrow6 hat6 b6 bf6 hbl6 kk0 HR5 HOW HS5 hlt6 c0
          go_upto_region 14 with fail
          obtain ⟨w7, hw7⟩ : ∃ z, w6.setCell ⟨bx, 0, none⟩ (.slice (some ⟨gg, 0, none⟩) ((tj).length + 1) cap) = z := ⟨_, rfl⟩
          rw [hw7] at HR6 ⊢
          clear hw7
          go_wp2_with fail
          go_roundw
          case rel => exact ⟨i + 2, j + 1, V7, Lib.hid (by have := HIJ.out; omega), by omega, by go_num, HR6⟩
          case measure => simp [intOf]; omega
      · have hge : ¬ ((i : Int) < (n : Int)) := by omega
        have het : ev.take j = ev := List.take_of_length_le (by
          have h1 := evens_len t
          have h2 := HNL.out
          have h3 := HIJ.out
          rw [HEV.out] at h1
          omega)
        rw [het] at HS
        clear hjt het
        have hzc := HZ.out _ (HS.out.kp (br, stZ) (by simp)).1
        have HZC := Lib.hid hzc
        have z0 := hzc.at 0 _ rfl
        have y0 := hzc.free 0
        have z1 := hzc.at 1 _ rfl
        have y1 := hzc.free 1
        have z2 := hzc.at 2 _ rfl
        have y2 := hzc.free 2
        have z3 := hzc.at 3 _ rfl
        have y3 := hzc.free 3
        have z4 := hzc.at 4 _ rfl
        have y4 := hzc.free 4
        have z5 := hzc.at 5 _ rfl
        have y5 := hzc.free 5
        have z6 := hzc.at 6 _ rfl
        have y6 := hzc.free 6
        have z7 := hzc.at 7 _ rfl
        have y7 := hzc.free 7
        have hzl := hzc.lt
        clear hzc
        obtain ⟨m0, A0, q0, e0⟩ : ∃ m A q, V' 0 = .slice A m q := ⟨_, own_shape (HS.out.ro.row 0 (by omega))⟩
        obtain ⟨m1, A1, q1, e1⟩ : ∃ m A q, V' 1 = .slice A m q := ⟨_, own_shape (HS.out.ro.row 1 (by omega))⟩
        obtain ⟨m2, A2, q2, e2⟩ : ∃ m A q, V' 2 = .slice A m q := ⟨_, own_shape (HS.out.ro.row 2 (by omega))⟩
        obtain ⟨m3, A3, q3, e3⟩ : ∃ m A q, V' 3 = .slice A m q := ⟨_, own_shape (HS.out.ro.row 3 (by omega))⟩
        have c0 := HS.out.cs.at 0 _ rfl
        have f0 := HS.out.cs.free 0
        have c1 := HS.out.cs.at 1 _ rfl
        have f1 := HS.out.cs.free 1
        have c2 := HS.out.cs.at 2 _ rfl
        have f2 := HS.out.cs.free 2
        have c3 := HS.out.cs.at 3 _ rfl
        have f3 := HS.out.cs.free 3
        have c4 := HS.out.cs.at 4 _ rfl
        have f4 := HS.out.cs.free 4
        have c5 := HS.out.cs.at 5 _ rfl
        have f5 := HS.out.cs.free 5
        have c6 := HS.out.cs.at 6 _ rfl
        have f6 := HS.out.cs.free 6
        have c7 := HS.out.cs.at 7 _ rfl
        have f7 := HS.out.cs.free 7
        have hbl := HS.out.cs.lt
        rw [e0] at c0
        rw [e1] at c1
        rw [e2] at c2
        rw [e3] at c3
        have HES := Lib.hid (And.intro e0 (And.intro e1 (And.intro e2 e3)))
        clear e0 e1 e2 e3
        go_wp2_with fail
        obtain ⟨k0, k1, k2, k3, k4, k5, k6, k7⟩ := eight_cells HZC.out (.slice A0 m0 q0) (.slice A1 m1 q1) (.slice A2 m2 q2) (.slice A3 m3 q3) (.int .i64 s.p.obs) (.bool s.p.timed) (.int .i64 1) (.int .i64 ov)
        unfold sixW at k5 k6 k7
        refine bodyPost_ret (v := .tuple #[.agg #[.slice A0 m0 q0, .slice A1 m1 q1, .slice A2 m2 q2, .slice A3 m3 q3, .int .i64 s.p.obs, .bool s.p.timed, .int .i64 1, .int .i64 ov], .int .i64 0]) (by simp [results, Tryd.results37, go_sem, k0, k1, k2, k3, k4, k5, k6, k7]) rfl ?_
        have hres := HS.out.res (br := br) (ob := stZ) (by simp) HBR.out 0 x (by rw [HXX.out]) (fun _ => by rw [HXX.out]; exact ⟨rfl, rfl, HLO.out⟩)
        obtain ⟨e0, e1, e2, e3⟩ := HES.out
        rw [e0, e1, e2, e3] at hres
        exact hres

/-- A line that observes, of the right form. -/
theorem obs_shape {t : List ByteArray} (h : obsB t = true) : ∃ a, t[0]? = some a ∧ (t.length = 1 ∨ t.length = 2) ∧ ∀ s : Rd, rdObserve s t = if s.seen then (8, s) else if findS s.p.levels a < 0 then (7, s) else (0, ⟨{ s.p with obs := findS s.p.levels a, timed := decide (t.length = 2) }, s.sorted, true⟩) := by
  match t, h with
  | [], h => cases h
  | [a], h =>
    have h' : isW a = true := h
    refine ⟨a, rfl, .inl rfl, fun s => ?_⟩
    show seeS s a false = _
    unfold seeS
    rw [if_neg (by rw [h']; decide)]
    rfl
  | [a, b], h =>
    have h' : (isW a && (b.toList == wTimed)) = true := h
    rw [Bool.and_eq_true] at h'
    refine ⟨a, rfl, .inr rfl, fun s => ?_⟩
    show (if b.toList == wTimed then seeS s a true else (6, s)) = _
    rw [if_pos h'.2]
    unfold seeS
    rw [if_neg (by rw [h'.1]; decide)]
    rfl
  | _ :: _ :: _ :: _, h => cases h

set_option maxRecDepth 100000 in
set_option maxHeartbeats 8000000 in
theorem readV_b (B : Nat) (W : World) (V : Nat → Value) (s : Rd) (lv ov : Int) (k : ByteArray) (t : List ByteArray) (g f n c : Nat) (hn : n ≤ 9000) (hlv : lv = bI s.sorted) (hov : ov = bI s.seen) (hk : (k.toList == wObserve) = true) (hsh : obsB t = true) (x : Int × Rd) (H : Hid (rdObserve s t = x))
    (ht : NOk W (some ⟨g, f, none⟩) n c (k :: t)) (h : Ro B W V s) (hgv : ∀ i, i < 4 → (V i).ownBlock ≠ some g) (hB : B ≤ W.heap.size) (hz : Szs 8192 s) :
    Calls Tryd.prog 37 #[.agg #[V 0, V 1, V 2, V 3, .int .i64 s.p.obs, .bool s.p.timed, .int .i64 lv, .int .i64 ov], .slice (some ⟨g, f, none⟩) n c] W fun e W' => RsRes B W x e W' := by
  have hnl := ht.len
  simp only [List.length_cons] at hnl
  obtain ⟨k', gA, fA, hk', _, hAA, hgl, kk0⟩ := ht.at 0 (by omega)
  rw [Nat.add_zero] at kk0
  injection hAA with hAA
  injection hAA with eg ef
  subst eg ef
  have ek : k' = k := by simpa using hk'.symm
  subst ek
  clear hk'
  obtain ⟨og, hog, hst⟩ := rb_start (lv := lv) (ov := ov) h hB hgl hgv
  have HTOK : Hid (∀ (W' : World) (j : Nat), W'.heap[g]? = some og → j < n → ∃ s1, (k' :: t)[j]? = some s1 ∧ s1.size ≤ maxLen ∧ W'.cell? ⟨g, f + j, none⟩ = some (.string s1)) := Lib.hid (fun W' j hh hj => by
    obtain ⟨s1, gA, fA, h1, h2, h3, _, h5⟩ := ht.at j hj
    injection h3 with h3
    injection h3 with eg ef
    subst eg ef
    exact ⟨s1, h1, h2, kept_cell (hh.trans hog.symm) h5⟩)
  have HST := Lib.hid hst
  have HVV := Lib.hid (And.intro hlv hov)
  have HNL := Lib.hid hnl
  have HBB := Lib.hid hB
  have hn1 : (0 : Int) < (n : Int) := by omega
  have hn0 : 0 < n := by omega
  clear ht h hlv hov hgv hst hog hnl
  have hkk : k'.toList = wObserve := by simpa using hk
  have g0 : (k'.toList == [108, 101, 118, 101, 108, 115]) = false := by rw [hkk]; rfl
  have g1 : (k'.toList == [111, 114, 100, 101, 114]) = false := by rw [hkk]; rfl
  have g2 : (k'.toList == [111, 98, 115, 101, 114, 118, 101]) = true := by rw [hkk]; rfl
  clear hkk hk hgl kk0

  have HZS := Lib.hid hz
  obtain ⟨a, ha, hl12, hxx⟩ := obs_shape hsh
  have HXX := Lib.hid (hxx s)
  have HA := Lib.hid ha
  have H12 := Lib.hid hl12
  clear hsh ha hxx hl12 hz
  go_enter Tryd.func37, Tryd.ntmps37
  go_upto_region 1 with fail
  obtain ⟨w1, hw1⟩ : ∃ z, (W.alloc (.cells #[V 0, V 1, V 2, V 3, .int .i64 s.p.obs, .bool s.p.timed, .int .i64 lv, .int .i64 ov] 81)).alloc stZ = z := ⟨_, rfl⟩
  obtain ⟨hrb, hzc, hzk⟩ := HST.out w1 hw1
  have hw1' : (W.alloc (.cells #[V 0, V 1, V 2, V 3, .int .i64 s.p.obs, .bool s.p.timed, .int .i64 lv, .int .i64 ov] 81)).alloc (.cells #[.slice none 0 0, .slice none 0 0, .slice none 0 0, .slice none 0 0, .int .i64 0, .bool false, .int .i64 0, .int .i64 0] 81) = w1 := hw1
  rw [hw1']
  clear hw1 hw1' HST
  have hbrB : B ≤ W.heap.size + 1 := by omega
  obtain ⟨bx, hbx⟩ : ∃ z, W.heap.size = z := ⟨_, rfl⟩
  obtain ⟨br, hbr⟩ : ∃ z, W.heap.size + 1 = z := ⟨_, rfl⟩
  rw [hbr] at hrb hzc hzk hbrB ⊢
  rw [hbx] at hrb ⊢
  have HBR := Lib.hid hbrB
  have HRB := Lib.hid hrb
  have HZ : Hid (∀ W' : World, W'.heap[br]? = some stZ → Cs W' br [.slice none 0 0, .slice none 0 0, .slice none 0 0, .slice none 0 0, .int .i64 0, .bool false, .int .i64 0, .int .i64 0]) := Lib.hid (fun W' hh => hzc.kept (hh.trans hzk.symm))
  have hbxr : bx ≠ br := by omega
  clear hrb hzc hzk hbrB hbx hbr
  obtain ⟨s1, e0, _, kk0⟩ := HTOK.out w1 0 (HRB.out.kp (g, og) (by simp)).1 hn0
  rw [Nat.add_zero] at kk0
  have e1 : s1 = k' := by simpa using e0.symm
  subst e1
  clear e0

  obtain ⟨so, hso⟩ : ∃ z, s.seen = z := ⟨_, rfl⟩
  have HSO := Lib.hid hso
  obtain ⟨hl2, hl1⟩ := HVV.out
  rw [hso] at hl1
  have HLO := Lib.hid hl2
  clear hso hl2
  cases so with
  | true =>
    have hx : x = (8, s) := by
      rw [← H.out, HXX.out, if_pos HSO.out]
    have HX := Lib.hid hx
    have hl : ov = 1 := hl1
    subst hl
    clear H hx HVV hl1
    have hzc := HZ.out _ (HRB.out.kp (br, stZ) (by simp)).1
    have HZC := Lib.hid hzc
    have z0 := hzc.at 0 _ rfl
    have y0 := hzc.free 0
    have z1 := hzc.at 1 _ rfl
    have y1 := hzc.free 1
    have z2 := hzc.at 2 _ rfl
    have y2 := hzc.free 2
    have z3 := hzc.at 3 _ rfl
    have y3 := hzc.free 3
    have z4 := hzc.at 4 _ rfl
    have y4 := hzc.free 4
    have z5 := hzc.at 5 _ rfl
    have y5 := hzc.free 5
    have z6 := hzc.at 6 _ rfl
    have y6 := hzc.free 6
    have z7 := hzc.at 7 _ rfl
    have y7 := hzc.free 7
    have hzl := hzc.lt
    clear hzc
    obtain ⟨m0, A0, q0, e0⟩ : ∃ m A q, V 0 = .slice A m q := ⟨_, own_shape (HRB.out.ro.row 0 (by omega))⟩
    obtain ⟨m1, A1, q1, e1⟩ : ∃ m A q, V 1 = .slice A m q := ⟨_, own_shape (HRB.out.ro.row 1 (by omega))⟩
    obtain ⟨m2, A2, q2, e2⟩ : ∃ m A q, V 2 = .slice A m q := ⟨_, own_shape (HRB.out.ro.row 2 (by omega))⟩
    obtain ⟨m3, A3, q3, e3⟩ : ∃ m A q, V 3 = .slice A m q := ⟨_, own_shape (HRB.out.ro.row 3 (by omega))⟩
    have c0 := HRB.out.cs.at 0 _ rfl
    have f0 := HRB.out.cs.free 0
    have c1 := HRB.out.cs.at 1 _ rfl
    have f1 := HRB.out.cs.free 1
    have c2 := HRB.out.cs.at 2 _ rfl
    have f2 := HRB.out.cs.free 2
    have c3 := HRB.out.cs.at 3 _ rfl
    have f3 := HRB.out.cs.free 3
    have c4 := HRB.out.cs.at 4 _ rfl
    have f4 := HRB.out.cs.free 4
    have c5 := HRB.out.cs.at 5 _ rfl
    have f5 := HRB.out.cs.free 5
    have c6 := HRB.out.cs.at 6 _ rfl
    have f6 := HRB.out.cs.free 6
    have c7 := HRB.out.cs.at 7 _ rfl
    have f7 := HRB.out.cs.free 7
    have hbl := HRB.out.cs.lt
    rw [e0] at c0
    rw [e1] at c1
    rw [e2] at c2
    rw [e3] at c3
    have HES := Lib.hid (And.intro e0 (And.intro e1 (And.intro e2 e3)))
    clear e0 e1 e2 e3
    go_wp2_with fail
    obtain ⟨k0, k1, k2, k3, k4, k5, k6, k7⟩ := eight_cells HZC.out (.slice A0 m0 q0) (.slice A1 m1 q1) (.slice A2 m2 q2) (.slice A3 m3 q3) (.int .i64 s.p.obs) (.bool s.p.timed) (.int .i64 lv) (.int .i64 1)
    unfold sixW at k5 k6 k7
    refine bodyPost_ret (v := .tuple #[.agg #[.slice A0 m0 q0, .slice A1 m1 q1, .slice A2 m2 q2, .slice A3 m3 q3, .int .i64 s.p.obs, .bool s.p.timed, .int .i64 lv, .int .i64 1], .int .i64 8]) (by simp [results, Tryd.results37, go_sem, k0, k1, k2, k3, k4, k5, k6, k7]) rfl ?_
    have hres := HRB.out.res (br := br) (ob := stZ) (by simp) HBR.out 8 x (by rw [HX.out]) (fun h => by cases h)
    obtain ⟨e0, e1, e2, e3⟩ := HES.out
    rw [e0, e1, e2, e3] at hres
    exact hres

  | false =>
    have hl : ov = 0 := hl1
    subst hl
    obtain ⟨r, hr⟩ : ∃ z, findS s.p.levels a = z := ⟨_, rfl⟩
    have HFR := Lib.hid hr
    obtain ⟨tm, htm⟩ : ∃ z, decide (t.length = 2) = z := ⟨_, rfl⟩
    have HX0 : Hid ((if r < 0 then (7, s) else ((0 : Int), (⟨{ s.p with obs := r, timed := tm }, s.sorted, true⟩ : Rd))) = x) := Lib.hid (by rw [← H.out, HXX.out, hr, htm, if_neg (show ¬ s.seen = true by rw [HSO.out]; decide)])
    have hnt : ((n : Int) == 3) = tm := by
      have h1 := HNL.out
      rw [← htm]
      by_cases h2 : t.length = 2
      · rw [decide_eq_true h2, beq_iff_eq]
        omega
      · rw [decide_eq_false h2, beq_eq_false_iff_ne]
        omega
    have HNT := Lib.hid hnt
    have HS0 : Hid (Rb [(g, og), (br, stZ)] B bx W (w1.setCell ⟨bx, 7, none⟩ (.int .i64 1)) V ⟨s.p, s.sorted, true⟩ lv 1) := Lib.hid (HRB.out.field 7 (.int .i64 1) ⟨s.p, s.sorted, true⟩ lv 1 (fun _ _ => ⟨rfl, rfl⟩) rfl (by omega))
    have h1n : 1 < n := by
      have h1 := HNL.out
      have h2 := H12.out
      omega
    have h1n' : (1 : Int) < (n : Int) := by omega
    clear H HVV hl1 hr htm hnt
    have c7 := HRB.out.cs.at 7 _ rfl
    have f7 := HRB.out.cs.free 7
    go_upto_region 28 with fail
    obtain ⟨w2, hw2⟩ : ∃ z, w1.setCell ⟨bx, 7, none⟩ (.int .i64 1) = z := ⟨_, rfl⟩
    rw [hw2] at HS0 ⊢
    clear hw2 c7 f7 kk0
    obtain ⟨a1, e2, hs2, kk0⟩ := HTOK.out w2 1 (HS0.out.kp (g, og) (by simp)).1 h1n
    have e3 : a1 = a := by
      have h := HA.out
      rw [List.getElem?_cons_succ] at e2
      rw [h] at e2
      exact (Option.some.inj e2).symm
    subst e3
    obtain ⟨m0, A0, q0, e0, hnok⟩ : ∃ m A q, V 0 = .slice A m q ∧ NOk w2 A m q s.p.levels := by
      have h0 := HS0.out.ro.row 0 (by omega)
      obtain ⟨A, q, e⟩ := own_shape h0
      rw [e] at h0
      exact ⟨_, A, q, e, own_nok h0 (fun x hx => Nat.le_trans (HZS.out.l x hx) (by unfold maxLen; omega))⟩
    have HNK := Lib.hid hnok
    have HE0 := Lib.hid e0
    have c0 := HS0.out.cs.at 0 _ rfl
    rw [e0] at c0
    have c4 := HS0.out.cs.at 4 _ rfl
    have f4 := HS0.out.cs.free 4
    have hbl := HS0.out.cs.lt
    clear e2 hs2 e0 hnok
    refine wp_region_still_tail 9 (by kernel_rfl) (by kernel_rfl) ?_
    simp only [List.take_succ_cons, List.take_zero, List.drop_succ_cons, List.drop_zero]
    repeat still_step

    still_call ((rfindN_b s.p.levels a1 A0 m0 q0 r HFR w2.drew (HNK.out.below (Below.refl _ _).drew)).mono fun _ _ h => ⟨h.1, h.2.symm⟩)
    repeat still_step
    refine wpStill_nil ?_
    change wpList _ _ _ _ _ w2.drew
    go_upto_region 29 with fail
    have HS1 : Hid (Rb [(g, og), (br, stZ)] B bx W (w2.setCell ⟨bx, 4, none⟩ (.int .i64 r)).drew V ⟨{ s.p with obs := r }, s.sorted, true⟩ lv 1) := Lib.hid ((HS0.out.field 4 (.int .i64 r) ⟨{ s.p with obs := r }, s.sorted, true⟩ lv 1 (fun k hk => by match k, hk with | 0, _ => exact ⟨rfl, rfl⟩ | 1, _ => exact ⟨rfl, rfl⟩ | 2, _ => exact ⟨rfl, rfl⟩ | 3, _ => exact ⟨rfl, rfl⟩) rfl (by omega)).next (Below.refl _ _).drew)
    obtain ⟨w3, hw3⟩ : ∃ z, (w2.setCell ⟨bx, 4, none⟩ (.int .i64 r)).drew = z := ⟨_, rfl⟩
    rw [hw3] at HS1 ⊢
    clear hw3 c0 c4 f4 kk0 hbl
    have hnt := HNT.out
    have c5 := HS1.out.cs.at 5 _ rfl
    have f5 := HS1.out.cs.free 5
    have hbl := HS1.out.cs.lt
    have HS2 : Hid (Rb [(g, og), (br, stZ)] B bx W (w3.setCell ⟨bx, 5, none⟩ (.bool tm)) V ⟨{ s.p with obs := r, timed := tm }, s.sorted, true⟩ lv 1) := Lib.hid (HS1.out.field 5 (.bool tm) ⟨{ s.p with obs := r, timed := tm }, s.sorted, true⟩ lv 1 (fun k hk => by match k, hk with | 0, _ => exact ⟨rfl, rfl⟩ | 1, _ => exact ⟨rfl, rfl⟩ | 2, _ => exact ⟨rfl, rfl⟩ | 3, _ => exact ⟨rfl, rfl⟩) rfl (by omega))
    go_upto_region 30 with fail
    obtain ⟨w4, hw4⟩ : ∃ z, w3.setCell ⟨bx, 5, none⟩ (.bool tm) = z := ⟨_, rfl⟩
    rw [hw4] at HS2 ⊢
    clear hw4 c5 f5 hbl hnt
    by_cases hr0 : r < 0
    · have hx : x = (7, s) := by rw [← HX0.out, if_pos hr0]
      have HX := Lib.hid hx
      clear hx HX0
      have hzc := HZ.out _ (HS2.out.kp (br, stZ) (by simp)).1
      have HZC := Lib.hid hzc
      have z0 := hzc.at 0 _ rfl
      have y0 := hzc.free 0
      have z1 := hzc.at 1 _ rfl
      have y1 := hzc.free 1
      have z2 := hzc.at 2 _ rfl
      have y2 := hzc.free 2
      have z3 := hzc.at 3 _ rfl
      have y3 := hzc.free 3
      have z4 := hzc.at 4 _ rfl
      have y4 := hzc.free 4
      have z5 := hzc.at 5 _ rfl
      have y5 := hzc.free 5
      have z6 := hzc.at 6 _ rfl
      have y6 := hzc.free 6
      have z7 := hzc.at 7 _ rfl
      have y7 := hzc.free 7
      have hzl := hzc.lt
      clear hzc
      obtain ⟨m0, A0, q0, e0⟩ : ∃ m A q, V 0 = .slice A m q := ⟨_, own_shape (HS2.out.ro.row 0 (by omega))⟩
      obtain ⟨m1, A1, q1, e1⟩ : ∃ m A q, V 1 = .slice A m q := ⟨_, own_shape (HS2.out.ro.row 1 (by omega))⟩
      obtain ⟨m2, A2, q2, e2⟩ : ∃ m A q, V 2 = .slice A m q := ⟨_, own_shape (HS2.out.ro.row 2 (by omega))⟩
      obtain ⟨m3, A3, q3, e3⟩ : ∃ m A q, V 3 = .slice A m q := ⟨_, own_shape (HS2.out.ro.row 3 (by omega))⟩
      have c0 := HS2.out.cs.at 0 _ rfl
      have f0 := HS2.out.cs.free 0
      have c1 := HS2.out.cs.at 1 _ rfl
      have f1 := HS2.out.cs.free 1
      have c2 := HS2.out.cs.at 2 _ rfl
      have f2 := HS2.out.cs.free 2
      have c3 := HS2.out.cs.at 3 _ rfl
      have f3 := HS2.out.cs.free 3
      have c4 := HS2.out.cs.at 4 _ rfl
      have f4 := HS2.out.cs.free 4
      have c5 := HS2.out.cs.at 5 _ rfl
      have f5 := HS2.out.cs.free 5
      have c6 := HS2.out.cs.at 6 _ rfl
      have f6 := HS2.out.cs.free 6
      have c7 := HS2.out.cs.at 7 _ rfl
      have f7 := HS2.out.cs.free 7
      have hbl := HS2.out.cs.lt
      rw [e0] at c0
      rw [e1] at c1
      rw [e2] at c2
      rw [e3] at c3
      have HES := Lib.hid (And.intro e0 (And.intro e1 (And.intro e2 e3)))
      clear e0 e1 e2 e3
      go_wp2_with fail
      obtain ⟨k0, k1, k2, k3, k4, k5, k6, k7⟩ := eight_cells HZC.out (.slice A0 m0 q0) (.slice A1 m1 q1) (.slice A2 m2 q2) (.slice A3 m3 q3) (.int .i64 r) (.bool tm) (.int .i64 lv) (.int .i64 1)
      unfold sixW at k5 k6 k7
      refine bodyPost_ret (v := .tuple #[.agg #[.slice A0 m0 q0, .slice A1 m1 q1, .slice A2 m2 q2, .slice A3 m3 q3, .int .i64 r, .bool tm, .int .i64 lv, .int .i64 1], .int .i64 7]) (by simp [results, Tryd.results37, go_sem, k0, k1, k2, k3, k4, k5, k6, k7]) rfl ?_
      have hres := HS2.out.res (br := br) (ob := stZ) (by simp) HBR.out 7 x (by rw [HX.out]) (fun h => by cases h)
      obtain ⟨e0, e1, e2, e3⟩ := HES.out
      rw [e0, e1, e2, e3] at hres
      exact hres

    · have hx : x = (0, ⟨{ s.p with obs := r, timed := tm }, s.sorted, true⟩) := by rw [← HX0.out, if_neg hr0]
      have HX := Lib.hid hx
      clear hx HX0
      have hzc := HZ.out _ (HS2.out.kp (br, stZ) (by simp)).1
      have HZC := Lib.hid hzc
      have z0 := hzc.at 0 _ rfl
      have y0 := hzc.free 0
      have z1 := hzc.at 1 _ rfl
      have y1 := hzc.free 1
      have z2 := hzc.at 2 _ rfl
      have y2 := hzc.free 2
      have z3 := hzc.at 3 _ rfl
      have y3 := hzc.free 3
      have z4 := hzc.at 4 _ rfl
      have y4 := hzc.free 4
      have z5 := hzc.at 5 _ rfl
      have y5 := hzc.free 5
      have z6 := hzc.at 6 _ rfl
      have y6 := hzc.free 6
      have z7 := hzc.at 7 _ rfl
      have y7 := hzc.free 7
      have hzl := hzc.lt
      clear hzc
      obtain ⟨m0, A0, q0, e0⟩ : ∃ m A q, V 0 = .slice A m q := ⟨_, own_shape (HS2.out.ro.row 0 (by omega))⟩
      obtain ⟨m1, A1, q1, e1⟩ : ∃ m A q, V 1 = .slice A m q := ⟨_, own_shape (HS2.out.ro.row 1 (by omega))⟩
      obtain ⟨m2, A2, q2, e2⟩ : ∃ m A q, V 2 = .slice A m q := ⟨_, own_shape (HS2.out.ro.row 2 (by omega))⟩
      obtain ⟨m3, A3, q3, e3⟩ : ∃ m A q, V 3 = .slice A m q := ⟨_, own_shape (HS2.out.ro.row 3 (by omega))⟩
      have c0 := HS2.out.cs.at 0 _ rfl
      have f0 := HS2.out.cs.free 0
      have c1 := HS2.out.cs.at 1 _ rfl
      have f1 := HS2.out.cs.free 1
      have c2 := HS2.out.cs.at 2 _ rfl
      have f2 := HS2.out.cs.free 2
      have c3 := HS2.out.cs.at 3 _ rfl
      have f3 := HS2.out.cs.free 3
      have c4 := HS2.out.cs.at 4 _ rfl
      have f4 := HS2.out.cs.free 4
      have c5 := HS2.out.cs.at 5 _ rfl
      have f5 := HS2.out.cs.free 5
      have c6 := HS2.out.cs.at 6 _ rfl
      have f6 := HS2.out.cs.free 6
      have c7 := HS2.out.cs.at 7 _ rfl
      have f7 := HS2.out.cs.free 7
      have hbl := HS2.out.cs.lt
      rw [e0] at c0
      rw [e1] at c1
      rw [e2] at c2
      rw [e3] at c3
      have HES := Lib.hid (And.intro e0 (And.intro e1 (And.intro e2 e3)))
      clear e0 e1 e2 e3
      go_wp2_with fail
      obtain ⟨k0, k1, k2, k3, k4, k5, k6, k7⟩ := eight_cells HZC.out (.slice A0 m0 q0) (.slice A1 m1 q1) (.slice A2 m2 q2) (.slice A3 m3 q3) (.int .i64 r) (.bool tm) (.int .i64 lv) (.int .i64 1)
      unfold sixW at k5 k6 k7
      refine bodyPost_ret (v := .tuple #[.agg #[.slice A0 m0 q0, .slice A1 m1 q1, .slice A2 m2 q2, .slice A3 m3 q3, .int .i64 r, .bool tm, .int .i64 lv, .int .i64 1], .int .i64 0]) (by simp [results, Tryd.results37, go_sem, k0, k1, k2, k3, k4, k5, k6, k7]) rfl ?_
      have hres := HS2.out.res (br := br) (ob := stZ) (by simp) HBR.out 0 x (by rw [HX.out]) (fun _ => by rw [HX.out]; exact ⟨rfl, HLO.out, rfl⟩)
      obtain ⟨e0, e1, e2, e3⟩ := HES.out
      rw [e0, e1, e2, e3] at hres
      exact hres
end Go.Proofs.YtnipigninbeplaaDoor
