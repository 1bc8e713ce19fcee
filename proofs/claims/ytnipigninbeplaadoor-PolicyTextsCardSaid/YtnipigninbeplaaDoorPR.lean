/-
  The walk over the reference's read.
  The walk over the reference's read.
-/
import Derived.Test.YtnipigninbeplaaDoorPP
import Derived.Test.YtnipigninbeplaaDoorPH
namespace Go.Proofs.YtnipigninbeplaaDoor
open Go.RowKit

set_option maxRecDepth 100000 in
set_option maxHeartbeats 8000000 in
/-- A line of order. -/
theorem readO_b (B : Nat) (W : World) (V : Nat → Value) (s : Rd) (lv ov : Int) (k : ByteArray) (t : List ByteArray) (g f n c : Nat) (hn : n ≤ 9000) (hlv : lv = bI s.sorted) (hov : ov = bI s.seen) (hk : (k.toList == wOrder) = true) (hsh : okO 1 t = true) (x : Int × Rd) (H : Hid (rdOrder s t = x))
    (ht : NOk W (some ⟨g, f, none⟩) n c (k :: t)) (h : Ro B W V s) (hgv : ∀ i, i < 4 → (V i).ownBlock ≠ some g) (hB : B ≤ W.heap.size) (hz : Szs 8192 s) (hcnt : s.p.order.length ≤ 20000) :
    Calls Tryd.prog 37 #[.agg #[V 0, V 1, V 2, V 3, .int .i64 s.p.obs, .bool s.p.timed, .int .i64 lv, .int .i64 ov], .slice (some ⟨g, f, none⟩) n c] W fun e W' => RsRes B W x e W' := by
  have hnl := ht.len
  simp only [List.length_cons] at hnl
  obtain ⟨k', gA, fA, hk', _, hAA, hgl, kk0⟩ := ht.at 0 (by omega)
  rw [Nat.add_zero] at kk0
  injection hAA with hAA
  injection hAA with eg ef
  subst eg ef
  have ek : k' = k := by simpa using hk'.symm
  subst ek
  clear hk'
  obtain ⟨og, hog, hst⟩ := rb_start (lv := lv) (ov := ov) h hB hgl hgv
  have HTOK : Hid (∀ (W' : World) (j : Nat), W'.heap[g]? = some og → j < n → ∃ s1, (k' :: t)[j]? = some s1 ∧ s1.size ≤ maxLen ∧ W'.cell? ⟨g, f + j, none⟩ = some (.string s1)) := Lib.hid (fun W' j hh hj => by
    obtain ⟨s1, gA, fA, h1, h2, h3, _, h5⟩ := ht.at j hj
    injection h3 with h3
    injection h3 with eg ef
    subst eg ef
    exact ⟨s1, h1, h2, kept_cell (hh.trans hog.symm) h5⟩)
  have HST := Lib.hid hst
  have HVV := Lib.hid (And.intro hlv hov)
  have HNL := Lib.hid hnl
  have HBB := Lib.hid hB
  have hn1 : (0 : Int) < (n : Int) := by omega
  have hn0 : 0 < n := by omega
  clear ht h hlv hov hgv hst hog hnl
  have hkk : k'.toList = wOrder := by simpa using hk
  have g0 : (k'.toList == [108, 101, 118, 101, 108, 115]) = false := by rw [hkk]; rfl
  have g1 : (k'.toList == [111, 114, 100, 101, 114]) = true := by rw [hkk]; rfl
  clear hkk hk hgl kk0

  have HZS := Lib.hid hz
  have HCNT := Lib.hid hcnt
  have hit : items3 t = some (trips t) := by rw [items3_ok, hsh]; rfl
  have hmod : t.length % 4 = 3 := by
    by_cases h : Shp 3 t ∧ (quads t).all okQ = true
    · exact h.1.1
    · have := (items3_shp t).2 h
      rw [hit] at this
      cases this
  have hql := quads_len t hmod
  obtain ⟨tr, htr⟩ : ∃ z, trips t = z := ⟨_, rfl⟩
  have htq : tr = (quads t).map (fun q => (q.1, q.2.2)) := by rw [← htr, trips_quads]
  have htl : tr.length * 4 = n := by
    have h2 := HNL.out
    rw [htq, List.length_map]
    omega
  have HTL := Lib.hid htl
  have HX0 : Hid ((match pairsS s.p.levels tr with | none => (7, s) | some q => ((0 : Int), (⟨{ s.p with order := s.p.order ++ q }, s.sorted, s.seen⟩ : Rd))) = x) := Lib.hid (by rw [← H.out, rdOrder_ok, hit, htr]; rfl)
  have HT3 : Hid (∀ (W' : World) (j : Nat), W'.heap[g]? = some og → j < tr.length → ∃ s1 s3, tr[j]? = some (s1, s3) ∧ W'.cell? ⟨g, f + (4 * j + 1), none⟩ = some (.string s1) ∧ W'.cell? ⟨g, f + (4 * j + 1 + 2), none⟩ = some (.string s3)) := Lib.hid (fun W' j hh hj => by
    obtain ⟨s1, h1, _, k1⟩ := HTOK.out W' (4 * j + 1) hh (by omega)
    obtain ⟨s2, h2, _, _⟩ := HTOK.out W' (4 * j + 2) hh (by omega)
    obtain ⟨s3, h3, _, k3⟩ := HTOK.out W' (4 * j + 1 + 2) hh (by omega)
    rw [List.getElem?_cons_succ] at h1
    rw [show 4 * j + 2 = (4 * j + 1) + 1 by omega, List.getElem?_cons_succ] at h2
    rw [show 4 * j + 1 + 2 = (4 * j + 2) + 1 by omega, List.getElem?_cons_succ] at h3
    refine ⟨s1, s3, ?_, k1, k3⟩
    rw [htq, List.getElem?_map, quads_at t j s1 s2 s3 h1 h2 h3]
    rfl)
  clear hsh hit hmod hql htr htq htl H hz hcnt
  go_enter Tryd.func37, Tryd.ntmps37
  go_upto_region 1 with fail
  obtain ⟨w1, hw1⟩ : ∃ z, (W.alloc (.cells #[V 0, V 1, V 2, V 3, .int .i64 s.p.obs, .bool s.p.timed, .int .i64 lv, .int .i64 ov] 81)).alloc stZ = z := ⟨_, rfl⟩
  obtain ⟨hrb, hzc, hzk⟩ := HST.out w1 hw1
  have hw1' : (W.alloc (.cells #[V 0, V 1, V 2, V 3, .int .i64 s.p.obs, .bool s.p.timed, .int .i64 lv, .int .i64 ov] 81)).alloc (.cells #[.slice none 0 0, .slice none 0 0, .slice none 0 0, .slice none 0 0, .int .i64 0, .bool false, .int .i64 0, .int .i64 0] 81) = w1 := hw1
  rw [hw1']
  clear hw1 hw1' HST
  have hbrB : B ≤ W.heap.size + 1 := by omega
  obtain ⟨bx, hbx⟩ : ∃ z, W.heap.size = z := ⟨_, rfl⟩
  obtain ⟨br, hbr⟩ : ∃ z, W.heap.size + 1 = z := ⟨_, rfl⟩
  rw [hbr] at hrb hzc hzk hbrB ⊢
  rw [hbx] at hrb ⊢
  have HBR := Lib.hid hbrB
  have HRB := Lib.hid hrb
  have HZ : Hid (∀ W' : World, W'.heap[br]? = some stZ → Cs W' br [.slice none 0 0, .slice none 0 0, .slice none 0 0, .slice none 0 0, .int .i64 0, .bool false, .int .i64 0, .int .i64 0]) := Lib.hid (fun W' hh => hzc.kept (hh.trans hzk.symm))
  have hbxr : bx ≠ br := by omega
  clear hrb hzc hzk hbrB hbx hbr
  obtain ⟨s1, e0, _, kk0⟩ := HTOK.out w1 0 (HRB.out.kp (g, og) (by simp)).1 hn0
  rw [Nat.add_zero] at kk0
  have e1 : s1 = k' := by simpa using e0.symm
  subst e1
  clear e0

  have HS0 : Hid (Rb [(g, og), (br, stZ)] B bx W w1 V ⟨{ s.p with order := s.p.order }, s.sorted, s.seen⟩ lv ov) := HRB
  obtain ⟨i0, hi0, hz0, hz1, hz2⟩ := info_parts (P := Tryd.prog) (e := 42) (z := .agg #[.int .i64 0, .int .i64 0]) (size := 2) (bytes := 16) (by kernel_rfl)
  have HIN := Lib.hid (And.intro hi0 (And.intro hz0 (And.intro hz1 hz2)))
  clear hi0 hz0 hz1 hz2
  go_wp2_with fail
  go_loopw [7] (fun v wr => ∃ (i j : Nat) (V' : Nat → Value) (q so : List (Int × Int)), Hid (i = 4 * j + 1) ∧ i ≤ n + 1 ∧ v = .int .i64 i ∧ Hid (Rb [(g, og), (br, stZ)] B bx W wr V' ⟨{ s.p with order := so }, s.sorted, s.seen⟩ lv ov) ∧ Hid (so = s.p.order ++ q ∧ q.length = j ∧ pairsS s.p.levels (tr.take j) = some q)) (fun v _ => n + 4 - (intOf v).toNat)
  case atStart => exact ⟨1, 0, V, [], s.p.order, Lib.hid rfl, by omega, rfl, HS0, Lib.hid ⟨by simp, rfl, rfl⟩⟩
  case round =>
    clear HS0 kk0 HRB
    obtain ⟨i, j, V', q, so, HIJ, hj, rfl, HS, HQ⟩ := hrel
    by_cases hjt : i < n
    · have hjt' : (i : Int) < (n : Int) := by omega
      have hj0 : (0 : Int) ≤ (i : Int) := by omega
      have hj2 : (i : Int) + 2 < (n : Int) := by have := HIJ.out; have := HTL.out; omega
      have hj3 : (0 : Int) ≤ (i : Int) + 2 := by omega
      obtain ⟨s1, s3, hj4, k1, k3⟩ := HT3.out wr j (HS.out.kp (g, og) (by simp)).1 (by have := HIJ.out; have := HTL.out; omega)
      rw [← HIJ.out] at k1 k3
      have k4 : wr.cell? ⟨g, f + ((i : Int) + 2).toNat, none⟩ = some (.string s3) := k3
      have HTJ := Lib.hid hj4
      obtain ⟨m0', A0', q0', e0, hnok⟩ : ∃ m A q, V' 0 = .slice A m q ∧ ∀ z, NOk (wr.drewN z) A m q s.p.levels := by
        have h0 := HS.out.ro.row 0 (by omega)
        obtain ⟨A, q, e⟩ := own_shape h0
        rw [e] at h0
        exact ⟨_, A, q, e, fun z => (own_nok h0 (fun x hx => Nat.le_trans (HZS.out.l x hx) (by unfold maxLen; omega))).below (below_drewN (Below.refl _ _) z)⟩
      have HNK := Lib.hid hnok
      have c0 := HS.out.cs.at 0 _ rfl
      rw [e0] at c0
      obtain ⟨i1, hi1⟩ : ∃ z, findS s.p.levels s1 = z := ⟨_, rfl⟩
      obtain ⟨i3, hi3⟩ : ∃ z, findS s.p.levels s3 = z := ⟨_, rfl⟩
      have HI1 := Lib.hid hi1
      have HI3 := Lib.hid hi3
      clear hj4 e0 hnok hi1 hi3
      have hwr : IntKind.i64.wrap ((i : Int) + 2) = (i : Int) + 2 := by rw [IntKind.wrap_i64]; omega
      go_upto_region 20 with fail
      refine wp_region_still_tail 17 (by kernel_rfl) (by kernel_rfl) ?_
      simp only [List.take_succ_cons, List.take_zero, List.drop_succ_cons, List.drop_zero]
      repeat still_step

      still_call ((rfindN_b s.p.levels s1 A0' m0' q0' i1 HI1 wr.drew (HNK.out 1)).mono fun _ _ h => ⟨h.1, h.2.symm⟩)
      repeat still_step
      still_call ((rfindN_b s.p.levels s3 A0' m0' q0' i3 HI3 wr.drew (HNK.out 1)).mono fun _ _ h => ⟨h.1, h.2.symm⟩)
      repeat still_step
      refine wpStill_nil ?_
      change wpList _ _ _ _ _ wr.drew
      have HSD := Lib.hid (HS.out.next (Below.refl _ _).drew)
      obtain ⟨w2, hw2⟩ : ∃ z, wr.drew = z := ⟨_, rfl⟩
      rw [hw2] at HSD ⊢
      clear hw2 HS k1 k3 k4 c0 hwr
      by_cases hf1 : i1 < 0
      · have hx : x = (7, s) := by rw [← HX0.out, pairsS_bad _ tr j (s1, s3) q HQ.out.2.2 HTJ.out (.inl (by rw [HI1.out]; exact hf1))]
        have HX := Lib.hid hx
        clear hx HX0
        have hzc := HZ.out _ (HSD.out.kp (br, stZ) (by simp)).1
        have HZC := Lib.hid hzc
        have z0 := hzc.at 0 _ rfl
        have y0 := hzc.free 0
        have z1 := hzc.at 1 _ rfl
        have y1 := hzc.free 1
        have z2 := hzc.at 2 _ rfl
        have y2 := hzc.free 2
        have z3 := hzc.at 3 _ rfl
        have y3 := hzc.free 3
        have z4 := hzc.at 4 _ rfl
        have y4 := hzc.free 4
        have z5 := hzc.at 5 _ rfl
        have y5 := hzc.free 5
        have z6 := hzc.at 6 _ rfl
        have y6 := hzc.free 6
        have z7 := hzc.at 7 _ rfl
        have y7 := hzc.free 7
        have hzl := hzc.lt
        clear hzc
        obtain ⟨m0, A0, q0, e0⟩ : ∃ m A q, V' 0 = .slice A m q := ⟨_, own_shape (HSD.out.ro.row 0 (by omega))⟩
        obtain ⟨m1, A1, q1, e1⟩ : ∃ m A q, V' 1 = .slice A m q := ⟨_, own_shape (HSD.out.ro.row 1 (by omega))⟩
        obtain ⟨m2, A2, q2, e2⟩ : ∃ m A q, V' 2 = .slice A m q := ⟨_, own_shape (HSD.out.ro.row 2 (by omega))⟩
        obtain ⟨m3, A3, q3, e3⟩ : ∃ m A q, V' 3 = .slice A m q := ⟨_, own_shape (HSD.out.ro.row 3 (by omega))⟩
        have c0 := HSD.out.cs.at 0 _ rfl
        have f0 := HSD.out.cs.free 0
        have c1 := HSD.out.cs.at 1 _ rfl
        have f1 := HSD.out.cs.free 1
        have c2 := HSD.out.cs.at 2 _ rfl
        have f2 := HSD.out.cs.free 2
        have c3 := HSD.out.cs.at 3 _ rfl
        have f3 := HSD.out.cs.free 3
        have c4 := HSD.out.cs.at 4 _ rfl
        have f4 := HSD.out.cs.free 4
        have c5 := HSD.out.cs.at 5 _ rfl
        have f5 := HSD.out.cs.free 5
        have c6 := HSD.out.cs.at 6 _ rfl
        have f6 := HSD.out.cs.free 6
        have c7 := HSD.out.cs.at 7 _ rfl
        have f7 := HSD.out.cs.free 7
        have hbl := HSD.out.cs.lt
        rw [e0] at c0
        rw [e1] at c1
        rw [e2] at c2
        rw [e3] at c3
        have HES := Lib.hid (And.intro e0 (And.intro e1 (And.intro e2 e3)))
        clear e0 e1 e2 e3
        go_wp2_with fail
        obtain ⟨k0, k1, k2, k3, k4, k5, k6, k7⟩ := eight_cells HZC.out (.slice A0 m0 q0) (.slice A1 m1 q1) (.slice A2 m2 q2) (.slice A3 m3 q3) (.int .i64 s.p.obs) (.bool s.p.timed) (.int .i64 lv) (.int .i64 ov)
        unfold sixW at k5 k6 k7
        refine bodyPost_ret (v := .tuple #[.agg #[.slice A0 m0 q0, .slice A1 m1 q1, .slice A2 m2 q2, .slice A3 m3 q3, .int .i64 s.p.obs, .bool s.p.timed, .int .i64 lv, .int .i64 ov], .int .i64 7]) (by simp [results, Tryd.results37, go_sem, k0, k1, k2, k3, k4, k5, k6, k7]) rfl ?_
        have hres := HSD.out.res (br := br) (ob := stZ) (by simp) HBR.out 7 x (by rw [HX.out]) (fun h => by cases h)
        obtain ⟨e0, e1, e2, e3⟩ := HES.out
        rw [e0, e1, e2, e3] at hres
        exact hres

      by_cases hf3 : i3 < 0
      · have hx : x = (7, s) := by rw [← HX0.out, pairsS_bad _ tr j (s1, s3) q HQ.out.2.2 HTJ.out (.inr (by rw [HI3.out]; exact hf3))]
        have HX := Lib.hid hx
        clear hx HX0
        have hzc := HZ.out _ (HSD.out.kp (br, stZ) (by simp)).1
        have HZC := Lib.hid hzc
        have z0 := hzc.at 0 _ rfl
        have y0 := hzc.free 0
        have z1 := hzc.at 1 _ rfl
        have y1 := hzc.free 1
        have z2 := hzc.at 2 _ rfl
        have y2 := hzc.free 2
        have z3 := hzc.at 3 _ rfl
        have y3 := hzc.free 3
        have z4 := hzc.at 4 _ rfl
        have y4 := hzc.free 4
        have z5 := hzc.at 5 _ rfl
        have y5 := hzc.free 5
        have z6 := hzc.at 6 _ rfl
        have y6 := hzc.free 6
        have z7 := hzc.at 7 _ rfl
        have y7 := hzc.free 7
        have hzl := hzc.lt
        clear hzc
        obtain ⟨m0, A0, q0, e0⟩ : ∃ m A q, V' 0 = .slice A m q := ⟨_, own_shape (HSD.out.ro.row 0 (by omega))⟩
        obtain ⟨m1, A1, q1, e1⟩ : ∃ m A q, V' 1 = .slice A m q := ⟨_, own_shape (HSD.out.ro.row 1 (by omega))⟩
        obtain ⟨m2, A2, q2, e2⟩ : ∃ m A q, V' 2 = .slice A m q := ⟨_, own_shape (HSD.out.ro.row 2 (by omega))⟩
        obtain ⟨m3, A3, q3, e3⟩ : ∃ m A q, V' 3 = .slice A m q := ⟨_, own_shape (HSD.out.ro.row 3 (by omega))⟩
        have c0 := HSD.out.cs.at 0 _ rfl
        have f0 := HSD.out.cs.free 0
        have c1 := HSD.out.cs.at 1 _ rfl
        have f1 := HSD.out.cs.free 1
        have c2 := HSD.out.cs.at 2 _ rfl
        have f2 := HSD.out.cs.free 2
        have c3 := HSD.out.cs.at 3 _ rfl
        have f3 := HSD.out.cs.free 3
        have c4 := HSD.out.cs.at 4 _ rfl
        have f4 := HSD.out.cs.free 4
        have c5 := HSD.out.cs.at 5 _ rfl
        have f5 := HSD.out.cs.free 5
        have c6 := HSD.out.cs.at 6 _ rfl
        have f6 := HSD.out.cs.free 6
        have c7 := HSD.out.cs.at 7 _ rfl
        have f7 := HSD.out.cs.free 7
        have hbl := HSD.out.cs.lt
        rw [e0] at c0
        rw [e1] at c1
        rw [e2] at c2
        rw [e3] at c3
        have HES := Lib.hid (And.intro e0 (And.intro e1 (And.intro e2 e3)))
        clear e0 e1 e2 e3
        go_wp2_with fail
        obtain ⟨k0, k1, k2, k3, k4, k5, k6, k7⟩ := eight_cells HZC.out (.slice A0 m0 q0) (.slice A1 m1 q1) (.slice A2 m2 q2) (.slice A3 m3 q3) (.int .i64 s.p.obs) (.bool s.p.timed) (.int .i64 lv) (.int .i64 ov)
        unfold sixW at k5 k6 k7
        refine bodyPost_ret (v := .tuple #[.agg #[.slice A0 m0 q0, .slice A1 m1 q1, .slice A2 m2 q2, .slice A3 m3 q3, .int .i64 s.p.obs, .bool s.p.timed, .int .i64 lv, .int .i64 ov], .int .i64 7]) (by simp [results, Tryd.results37, go_sem, k0, k1, k2, k3, k4, k5, k6, k7]) rfl ?_
        have hres := HSD.out.res (br := br) (ob := stZ) (by simp) HBR.out 7 x (by rw [HX.out]) (fun h => by cases h)
        obtain ⟨e0, e1, e2, e3⟩ := HES.out
        rw [e0, e1, e2, e3] at hres
        exact hres

      have HQ2 : Hid (so ++ [(i1, i3)] = s.p.order ++ (q ++ [(i1, i3)]) ∧ (q ++ [(i1, i3)]).length = j + 1 ∧ pairsS s.p.levels (tr.take (j + 1)) = some (q ++ [(i1, i3)])) := Lib.hid ⟨by rw [HQ.out.1, List.append_assoc], by simp [HQ.out.2.1], by rw [pairsS_good _ tr j (s1, s3) q HQ.out.2.2 HTJ.out (by rw [HI1.out]; exact hf1) (by rw [HI3.out]; exact hf3), HI1.out, HI3.out]⟩
      have hso : so.length ≤ 29000 := by
        have h1 := HQ.out.1
        have h2 := HQ.out.2.1
        have h3 := HCNT.out
        have h4 := HIJ.out
        rw [h1, List.length_append]
        omega
      have c1 := HSD.out.cs.at 1 _ rfl
      have hl5 := HSD.out.cs.lt
      have HS5 : Hid (B ≤ (w2.alloc (.cells #[.int .i64 i1, .int .i64 i3] 42)).heap.size) := Lib.hid (by have := HSD.out.lt; simp; omega)
      have HOW : Hid (w2.ownsRow B 42 2 (V' 1) so.length (ovals so)) := Lib.hid (HSD.out.ro.row 1 (by omega))
      go_upto_region 23 with fail
      go_upto_region 19 with (first | (at_builtin; (refine wpList_append_lies _ rfl _ _ 23 rfl B 42 i0 _ 2 16 Tryd.underlying23 HIN.out.1 HIN.out.2.1 HIN.out.2.2.1 HIN.out.2.2.2 rfl (by omega) (V' 1) so.length (ovals so) rfl (own_frS HOW.out (Fr.of (S := fun _ => False) ((Below.refl _ _).alloc (Nat.le_refl _) (.cells #[.int .i64 i1, .int .i64 i3] 42))) (fun _ _ h => h)) ⟨w2.heap.size, 0, none⟩ 1 1 [.int .i64 i1, .int .i64 i3] rfl rfl (World.news_of_block (cs := #[.int .i64 i1, .int .i64 i3]) (t := 42) (fr := (0, 0)) (heap_alloc_new w2 _)) (by simp [Value.oneCell']) (by omega) (by unfold maxLen; omega) (by omega) HS5.out (w2.heap.size + 1) (by simp) ?_); intro gg cap w6 hown6 hgrow6 hat6 hlt6; have cs6 := cs_grown (HSD.out.cs.alloc (.cells #[.int .i64 i1, .int .i64 i3] 42)) hgrow6 (HSD.out.nb 1 (by omega)); have b6 := cs6.at 1 _ rfl; have bf6 := cs6.free 1; have hbl6 := cs6.lt; clear cs6) | fail)
      obtain ⟨V7, HR6⟩ : ∃ V7 : Nat → Value, Hid (Rb [(g, og), (br, stZ)] B bx W (w6.setCell ⟨bx, 1, none⟩ (.slice (some ⟨gg, 0, none⟩) (so.length + 1) cap)) V7 ⟨{ s.p with order := so ++ [(i1, i3)] }, s.sorted, s.seen⟩ lv ov) :=
        ⟨_, Lib.hid (HSD.out.push (a := 1) (o := .cells #[.int .i64 i1, .int .i64 i3] 42) (by omega) hgrow6 hown6 (by rcases hat6 with h | h; exact .inl h; exact .inr (by rw [h])) ⟨{ s.p with order := so ++ [(i1, i3)] }, s.sorted, s.seen⟩ (by show (so ++ [(i1, i3)]).length = so.length + 1; simp) (by show ovals (so ++ [(i1, i3)]) = ovals so ++ [.int .i64 i1, .int .i64 i3]; exact ovals_snoc _ _) (fun k hk hka => by match k, hk, hka with | 3, _, _ => exact ⟨rfl, rfl⟩ | 0, _, _ => exact ⟨rfl, rfl⟩ | 2, _, _ => exact ⟨rfl, rfl⟩ | 1, _, h => exact absurd rfl h) ⟨rfl, rfl⟩)⟩
      clear hown6 hgrow6 hat6 b6 bf6 hbl6 HOW HS5 hlt6 c1
      obtain ⟨w7, hw7⟩ : ∃ z, w6.setCell ⟨bx, 1, none⟩ (.slice (some ⟨gg, 0, none⟩) (so.length + 1) cap) = z := ⟨_, rfl⟩
      rw [hw7] at HR6 ⊢
      clear hw7
      go_wp2_with fail
      go_roundw
      case rel => exact ⟨i + 4, j + 1, V7, _, _, Lib.hid (by have := HIJ.out; omega), by have := HIJ.out; have := HTL.out; omega, by go_num, HR6, HQ2⟩
      case measure => simp [intOf]; omega
    · have hge : ¬ ((i : Int) < (n : Int)) := by omega
      have hx : x = (0, ⟨{ s.p with order := so }, s.sorted, s.seen⟩) := by
        have h := HQ.out.2.2
        rw [List.take_of_length_le (by have := HTL.out; have := HIJ.out; omega)] at h
        rw [← HX0.out, h, HQ.out.1]
      have HX := Lib.hid hx
      clear hx HX0 hjt
      have hzc := HZ.out _ (HS.out.kp (br, stZ) (by simp)).1
      have HZC := Lib.hid hzc
      have z0 := hzc.at 0 _ rfl
      have y0 := hzc.free 0
      have z1 := hzc.at 1 _ rfl
      have y1 := hzc.free 1
      have z2 := hzc.at 2 _ rfl
      have y2 := hzc.free 2
      have z3 := hzc.at 3 _ rfl
      have y3 := hzc.free 3
      have z4 := hzc.at 4 _ rfl
      have y4 := hzc.free 4
      have z5 := hzc.at 5 _ rfl
      have y5 := hzc.free 5
      have z6 := hzc.at 6 _ rfl
      have y6 := hzc.free 6
      have z7 := hzc.at 7 _ rfl
      have y7 := hzc.free 7
      have hzl := hzc.lt
      clear hzc
      obtain ⟨m0, A0, q0, e0⟩ : ∃ m A q, V' 0 = .slice A m q := ⟨_, own_shape (HS.out.ro.row 0 (by omega))⟩
      obtain ⟨m1, A1, q1, e1⟩ : ∃ m A q, V' 1 = .slice A m q := ⟨_, own_shape (HS.out.ro.row 1 (by omega))⟩
      obtain ⟨m2, A2, q2, e2⟩ : ∃ m A q, V' 2 = .slice A m q := ⟨_, own_shape (HS.out.ro.row 2 (by omega))⟩
      obtain ⟨m3, A3, q3, e3⟩ : ∃ m A q, V' 3 = .slice A m q := ⟨_, own_shape (HS.out.ro.row 3 (by omega))⟩
      have c0 := HS.out.cs.at 0 _ rfl
      have f0 := HS.out.cs.free 0
      have c1 := HS.out.cs.at 1 _ rfl
      have f1 := HS.out.cs.free 1
      have c2 := HS.out.cs.at 2 _ rfl
      have f2 := HS.out.cs.free 2
      have c3 := HS.out.cs.at 3 _ rfl
      have f3 := HS.out.cs.free 3
      have c4 := HS.out.cs.at 4 _ rfl
      have f4 := HS.out.cs.free 4
      have c5 := HS.out.cs.at 5 _ rfl
      have f5 := HS.out.cs.free 5
      have c6 := HS.out.cs.at 6 _ rfl
      have f6 := HS.out.cs.free 6
      have c7 := HS.out.cs.at 7 _ rfl
      have f7 := HS.out.cs.free 7
      have hbl := HS.out.cs.lt
      rw [e0] at c0
      rw [e1] at c1
      rw [e2] at c2
      rw [e3] at c3
      have HES := Lib.hid (And.intro e0 (And.intro e1 (And.intro e2 e3)))
      clear e0 e1 e2 e3
      go_wp2_with fail
      obtain ⟨k0, k1, k2, k3, k4, k5, k6, k7⟩ := eight_cells HZC.out (.slice A0 m0 q0) (.slice A1 m1 q1) (.slice A2 m2 q2) (.slice A3 m3 q3) (.int .i64 s.p.obs) (.bool s.p.timed) (.int .i64 lv) (.int .i64 ov)
      unfold sixW at k5 k6 k7
      refine bodyPost_ret (v := .tuple #[.agg #[.slice A0 m0 q0, .slice A1 m1 q1, .slice A2 m2 q2, .slice A3 m3 q3, .int .i64 s.p.obs, .bool s.p.timed, .int .i64 lv, .int .i64 ov], .int .i64 0]) (by simp [results, Tryd.results37, go_sem, k0, k1, k2, k3, k4, k5, k6, k7]) rfl ?_
      have hres := HS.out.res (br := br) (ob := stZ) (by simp) HBR.out 0 x (by rw [HX.out]) (fun _ => by rw [HX.out]; exact ⟨rfl, HVV.out.1, HVV.out.2⟩)
      obtain ⟨e0, e1, e2, e3⟩ := HES.out
      rw [e0, e1, e2, e3] at hres
      exact hres

set_option maxRecDepth 100000 in
set_option maxHeartbeats 8000000 in
/-- A line of a label. -/
theorem readI_b (B : Nat) (W : World) (V : Nat → Value) (s : Rd) (lv ov : Int) (k : ByteArray) (t : List ByteArray) (g f n c : Nat) (hn : n ≤ 9000) (hlv : lv = bI s.sorted) (hov : ov = bI s.seen) (hk : (k.toList == wInput) = true) (hsh : twoB t = true) (x : Int × Rd) (H : Hid (rdInput s t = x))
    (ht : NOk W (some ⟨g, f, none⟩) n c (k :: t)) (h : Ro B W V s) (hgv : ∀ i, i < 4 → (V i).ownBlock ≠ some g) (hB : B ≤ W.heap.size) (hz : Szs 8192 s) (hcnt : s.p.inputs.length ≤ 20000) :
    Calls Tryd.prog 37 #[.agg #[V 0, V 1, V 2, V 3, .int .i64 s.p.obs, .bool s.p.timed, .int .i64 lv, .int .i64 ov], .slice (some ⟨g, f, none⟩) n c] W fun e W' => RsRes B W x e W' := by
  have hnl := ht.len
  simp only [List.length_cons] at hnl
  obtain ⟨k', gA, fA, hk', _, hAA, hgl, kk0⟩ := ht.at 0 (by omega)
  rw [Nat.add_zero] at kk0
  injection hAA with hAA
  injection hAA with eg ef
  subst eg ef
  have ek : k' = k := by simpa using hk'.symm
  subst ek
  clear hk'
  obtain ⟨og, hog, hst⟩ := rb_start (lv := lv) (ov := ov) h hB hgl hgv
  have HTOK : Hid (∀ (W' : World) (j : Nat), W'.heap[g]? = some og → j < n → ∃ s1, (k' :: t)[j]? = some s1 ∧ s1.size ≤ maxLen ∧ W'.cell? ⟨g, f + j, none⟩ = some (.string s1)) := Lib.hid (fun W' j hh hj => by
    obtain ⟨s1, gA, fA, h1, h2, h3, _, h5⟩ := ht.at j hj
    injection h3 with h3
    injection h3 with eg ef
    subst eg ef
    exact ⟨s1, h1, h2, kept_cell (hh.trans hog.symm) h5⟩)
  have HST := Lib.hid hst
  have HVV := Lib.hid (And.intro hlv hov)
  have HNL := Lib.hid hnl
  have HBB := Lib.hid hB
  have hn1 : (0 : Int) < (n : Int) := by omega
  have hn0 : 0 < n := by omega
  clear ht h hlv hov hgv hst hog hnl
  have hkk : k'.toList = wInput := by simpa using hk
  have g0 : (k'.toList == [108, 101, 118, 101, 108, 115]) = false := by rw [hkk]; rfl
  have g1 : (k'.toList == [111, 114, 100, 101, 114]) = false := by rw [hkk]; rfl
  have g2 : (k'.toList == [111, 98, 115, 101, 114, 118, 101]) = false := by rw [hkk]; rfl
  have g3 : (k'.toList == [105, 110, 112, 117, 116]) = true := by rw [hkk]; rfl
  clear hkk hk hgl kk0

  have HZS := Lib.hid hz
  have HCNT := Lib.hid hcnt
  obtain ⟨a, b, hab⟩ : ∃ a b, t = [a, b] := by
    match t, hsh with
    | [], h => cases h
    | [_], h => cases h
    | [a, b], _ => exact ⟨a, b, rfl⟩
    | _ :: _ :: _ :: _, h => cases h
  subst hab
  have hn3 : n = 3 := by have := HNL.out; simp only [List.length_cons, List.length_nil] at this; omega
  obtain ⟨r, hr⟩ : ∃ z, findS s.p.levels b = z := ⟨_, rfl⟩
  have HFR := Lib.hid hr
  have HX0 : Hid ((if r < 0 then (7, s) else ((0 : Int), (⟨{ s.p with inputs := s.p.inputs ++ [⟨a, r⟩] }, s.sorted, s.seen⟩ : Rd))) = x) := Lib.hid (by
    have hw : (isW a && isW b) = true := hsh
    rw [← H.out, rdInput_two, if_pos hw, hr])
  have HN3 := Lib.hid hn3
  clear hsh hz hcnt hr H hn3
  go_enter Tryd.func37, Tryd.ntmps37
  go_upto_region 1 with fail
  obtain ⟨w1, hw1⟩ : ∃ z, (W.alloc (.cells #[V 0, V 1, V 2, V 3, .int .i64 s.p.obs, .bool s.p.timed, .int .i64 lv, .int .i64 ov] 81)).alloc stZ = z := ⟨_, rfl⟩
  obtain ⟨hrb, hzc, hzk⟩ := HST.out w1 hw1
  have hw1' : (W.alloc (.cells #[V 0, V 1, V 2, V 3, .int .i64 s.p.obs, .bool s.p.timed, .int .i64 lv, .int .i64 ov] 81)).alloc (.cells #[.slice none 0 0, .slice none 0 0, .slice none 0 0, .slice none 0 0, .int .i64 0, .bool false, .int .i64 0, .int .i64 0] 81) = w1 := hw1
  rw [hw1']
  clear hw1 hw1' HST
  have hbrB : B ≤ W.heap.size + 1 := by omega
  obtain ⟨bx, hbx⟩ : ∃ z, W.heap.size = z := ⟨_, rfl⟩
  obtain ⟨br, hbr⟩ : ∃ z, W.heap.size + 1 = z := ⟨_, rfl⟩
  rw [hbr] at hrb hzc hzk hbrB ⊢
  rw [hbx] at hrb ⊢
  have HBR := Lib.hid hbrB
  have HRB := Lib.hid hrb
  have HZ : Hid (∀ W' : World, W'.heap[br]? = some stZ → Cs W' br [.slice none 0 0, .slice none 0 0, .slice none 0 0, .slice none 0 0, .int .i64 0, .bool false, .int .i64 0, .int .i64 0]) := Lib.hid (fun W' hh => hzc.kept (hh.trans hzk.symm))
  have hbxr : bx ≠ br := by omega
  clear hrb hzc hzk hbrB hbx hbr
  obtain ⟨s1, e0, _, kk0⟩ := HTOK.out w1 0 (HRB.out.kp (g, og) (by simp)).1 hn0
  rw [Nat.add_zero] at kk0
  have e1 : s1 = k' := by simpa using e0.symm
  subst e1
  clear e0

  obtain ⟨a1, e1, _, k1⟩ := HTOK.out w1 1 (HRB.out.kp (g, og) (by simp)).1 (by have := HN3.out; omega)
  obtain ⟨b1, e2, _, k2⟩ := HTOK.out w1 2 (HRB.out.kp (g, og) (by simp)).1 (by have := HN3.out; omega)
  have e3 : a1 = a := by simpa using e1.symm
  have e4 : b1 = b := by simpa using e2.symm
  subst e3 e4
  have h1n : (1 : Int) < (n : Int) := by have := HN3.out; omega
  have h2n : (2 : Int) < (n : Int) := by have := HN3.out; omega
  obtain ⟨m0, A0, q0, e0, hnok⟩ : ∃ m A q, V 0 = .slice A m q ∧ NOk w1 A m q s.p.levels := by
    have h0 := HRB.out.ro.row 0 (by omega)
    obtain ⟨A, q, e⟩ := own_shape h0
    rw [e] at h0
    exact ⟨_, A, q, e, own_nok h0 (fun x hx => Nat.le_trans (HZS.out.l x hx) (by unfold maxLen; omega))⟩
  have HNK := Lib.hid hnok
  have c0 := HRB.out.cs.at 0 _ rfl
  rw [e0] at c0
  have hbl := HRB.out.cs.lt
  clear e1 e2 e0 hnok
  go_upto_region 2 with fail
  have KP : Hid (∀ W', Below w1.heap.size w1 W' → (W'.cell? ⟨g, f + 1, none⟩ = some (.string a1) ∧ W'.cell? ⟨g, f + 2, none⟩ = some (.string b1) ∧ W'.cell? ⟨bx, 0, none⟩ = some (.slice A0 m0 q0))) := Lib.hid (fun W' h => ⟨(h.cell (p := ⟨g, f + 1, none⟩) (World.block_lt_of_cell? _ _ k1)).trans k1, (h.cell (p := ⟨g, f + 2, none⟩) (World.block_lt_of_cell? _ _ k2)).trans k2, (h.cell (p := ⟨bx, 0, none⟩) hbl).trans c0⟩)
  obtain ⟨p, hp⟩ : ∃ z, w1.heap.size = z := ⟨_, rfl⟩
  go_cut [10] (fun u wx => u = .pointer (some ⟨p, 0, none⟩) ∧ Hid (Rb [(g, og), (br, stZ)] B bx W wx V s lv ov ∧ Cs wx p [.string a1, .int .i64 r]))
  case first =>
    go_region_held3 (fun W' => W'.cell? ⟨g, f + 1, none⟩ = some (.string a1) ∧ W'.cell? ⟨g, f + 2, none⟩ = some (.string b1) ∧ W'.cell? ⟨bx, 0, none⟩ = some (.slice A0 m0 q0)) (first | with_reducible exact KP.out _ (Below.refl _ _).drew | exact KP.out _ ((Below.refl _ _).drew.alloc (by simp) _)) (first
      | (go_at_call 65; refine (rfindN_b s.p.levels b1 A0 m0 q0 r HFR _ (HNK.out.below ((Below.refl w1.heap.size w1).drew.alloc (by simp) (.cells #[.string ⟨#[]⟩, .int .i64 0] 71)))).mono ?_; rintro e wy ⟨rfl, rfl⟩)
      | (go_at_call 65; refine (rfindN_b s.p.levels b1 A0 m0 q0 r HFR _ (HNK.out.below (Below.refl w1.heap.size w1).drew)).mono ?_; rintro e wy ⟨rfl, rfl⟩))
    all_goals
      go_wp2_with fail
      go_meet
      case rel =>
        have hb : Below w1.heap.size w1 (w1.alloc (.cells #[.string a1, .int .i64 r] 71)).drew := ((Below.refl w1.heap.size w1).alloc (Nat.le_refl _) _).drew
        have hc := (Cs.new w1 #[.string a1, .int .i64 r] 71).drew
        rw [hp] at hc
        exact ⟨rfl, Lib.hid ⟨HRB.out.next hb, hc⟩⟩
  case rest =>
    obtain ⟨rfl, hcc⟩ := hcut
    have HRX := Lib.hid hcc.out.1
    have HCX := Lib.hid hcc.out.2
    have HK1 := HTOK.out wc 0 (HRX.out.kp (g, og) (by simp)).1 hn0
    clear hcc KP k1 k2 c0 hbl HRB HNK kk0
    obtain ⟨s2, e0, _, kk0⟩ := HK1
    rw [Nat.add_zero] at kk0
    have e1 : s2 = s1 := by simpa using e0.symm
    subst e1
    have n0 := HCX.out.at 0 _ rfl
    have n1 := HCX.out.at 1 _ rfl
    have hpl := HCX.out.lt
    clear e0
    by_cases hr0 : r < 0
    · have hx : x = (7, s) := by rw [← HX0.out, if_pos hr0]
      have HX := Lib.hid hx
      clear hx HX0
      have hzc := HZ.out _ (HRX.out.kp (br, stZ) (by simp)).1
      have HZC := Lib.hid hzc
      have z0 := hzc.at 0 _ rfl
      have y0 := hzc.free 0
      have z1 := hzc.at 1 _ rfl
      have y1 := hzc.free 1
      have z2 := hzc.at 2 _ rfl
      have y2 := hzc.free 2
      have z3 := hzc.at 3 _ rfl
      have y3 := hzc.free 3
      have z4 := hzc.at 4 _ rfl
      have y4 := hzc.free 4
      have z5 := hzc.at 5 _ rfl
      have y5 := hzc.free 5
      have z6 := hzc.at 6 _ rfl
      have y6 := hzc.free 6
      have z7 := hzc.at 7 _ rfl
      have y7 := hzc.free 7
      have hzl := hzc.lt
      clear hzc
      obtain ⟨m0, A0, q0, e0⟩ : ∃ m A q, V 0 = .slice A m q := ⟨_, own_shape (HRX.out.ro.row 0 (by omega))⟩
      obtain ⟨m1, A1, q1, e1⟩ : ∃ m A q, V 1 = .slice A m q := ⟨_, own_shape (HRX.out.ro.row 1 (by omega))⟩
      obtain ⟨m2, A2, q2, e2⟩ : ∃ m A q, V 2 = .slice A m q := ⟨_, own_shape (HRX.out.ro.row 2 (by omega))⟩
      obtain ⟨m3, A3, q3, e3⟩ : ∃ m A q, V 3 = .slice A m q := ⟨_, own_shape (HRX.out.ro.row 3 (by omega))⟩
      have c0 := HRX.out.cs.at 0 _ rfl
      have f0 := HRX.out.cs.free 0
      have c1 := HRX.out.cs.at 1 _ rfl
      have f1 := HRX.out.cs.free 1
      have c2 := HRX.out.cs.at 2 _ rfl
      have f2 := HRX.out.cs.free 2
      have c3 := HRX.out.cs.at 3 _ rfl
      have f3 := HRX.out.cs.free 3
      have c4 := HRX.out.cs.at 4 _ rfl
      have f4 := HRX.out.cs.free 4
      have c5 := HRX.out.cs.at 5 _ rfl
      have f5 := HRX.out.cs.free 5
      have c6 := HRX.out.cs.at 6 _ rfl
      have f6 := HRX.out.cs.free 6
      have c7 := HRX.out.cs.at 7 _ rfl
      have f7 := HRX.out.cs.free 7
      have hbl := HRX.out.cs.lt
      rw [e0] at c0
      rw [e1] at c1
      rw [e2] at c2
      rw [e3] at c3
      have HES := Lib.hid (And.intro e0 (And.intro e1 (And.intro e2 e3)))
      clear e0 e1 e2 e3
      go_wp2_with fail
      obtain ⟨k0, k1, k2, k3, k4, k5, k6, k7⟩ := eight_cells HZC.out (.slice A0 m0 q0) (.slice A1 m1 q1) (.slice A2 m2 q2) (.slice A3 m3 q3) (.int .i64 s.p.obs) (.bool s.p.timed) (.int .i64 lv) (.int .i64 ov)
      unfold sixW at k5 k6 k7
      refine bodyPost_ret (v := .tuple #[.agg #[.slice A0 m0 q0, .slice A1 m1 q1, .slice A2 m2 q2, .slice A3 m3 q3, .int .i64 s.p.obs, .bool s.p.timed, .int .i64 lv, .int .i64 ov], .int .i64 7]) (by simp [results, Tryd.results37, go_sem, k0, k1, k2, k3, k4, k5, k6, k7]) rfl ?_
      have hres := HRX.out.res (br := br) (ob := stZ) (by simp) HBR.out 7 x (by rw [HX.out]) (fun h => by cases h)
      obtain ⟨e0, e1, e2, e3⟩ := HES.out
      rw [e0, e1, e2, e3] at hres
      exact hres

    have hx : x = (0, ⟨{ s.p with inputs := s.p.inputs ++ [⟨a1, r⟩] }, s.sorted, s.seen⟩) := by rw [← HX0.out, if_neg hr0]
    have HX := Lib.hid hx
    clear hx HX0
    go_upto_region 6 with fail
    obtain ⟨i0, hi0, hz0, hz1, hz2⟩ := info_parts (P := Tryd.prog) (e := 71) (z := .agg #[.string ⟨#[]⟩, .int .i64 0]) (size := 2) (bytes := 24) (by kernel_rfl)
    have HIN := Lib.hid (And.intro hi0 (And.intro hz0 (And.intro hz1 hz2)))
    have c2 := HRX.out.cs.at 2 _ rfl
    have hl5 := HRX.out.cs.lt
    have hso : s.p.inputs.length ≤ 20000 := HCNT.out
    have HS5 : Hid (B ≤ (wc.alloc (.cells #[.string a1, .int .i64 r] 71)).heap.size) := Lib.hid (by have := HRX.out.lt; simp; omega)
    have HOW : Hid (wc.ownsRow B 71 2 (V 2) s.p.inputs.length (lbvals s.p.inputs)) := Lib.hid (HRX.out.ro.row 2 (by omega))
    clear hi0 hz0 hz1 hz2 kk0
    go_upto_region 32 with (first | (at_builtin; (refine wpList_append_lies _ rfl _ _ 24 rfl B 71 i0 _ 2 24 Tryd.underlying24 HIN.out.1 HIN.out.2.1 HIN.out.2.2.1 HIN.out.2.2.2 rfl (by omega) (V 2) s.p.inputs.length (lbvals s.p.inputs) rfl (own_frS HOW.out (Fr.of (S := fun _ => False) ((Below.refl _ _).alloc (Nat.le_refl _) (.cells #[.string a1, .int .i64 r] 71))) (fun _ _ h => h)) ⟨wc.heap.size, 0, none⟩ 1 1 [.string a1, .int .i64 r] rfl rfl (World.news_of_block (cs := #[.string a1, .int .i64 r]) (t := 71) (fr := (0, 0)) (heap_alloc_new wc _)) (by simp [Value.oneCell']) (by omega) (by unfold maxLen; omega) (by omega) HS5.out (wc.heap.size + 1) (by simp) ?_); intro gg cap w6 hown6 hgrow6 hat6 hlt6; have cs6 := cs_grown (HRX.out.cs.alloc (.cells #[.string a1, .int .i64 r] 71)) hgrow6 (HRX.out.nb 2 (by omega)); have b6 := cs6.at 2 _ rfl; have bf6 := cs6.free 2; have hbl6 := cs6.lt; clear cs6) | fail)
    obtain ⟨V7, HR6⟩ : ∃ V7 : Nat → Value, Hid (Rb [(g, og), (br, stZ)] B bx W (w6.setCell ⟨bx, 2, none⟩ (.slice (some ⟨gg, 0, none⟩) (s.p.inputs.length + 1) cap)) V7 ⟨{ s.p with inputs := s.p.inputs ++ [⟨a1, r⟩] }, s.sorted, s.seen⟩ lv ov) :=
      ⟨_, Lib.hid (HRX.out.push (a := 2) (o := .cells #[.string a1, .int .i64 r] 71) (by omega) hgrow6 hown6 (by rcases hat6 with h | h; exact .inl h; exact .inr (by rw [h])) ⟨{ s.p with inputs := s.p.inputs ++ [⟨a1, r⟩] }, s.sorted, s.seen⟩ (by show (s.p.inputs ++ [(⟨a1, r⟩ : Lb)]).length = s.p.inputs.length + 1; simp) (by show lbvals (s.p.inputs ++ [(⟨a1, r⟩ : Lb)]) = lbvals s.p.inputs ++ [.string a1, .int .i64 r]; exact lbvals_snoc _ _) (fun k hk hka => by match k, hk, hka with | 0, _, _ => exact ⟨rfl, rfl⟩ | 1, _, _ => exact ⟨rfl, rfl⟩ | 3, _, _ => exact ⟨rfl, rfl⟩ | 2, _, h => exact absurd rfl h) ⟨rfl, rfl⟩)⟩
    clear hown6 hgrow6 hat6 b6 bf6 hbl6 HOW HS5 hlt6 c2 hl5 n0 n1 hpl
    obtain ⟨w7, hw7⟩ : ∃ z, w6.setCell ⟨bx, 2, none⟩ (.slice (some ⟨gg, 0, none⟩) (s.p.inputs.length + 1) cap) = z := ⟨_, rfl⟩
    rw [hw7] at HR6 ⊢
    clear hw7
    have hzc := HZ.out _ (HR6.out.kp (br, stZ) (by simp)).1
    have HZC := Lib.hid hzc
    have z0 := hzc.at 0 _ rfl
    have y0 := hzc.free 0
    have z1 := hzc.at 1 _ rfl
    have y1 := hzc.free 1
    have z2 := hzc.at 2 _ rfl
    have y2 := hzc.free 2
    have z3 := hzc.at 3 _ rfl
    have y3 := hzc.free 3
    have z4 := hzc.at 4 _ rfl
    have y4 := hzc.free 4
    have z5 := hzc.at 5 _ rfl
    have y5 := hzc.free 5
    have z6 := hzc.at 6 _ rfl
    have y6 := hzc.free 6
    have z7 := hzc.at 7 _ rfl
    have y7 := hzc.free 7
    have hzl := hzc.lt
    clear hzc
    obtain ⟨m0, A0, q0, e0⟩ : ∃ m A q, V7 0 = .slice A m q := ⟨_, own_shape (HR6.out.ro.row 0 (by omega))⟩
    obtain ⟨m1, A1, q1, e1⟩ : ∃ m A q, V7 1 = .slice A m q := ⟨_, own_shape (HR6.out.ro.row 1 (by omega))⟩
    obtain ⟨m2, A2, q2, e2⟩ : ∃ m A q, V7 2 = .slice A m q := ⟨_, own_shape (HR6.out.ro.row 2 (by omega))⟩
    obtain ⟨m3, A3, q3, e3⟩ : ∃ m A q, V7 3 = .slice A m q := ⟨_, own_shape (HR6.out.ro.row 3 (by omega))⟩
    have c0 := HR6.out.cs.at 0 _ rfl
    have f0 := HR6.out.cs.free 0
    have c1 := HR6.out.cs.at 1 _ rfl
    have f1 := HR6.out.cs.free 1
    have c2 := HR6.out.cs.at 2 _ rfl
    have f2 := HR6.out.cs.free 2
    have c3 := HR6.out.cs.at 3 _ rfl
    have f3 := HR6.out.cs.free 3
    have c4 := HR6.out.cs.at 4 _ rfl
    have f4 := HR6.out.cs.free 4
    have c5 := HR6.out.cs.at 5 _ rfl
    have f5 := HR6.out.cs.free 5
    have c6 := HR6.out.cs.at 6 _ rfl
    have f6 := HR6.out.cs.free 6
    have c7 := HR6.out.cs.at 7 _ rfl
    have f7 := HR6.out.cs.free 7
    have hbl := HR6.out.cs.lt
    rw [e0] at c0
    rw [e1] at c1
    rw [e2] at c2
    rw [e3] at c3
    have HES := Lib.hid (And.intro e0 (And.intro e1 (And.intro e2 e3)))
    clear e0 e1 e2 e3
    go_wp2_with fail
    obtain ⟨k0, k1, k2, k3, k4, k5, k6, k7⟩ := eight_cells HZC.out (.slice A0 m0 q0) (.slice A1 m1 q1) (.slice A2 m2 q2) (.slice A3 m3 q3) (.int .i64 s.p.obs) (.bool s.p.timed) (.int .i64 lv) (.int .i64 ov)
    unfold sixW at k5 k6 k7
    refine bodyPost_ret (v := .tuple #[.agg #[.slice A0 m0 q0, .slice A1 m1 q1, .slice A2 m2 q2, .slice A3 m3 q3, .int .i64 s.p.obs, .bool s.p.timed, .int .i64 lv, .int .i64 ov], .int .i64 0]) (by simp [results, Tryd.results37, go_sem, k0, k1, k2, k3, k4, k5, k6, k7]) rfl ?_
    have hres := HR6.out.res (br := br) (ob := stZ) (by simp) HBR.out 0 x (by rw [HX.out]) (fun _ => by rw [HX.out]; exact ⟨rfl, HVV.out.1, HVV.out.2⟩)
    obtain ⟨e0, e1, e2, e3⟩ := HES.out
    rw [e0, e1, e2, e3] at hres
    exact hres
end Go.Proofs.YtnipigninbeplaaDoor
