/-
  The walk over the reference's read.
  The reference's read: any line of the right form.
-/
import Derived.Test.YtnipigninbeplaaDoorPP
import Derived.Test.YtnipigninbeplaaDoorPH
import Derived.Test.YtnipigninbeplaaDoorPQ
import Derived.Test.YtnipigninbeplaaDoorPR
namespace Go.Proofs.YtnipigninbeplaaDoor
open Go.RowKit

set_option maxRecDepth 100000 in
set_option maxHeartbeats 8000000 in
/-- A line of a label. -/
theorem readH_b (B : Nat) (W : World) (V : Nat → Value) (s : Rd) (lv ov : Int) (k : ByteArray) (t : List ByteArray) (g f n c : Nat) (hn : n ≤ 9000) (hlv : lv = bI s.sorted) (hov : ov = bI s.seen) (hk : (k.toList == wHatch) = true) (hsh : twoB t = true) (x : Int × Rd) (H : Hid (rdHatch s t = x))
    (ht : NOk W (some ⟨g, f, none⟩) n c (k :: t)) (h : Ro B W V s) (hgv : ∀ i, i < 4 → (V i).ownBlock ≠ some g) (hB : B ≤ W.heap.size) (hz : Szs 8192 s) (hcnt : s.p.hatches.length ≤ 20000) :
    Calls Tryd.prog 37 #[.agg #[V 0, V 1, V 2, V 3, .int .i64 s.p.obs, .bool s.p.timed, .int .i64 lv, .int .i64 ov], .slice (some ⟨g, f, none⟩) n c] W fun e W' => RsRes B W x e W' := by
  have hnl := ht.len
  simp only [List.length_cons] at hnl
  obtain ⟨k', gA, fA, hk', _, hAA, hgl, kk0⟩ := ht.at 0 (by omega)
  rw [Nat.add_zero] at kk0
  injection hAA with hAA
  injection hAA with eg ef
  subst eg ef
  have ek : k' = k := by simpa using hk'.symm
  subst ek
  clear hk'
  obtain ⟨og, hog, hst⟩ := rb_start (lv := lv) (ov := ov) h hB hgl hgv
  have HTOK : Hid (∀ (W' : World) (j : Nat), W'.heap[g]? = some og → j < n → ∃ s1, (k' :: t)[j]? = some s1 ∧ s1.size ≤ maxLen ∧ W'.cell? ⟨g, f + j, none⟩ = some (.string s1)) := Lib.hid (fun W' j hh hj => by
    obtain ⟨s1, gA, fA, h1, h2, h3, _, h5⟩ := ht.at j hj
    injection h3 with h3
    injection h3 with eg ef
    subst eg ef
    exact ⟨s1, h1, h2, kept_cell (hh.trans hog.symm) h5⟩)
  have HST := Lib.hid hst
  have HVV := Lib.hid (And.intro hlv hov)
  have HNL := Lib.hid hnl
  have HBB := Lib.hid hB
  have hn1 : (0 : Int) < (n : Int) := by omega
  have hn0 : 0 < n := by omega
  clear ht h hlv hov hgv hst hog hnl
  have hkk : k'.toList = wHatch := by simpa using hk
  have g0 : (k'.toList == [108, 101, 118, 101, 108, 115]) = false := by rw [hkk]; rfl
  have g1 : (k'.toList == [111, 114, 100, 101, 114]) = false := by rw [hkk]; rfl
  have g2 : (k'.toList == [111, 98, 115, 101, 114, 118, 101]) = false := by rw [hkk]; rfl
  have g3 : (k'.toList == [105, 110, 112, 117, 116]) = false := by rw [hkk]; rfl
  clear hkk hk hgl kk0

  have HZS := Lib.hid hz
  have HCNT := Lib.hid hcnt
  obtain ⟨a, b, hab⟩ : ∃ a b, t = [a, b] := by
    match t, hsh with
    | [], h => cases h
    | [_], h => cases h
    | [a, b], _ => exact ⟨a, b, rfl⟩
    | _ :: _ :: _ :: _, h => cases h
  subst hab
  have hn3 : n = 3 := by have := HNL.out; simp only [List.length_cons, List.length_nil] at this; omega
  obtain ⟨r, hr⟩ : ∃ z, findS s.p.levels b = z := ⟨_, rfl⟩
  have HFR := Lib.hid hr
  have HX0 : Hid ((if r < 0 then (7, s) else ((0 : Int), (⟨{ s.p with hatches := s.p.hatches ++ [⟨a, r⟩] }, s.sorted, s.seen⟩ : Rd))) = x) := Lib.hid (by
    have hw : (isW a && isW b) = true := hsh
    rw [← H.out, rdHatch_two, if_pos hw, hr])
  have HN3 := Lib.hid hn3
  clear hsh hz hcnt hr H hn3
  go_enter Tryd.func37, Tryd.ntmps37
  go_upto_region 1 with fail
  obtain ⟨w1, hw1⟩ : ∃ z, (W.alloc (.cells #[V 0, V 1, V 2, V 3, .int .i64 s.p.obs, .bool s.p.timed, .int .i64 lv, .int .i64 ov] 81)).alloc stZ = z := ⟨_, rfl⟩
  obtain ⟨hrb, hzc, hzk⟩ := HST.out w1 hw1
  have hw1' : (W.alloc (.cells #[V 0, V 1, V 2, V 3, .int .i64 s.p.obs, .bool s.p.timed, .int .i64 lv, .int .i64 ov] 81)).alloc (.cells #[.slice none 0 0, .slice none 0 0, .slice none 0 0, .slice none 0 0, .int .i64 0, .bool false, .int .i64 0, .int .i64 0] 81) = w1 := hw1
  rw [hw1']
  clear hw1 hw1' HST
  have hbrB : B ≤ W.heap.size + 1 := by omega
  obtain ⟨bx, hbx⟩ : ∃ z, W.heap.size = z := ⟨_, rfl⟩
  obtain ⟨br, hbr⟩ : ∃ z, W.heap.size + 1 = z := ⟨_, rfl⟩
  rw [hbr] at hrb hzc hzk hbrB ⊢
  rw [hbx] at hrb ⊢
  have HBR := Lib.hid hbrB
  have HRB := Lib.hid hrb
  have HZ : Hid (∀ W' : World, W'.heap[br]? = some stZ → Cs W' br [.slice none 0 0, .slice none 0 0, .slice none 0 0, .slice none 0 0, .int .i64 0, .bool false, .int .i64 0, .int .i64 0]) := Lib.hid (fun W' hh => hzc.kept (hh.trans hzk.symm))
  have hbxr : bx ≠ br := by omega
  clear hrb hzc hzk hbrB hbx hbr
  obtain ⟨s1, e0, _, kk0⟩ := HTOK.out w1 0 (HRB.out.kp (g, og) (by simp)).1 hn0
  rw [Nat.add_zero] at kk0
  have e1 : s1 = k' := by simpa using e0.symm
  subst e1
  clear e0

  obtain ⟨a1, e1, _, k1⟩ := HTOK.out w1 1 (HRB.out.kp (g, og) (by simp)).1 (by have := HN3.out; omega)
  obtain ⟨b1, e2, _, k2⟩ := HTOK.out w1 2 (HRB.out.kp (g, og) (by simp)).1 (by have := HN3.out; omega)
  have e3 : a1 = a := by simpa using e1.symm
  have e4 : b1 = b := by simpa using e2.symm
  subst e3 e4
  have h1n : (1 : Int) < (n : Int) := by have := HN3.out; omega
  have h2n : (2 : Int) < (n : Int) := by have := HN3.out; omega
  obtain ⟨m0, A0, q0, e0, hnok⟩ : ∃ m A q, V 0 = .slice A m q ∧ NOk w1 A m q s.p.levels := by
    have h0 := HRB.out.ro.row 0 (by omega)
    obtain ⟨A, q, e⟩ := own_shape h0
    rw [e] at h0
    exact ⟨_, A, q, e, own_nok h0 (fun x hx => Nat.le_trans (HZS.out.l x hx) (by unfold maxLen; omega))⟩
  have HNK := Lib.hid hnok
  have c0 := HRB.out.cs.at 0 _ rfl
  rw [e0] at c0
  have hbl := HRB.out.cs.lt
  clear e1 e2 e0 hnok
  go_upto_region 2 with fail
  have KP : Hid (∀ W', Below w1.heap.size w1 W' → (W'.cell? ⟨g, f + 1, none⟩ = some (.string a1) ∧ W'.cell? ⟨g, f + 2, none⟩ = some (.string b1) ∧ W'.cell? ⟨bx, 0, none⟩ = some (.slice A0 m0 q0))) := Lib.hid (fun W' h => ⟨(h.cell (p := ⟨g, f + 1, none⟩) (World.block_lt_of_cell? _ _ k1)).trans k1, (h.cell (p := ⟨g, f + 2, none⟩) (World.block_lt_of_cell? _ _ k2)).trans k2, (h.cell (p := ⟨bx, 0, none⟩) hbl).trans c0⟩)
  obtain ⟨p, hp⟩ : ∃ z, w1.heap.size = z := ⟨_, rfl⟩
  go_cut [10] (fun u wx => u = .pointer (some ⟨p, 0, none⟩) ∧ Hid (Rb [(g, og), (br, stZ)] B bx W wx V s lv ov ∧ Cs wx p [.string a1, .int .i64 r]))
  case first =>
    go_region_held3 (fun W' => W'.cell? ⟨g, f + 1, none⟩ = some (.string a1) ∧ W'.cell? ⟨g, f + 2, none⟩ = some (.string b1) ∧ W'.cell? ⟨bx, 0, none⟩ = some (.slice A0 m0 q0)) (first | with_reducible exact KP.out _ (Below.refl _ _).drew | exact KP.out _ ((Below.refl _ _).drew.alloc (by simp) _)) (first
      | (go_at_call 65; refine (rfindN_b s.p.levels b1 A0 m0 q0 r HFR _ (HNK.out.below ((Below.refl w1.heap.size w1).drew.alloc (by simp) (.cells #[.string ⟨#[]⟩, .int .i64 0] 71)))).mono ?_; rintro e wy ⟨rfl, rfl⟩)
      | (go_at_call 65; refine (rfindN_b s.p.levels b1 A0 m0 q0 r HFR _ (HNK.out.below (Below.refl w1.heap.size w1).drew)).mono ?_; rintro e wy ⟨rfl, rfl⟩))
    all_goals
      go_wp2_with fail
      go_meet
      case rel =>
        have hb : Below w1.heap.size w1 (w1.alloc (.cells #[.string a1, .int .i64 r] 71)).drew := ((Below.refl w1.heap.size w1).alloc (Nat.le_refl _) _).drew
        have hc := (Cs.new w1 #[.string a1, .int .i64 r] 71).drew
        rw [hp] at hc
        exact ⟨rfl, Lib.hid ⟨HRB.out.next hb, hc⟩⟩
  case rest =>
    obtain ⟨rfl, hcc⟩ := hcut
    have HRX := Lib.hid hcc.out.1
    have HCX := Lib.hid hcc.out.2
    have HK1 := HTOK.out wc 0 (HRX.out.kp (g, og) (by simp)).1 hn0
    clear hcc KP k1 k2 c0 hbl HRB HNK kk0
    obtain ⟨s2, e0, _, kk0⟩ := HK1
    rw [Nat.add_zero] at kk0
    have e1 : s2 = s1 := by simpa using e0.symm
    subst e1
    have n0 := HCX.out.at 0 _ rfl
    have n1 := HCX.out.at 1 _ rfl
    have hpl := HCX.out.lt
    clear e0
    by_cases hr0 : r < 0
    · have hx : x = (7, s) := by rw [← HX0.out, if_pos hr0]
      have HX := Lib.hid hx
      clear hx HX0
      have hzc := HZ.out _ (HRX.out.kp (br, stZ) (by simp)).1
      have HZC := Lib.hid hzc
      have z0 := hzc.at 0 _ rfl
      have y0 := hzc.free 0
      have z1 := hzc.at 1 _ rfl
      have y1 := hzc.free 1
      have z2 := hzc.at 2 _ rfl
      have y2 := hzc.free 2
      have z3 := hzc.at 3 _ rfl
      have y3 := hzc.free 3
      have z4 := hzc.at 4 _ rfl
      have y4 := hzc.free 4
      have z5 := hzc.at 5 _ rfl
      have y5 := hzc.free 5
      have z6 := hzc.at 6 _ rfl
      have y6 := hzc.free 6
      have z7 := hzc.at 7 _ rfl
      have y7 := hzc.free 7
      have hzl := hzc.lt
      clear hzc
      obtain ⟨m0, A0, q0, e0⟩ : ∃ m A q, V 0 = .slice A m q := ⟨_, own_shape (HRX.out.ro.row 0 (by omega))⟩
      obtain ⟨m1, A1, q1, e1⟩ : ∃ m A q, V 1 = .slice A m q := ⟨_, own_shape (HRX.out.ro.row 1 (by omega))⟩
      obtain ⟨m2, A2, q2, e2⟩ : ∃ m A q, V 2 = .slice A m q := ⟨_, own_shape (HRX.out.ro.row 2 (by omega))⟩
      obtain ⟨m3, A3, q3, e3⟩ : ∃ m A q, V 3 = .slice A m q := ⟨_, own_shape (HRX.out.ro.row 3 (by omega))⟩
      have c0 := HRX.out.cs.at 0 _ rfl
      have f0 := HRX.out.cs.free 0
      have c1 := HRX.out.cs.at 1 _ rfl
      have f1 := HRX.out.cs.free 1
      have c2 := HRX.out.cs.at 2 _ rfl
      have f2 := HRX.out.cs.free 2
      have c3 := HRX.out.cs.at 3 _ rfl
      have f3 := HRX.out.cs.free 3
      have c4 := HRX.out.cs.at 4 _ rfl
      have f4 := HRX.out.cs.free 4
      have c5 := HRX.out.cs.at 5 _ rfl
      have f5 := HRX.out.cs.free 5
      have c6 := HRX.out.cs.at 6 _ rfl
      have f6 := HRX.out.cs.free 6
      have c7 := HRX.out.cs.at 7 _ rfl
      have f7 := HRX.out.cs.free 7
      have hbl := HRX.out.cs.lt
      rw [e0] at c0
      rw [e1] at c1
      rw [e2] at c2
      rw [e3] at c3
      have HES := Lib.hid (And.intro e0 (And.intro e1 (And.intro e2 e3)))
      clear e0 e1 e2 e3
      go_wp2_with fail
      obtain ⟨k0, k1, k2, k3, k4, k5, k6, k7⟩ := eight_cells HZC.out (.slice A0 m0 q0) (.slice A1 m1 q1) (.slice A2 m2 q2) (.slice A3 m3 q3) (.int .i64 s.p.obs) (.bool s.p.timed) (.int .i64 lv) (.int .i64 ov)
      unfold sixW at k5 k6 k7
      refine bodyPost_ret (v := .tuple #[.agg #[.slice A0 m0 q0, .slice A1 m1 q1, .slice A2 m2 q2, .slice A3 m3 q3, .int .i64 s.p.obs, .bool s.p.timed, .int .i64 lv, .int .i64 ov], .int .i64 7]) (by simp [results, Tryd.results37, go_sem, k0, k1, k2, k3, k4, k5, k6, k7]) rfl ?_
      have hres := HRX.out.res (br := br) (ob := stZ) (by simp) HBR.out 7 x (by rw [HX.out]) (fun h => by cases h)
      obtain ⟨e0, e1, e2, e3⟩ := HES.out
      rw [e0, e1, e2, e3] at hres
      exact hres

    have hx : x = (0, ⟨{ s.p with hatches := s.p.hatches ++ [⟨a1, r⟩] }, s.sorted, s.seen⟩) := by rw [← HX0.out, if_neg hr0]
    have HX := Lib.hid hx
    clear hx HX0
    go_upto_region 7 with fail
    obtain ⟨i0, hi0, hz0, hz1, hz2⟩ := info_parts (P := Tryd.prog) (e := 71) (z := .agg #[.string ⟨#[]⟩, .int .i64 0]) (size := 2) (bytes := 24) (by kernel_rfl)
    have HIN := Lib.hid (And.intro hi0 (And.intro hz0 (And.intro hz1 hz2)))
    have c3 := HRX.out.cs.at 3 _ rfl
    have hl5 := HRX.out.cs.lt
    have hso : s.p.hatches.length ≤ 20000 := HCNT.out
    have HS5 : Hid (B ≤ (wc.alloc (.cells #[.string a1, .int .i64 r] 71)).heap.size) := Lib.hid (by have := HRX.out.lt; simp; omega)
    have HOW : Hid (wc.ownsRow B 71 2 (V 3) s.p.hatches.length (lbvals s.p.hatches)) := Lib.hid (HRX.out.ro.row 3 (by omega))
    clear hi0 hz0 hz1 hz2 kk0
    go_upto_region 32 with (first | (at_builtin; (refine wpList_append_lies _ rfl _ _ 24 rfl B 71 i0 _ 2 24 Tryd.underlying24 HIN.out.1 HIN.out.2.1 HIN.out.2.2.1 HIN.out.2.2.2 rfl (by omega) (V 3) s.p.hatches.length (lbvals s.p.hatches) rfl (own_frS HOW.out (Fr.of (S := fun _ => False) ((Below.refl _ _).alloc (Nat.le_refl _) (.cells #[.string a1, .int .i64 r] 71))) (fun _ _ h => h)) ⟨wc.heap.size, 0, none⟩ 1 1 [.string a1, .int .i64 r] rfl rfl (World.news_of_block (cs := #[.string a1, .int .i64 r]) (t := 71) (fr := (0, 0)) (heap_alloc_new wc _)) (by simp [Value.oneCell']) (by omega) (by unfold maxLen; omega) (by omega) HS5.out (wc.heap.size + 1) (by simp) ?_); intro gg cap w6 hown6 hgrow6 hat6 hlt6; have cs6 := cs_grown (HRX.out.cs.alloc (.cells #[.string a1, .int .i64 r] 71)) hgrow6 (HRX.out.nb 3 (by omega)); have b6 := cs6.at 3 _ rfl; have bf6 := cs6.free 3; have hbl6 := cs6.lt; clear cs6) | fail)
    obtain ⟨V7, HR6⟩ : ∃ V7 : Nat → Value, Hid (Rb [(g, og), (br, stZ)] B bx W (w6.setCell ⟨bx, 3, none⟩ (.slice (some ⟨gg, 0, none⟩) (s.p.hatches.length + 1) cap)) V7 ⟨{ s.p with hatches := s.p.hatches ++ [⟨a1, r⟩] }, s.sorted, s.seen⟩ lv ov) :=
      ⟨_, Lib.hid (HRX.out.push (a := 3) (o := .cells #[.string a1, .int .i64 r] 71) (by omega) hgrow6 hown6 (by rcases hat6 with h | h; exact .inl h; exact .inr (by rw [h])) ⟨{ s.p with hatches := s.p.hatches ++ [⟨a1, r⟩] }, s.sorted, s.seen⟩ (by show (s.p.hatches ++ [(⟨a1, r⟩ : Lb)]).length = s.p.hatches.length + 1; simp) (by show lbvals (s.p.hatches ++ [(⟨a1, r⟩ : Lb)]) = lbvals s.p.hatches ++ [.string a1, .int .i64 r]; exact lbvals_snoc _ _) (fun k hk hka => by match k, hk, hka with | 0, _, _ => exact ⟨rfl, rfl⟩ | 1, _, _ => exact ⟨rfl, rfl⟩ | 2, _, _ => exact ⟨rfl, rfl⟩ | 3, _, h => exact absurd rfl h) ⟨rfl, rfl⟩)⟩
    clear hown6 hgrow6 hat6 b6 bf6 hbl6 HOW HS5 hlt6 c3 hl5 n0 n1 hpl
    obtain ⟨w7, hw7⟩ : ∃ z, w6.setCell ⟨bx, 3, none⟩ (.slice (some ⟨gg, 0, none⟩) (s.p.hatches.length + 1) cap) = z := ⟨_, rfl⟩
    rw [hw7] at HR6 ⊢
    clear hw7
    have hzc := HZ.out _ (HR6.out.kp (br, stZ) (by simp)).1
    have HZC := Lib.hid hzc
    have z0 := hzc.at 0 _ rfl
    have y0 := hzc.free 0
    have z1 := hzc.at 1 _ rfl
    have y1 := hzc.free 1
    have z2 := hzc.at 2 _ rfl
    have y2 := hzc.free 2
    have z3 := hzc.at 3 _ rfl
    have y3 := hzc.free 3
    have z4 := hzc.at 4 _ rfl
    have y4 := hzc.free 4
    have z5 := hzc.at 5 _ rfl
    have y5 := hzc.free 5
    have z6 := hzc.at 6 _ rfl
    have y6 := hzc.free 6
    have z7 := hzc.at 7 _ rfl
    have y7 := hzc.free 7
    have hzl := hzc.lt
    clear hzc
    obtain ⟨m0, A0, q0, e0⟩ : ∃ m A q, V7 0 = .slice A m q := ⟨_, own_shape (HR6.out.ro.row 0 (by omega))⟩
    obtain ⟨m1, A1, q1, e1⟩ : ∃ m A q, V7 1 = .slice A m q := ⟨_, own_shape (HR6.out.ro.row 1 (by omega))⟩
    obtain ⟨m2, A2, q2, e2⟩ : ∃ m A q, V7 2 = .slice A m q := ⟨_, own_shape (HR6.out.ro.row 2 (by omega))⟩
    obtain ⟨m3, A3, q3, e3⟩ : ∃ m A q, V7 3 = .slice A m q := ⟨_, own_shape (HR6.out.ro.row 3 (by omega))⟩
    have c0 := HR6.out.cs.at 0 _ rfl
    have f0 := HR6.out.cs.free 0
    have c1 := HR6.out.cs.at 1 _ rfl
    have f1 := HR6.out.cs.free 1
    have c2 := HR6.out.cs.at 2 _ rfl
    have f2 := HR6.out.cs.free 2
    have c3 := HR6.out.cs.at 3 _ rfl
    have f3 := HR6.out.cs.free 3
    have c4 := HR6.out.cs.at 4 _ rfl
    have f4 := HR6.out.cs.free 4
    have c5 := HR6.out.cs.at 5 _ rfl
    have f5 := HR6.out.cs.free 5
    have c6 := HR6.out.cs.at 6 _ rfl
    have f6 := HR6.out.cs.free 6
    have c7 := HR6.out.cs.at 7 _ rfl
    have f7 := HR6.out.cs.free 7
    have hbl := HR6.out.cs.lt
    rw [e0] at c0
    rw [e1] at c1
    rw [e2] at c2
    rw [e3] at c3
    have HES := Lib.hid (And.intro e0 (And.intro e1 (And.intro e2 e3)))
    clear e0 e1 e2 e3
    go_wp2_with fail
    obtain ⟨k0, k1, k2, k3, k4, k5, k6, k7⟩ := eight_cells HZC.out (.slice A0 m0 q0) (.slice A1 m1 q1) (.slice A2 m2 q2) (.slice A3 m3 q3) (.int .i64 s.p.obs) (.bool s.p.timed) (.int .i64 lv) (.int .i64 ov)
    unfold sixW at k5 k6 k7
    refine bodyPost_ret (v := .tuple #[.agg #[.slice A0 m0 q0, .slice A1 m1 q1, .slice A2 m2 q2, .slice A3 m3 q3, .int .i64 s.p.obs, .bool s.p.timed, .int .i64 lv, .int .i64 ov], .int .i64 0]) (by simp [results, Tryd.results37, go_sem, k0, k1, k2, k3, k4, k5, k6, k7]) rfl ?_
    have hres := HR6.out.res (br := br) (ob := stZ) (by simp) HBR.out 0 x (by rw [HX.out]) (fun _ => by rw [HX.out]; exact ⟨rfl, HVV.out.1, HVV.out.2⟩)
    obtain ⟨e0, e1, e2, e3⟩ := HES.out
    rw [e0, e1, e2, e3] at hres
    exact hres

theorem read_b (B : Nat) (W : World) (V : Nat → Value) (s : Rd) (lv ov : Int) (k : ByteArray) (t : List ByteArray) (g f n c : Nat) (hn : n ≤ 9000) (hlv : lv = bI s.sorted) (hov : ov = bI s.seen) (hsh : shapeB k t = true) (x : Int × Rd) (H : Hid (rdToks s (k :: t) = x))
    (ht : NOk W (some ⟨g, f, none⟩) n c (k :: t)) (h : Ro B W V s) (hgv : ∀ i, i < 4 → (V i).ownBlock ≠ some g) (hB : B ≤ W.heap.size) (hz : Szs 8192 s) (hcnt : s.p.order.length ≤ 20000 ∧ s.p.inputs.length ≤ 20000 ∧ s.p.hatches.length ≤ 20000) (hinv : s.sorted = false → s.p.levels = []) :
    Calls Tryd.prog 37 #[.agg #[V 0, V 1, V 2, V 3, .int .i64 s.p.obs, .bool s.p.timed, .int .i64 lv, .int .i64 ov], .slice (some ⟨g, f, none⟩) n c] W fun e W' => RsRes B W x e W' := by
  have hx := H.out
  rw [rdToks_cons] at hx
  unfold shapeB at hsh
  by_cases h1 : (k.toList == wLevels) = true
  · rw [if_pos h1] at hsh hx
    exact readL_b B W V s lv ov k t g f n c hn hlv hov h1 hsh x (Lib.hid hx) ht h hgv hB hinv
  rw [if_neg h1] at hsh hx
  by_cases h2 : (k.toList == wOrder) = true
  · rw [if_pos h2] at hsh hx
    exact readO_b B W V s lv ov k t g f n c hn hlv hov h2 hsh x (Lib.hid hx) ht h hgv hB hz hcnt.1
  rw [if_neg h2] at hsh hx
  by_cases h3 : (k.toList == wInput) = true
  · rw [if_pos h3] at hsh hx
    exact readI_b B W V s lv ov k t g f n c hn hlv hov h3 hsh x (Lib.hid hx) ht h hgv hB hz hcnt.2.1
  rw [if_neg h3] at hsh hx
  by_cases h4 : (k.toList == wHatch) = true
  · rw [if_pos h4] at hsh hx
    exact readH_b B W V s lv ov k t g f n c hn hlv hov h4 hsh x (Lib.hid hx) ht h hgv hB hz hcnt.2.2
  rw [if_neg h4] at hsh hx
  by_cases h5 : (k.toList == wObserve) = true
  · rw [if_pos h5] at hsh hx
    exact readV_b B W V s lv ov k t g f n c hn hlv hov h5 hsh x (Lib.hid hx) ht h hgv hB hz
  rw [if_neg h5] at hsh
  cases hsh
/-- Between two bytes: j lines are done, the next one begins at fm. -/
structure Pl (t : List UInt8) (k fm j : Nat) : Prop where
  ls : ∃ ls, linS t = ls ++ linS (t.drop fm) ∧ ls.length = j
  lo : fm ≤ k
  no : ∀ b ∈ (t.drop fm).take (k - fm), b ≠ 10
theorem Pl.zero (t : List UInt8) : Pl t 0 0 0 := ⟨⟨[], rfl, rfl⟩, Nat.le_refl _, fun b hb => by simp at hb⟩
theorem take_snocP {t : List UInt8} {k fm : Nat} {c : UInt8} (hk : t[k]? = some c) (h : fm ≤ k) : (t.drop fm).take (k + 1 - fm) = (t.drop fm).take (k - fm) ++ [c] := by
  rw [show k + 1 - fm = (k - fm) + 1 by omega, List.take_add_one, List.getElem?_drop, show fm + (k - fm) = k by omega, hk]
  rfl
section
variable {t : List UInt8} {k fm j : Nat} {c : UInt8}
theorem Pl.skip (h : Pl t k fm j) (hk : t[k]? = some c) (hc : c ≠ 10) : Pl t (k + 1) fm j := by
  refine ⟨h.ls, by have := h.lo; omega, fun b hb => ?_⟩
  rw [take_snocP hk h.lo] at hb
  rcases List.mem_append.1 hb with hb | hb
  · exact h.no b hb
  · rw [List.mem_singleton.1 hb]; exact hc
theorem Pl.cutd (h : Pl t k fm j) (hk : t[k]? = some 10) : linS (t.drop fm) = (t.drop fm).take (k - fm) :: linS (t.drop (k + 1)) := by
  have hfm := h.lo
  have hkl := (List.getElem?_eq_some_iff.1 hk).1
  have hd : t.drop fm = (t.drop fm).take (k - fm) ++ 10 :: t.drop (k + 1) := by
    have e1 := (List.take_append_drop (k - fm) (t.drop fm)).symm
    rw [List.drop_drop, show fm + (k - fm) = k by omega, List.drop_eq_getElem_cons hkl, (List.getElem?_eq_some_iff.1 hk).2] at e1
    exact e1
  have := linS_cut ((t.drop fm).take (k - fm)) (t.drop (k + 1)) h.no
  rw [← hd] at this
  exact this
theorem Pl.cut (h : Pl t k fm j) (hk : t[k]? = some 10) : Pl t (k + 1) (k + 1) (j + 1) := by
  obtain ⟨ls, h1, h2⟩ := h.ls
  refine ⟨⟨ls ++ [(t.drop fm).take (k - fm)], ?_, by simp [h2]⟩, Nat.le_refl _, fun b hb => by simp at hb⟩
  rw [h1, h.cutd hk]
  simp
theorem Pl.endd (h : Pl t k fm j) (hk : k = t.length) : linS (t.drop fm) = [(t.drop fm).take (k - fm)] := by
  have hno := h.no
  have e : (t.drop fm).take (k - fm) = t.drop fm := List.take_of_length_le (by rw [List.length_drop]; omega)
  rw [e] at hno ⊢
  exact linS_end _ hno
/-- The line that ends here. -/
theorem Pl.line (h : Pl t k fm j) (hk : k = t.length ∨ t[k]? = some 10) : (linS t)[j]? = some ((t.drop fm).take (k - fm)) := by
  obtain ⟨ls, h1, h2⟩ := h.ls
  rw [h1, List.getElem?_append_right (by omega), h2, Nat.sub_self]
  rcases hk with hk | hk
  · rw [h.endd hk]; rfl
  · rw [h.cutd hk]; rfl
theorem Pl.last (h : Pl t k fm j) (hk : k = t.length) : (linS t).length ≤ j + 1 := by
  obtain ⟨ls, h1, h2⟩ := h.ls
  rw [h1, List.length_append, h.endd hk, h2]
  simp
end
end Go.Proofs.YtnipigninbeplaaDoor
