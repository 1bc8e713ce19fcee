/-
  The walk over readOrder.
-/
import Derived.Test.YtnipigninbeplaaDoorQoG
import Derived.Test.YtnipigninbeplaaDoorPE
namespace Go.Proofs.YtnipigninbeplaaDoor
open Go.RowKit Go.Maps

theorem RdS.stepN {w w1 wr W6 : World} {V V' : Nat → Value} {a k : Nat} {o : Obj} (h : Fr (RdS w V a) w1 wr) (hv : (V' a).ownBlock = (V a).ownBlock ∨ ∀ y, (V' a).ownBlock = some y → w1.heap.size ≤ y) (hg : (wr.alloc o).grownBy W6 (V' a).ownBlock) (u : Value) : Fr (RdS w V a) w1 (W6.setCell ⟨w.heap.size + 1, k, none⟩ u) := by
  refine ((h.alloc o).comp (Fr.grew hg) (fun i hi hs => ?_)).setCell (p := ⟨w.heap.size + 1, k, none⟩) (.inr (.inl rfl)) u
  rcases hv with hv | hv
  · exact .inr (.inr (by rw [← hv]; exact hs))
  · have := hv i hs; omega
/-- What a line hands back: the reader is of interest after no error alone. -/
def LnRes (K : Nat × Obj) (w : World) (m : Nat) (x : Int × Rd) (e : Ending) (W' : World) : Prop := e = .returned (.int .i64 x.1) ∧ Below w.heap.size w W' ∧ (x.1 = 0 → ∃ (V' : Nat → Value) (n' : Nat) (D' : DataW Unit), n' ≤ m ∧ Rm K w W' V' x.2 x.2.p.levels n' D')
theorem rdOrder_ok (s : Rd) (t : List ByteArray) : rdOrder s t = match items3 t with | none => (6, s) | some l => match pairsS s.p.levels l with | none => (7, s) | some q => (0, ⟨{ s.p with order := s.p.order ++ q }, s.sorted, s.seen⟩) := rfl

set_option maxRecDepth 100000 in
set_option maxHeartbeats 8000000 in
theorem readOrder_b {K : Nat × Obj} (w W : World) (V : Nat → Value) (s : Rd) (n : Nat) (D : DataW Unit) (t : List ByteArray) (A : Option Addr) (l c : Nat) (hl : l ≤ 9000) (ht : NOk W A l c t) (x : Int × Rd) (H : Hid (rdOrder s t = x)) (h : Rm K w W V s s.p.levels n D) (hcnt : s.p.order.length ≤ 20000) (hap : ∀ a, A = some a → ¬ RdS w V 1 a.block) :
    Calls Tryd.prog 59 #[.pointer (some ⟨w.heap.size + 1, 0, none⟩), .slice A l c] W fun e W' => LnRes K w n x e W' := by
  have HR := Lib.hid h
  have HT := Lib.hid ht
  have HL := Lib.hid ht.len
  have HAP := Lib.hid hap
  clear h ht hap
  go_enter Tryd.func59, Tryd.ntmps59
  go_upto_region 2 with (first | (go_at_call 84; refine (list3_b t A l c hl _ HT.out).mono ?_; rintro e w1 ⟨hb1, hcase⟩; have HR1 := Lib.hid (HR.out.next hb1); have HT1 := Lib.hid (HT.out.below hb1); clear hb1; rcases hcase with ⟨hns, rfl⟩ | ⟨hsh, g, f, gi, k, ci, hA, hkl, rfl, hgi, hgi2, hcells⟩) | fail)
  · have hx : x = (6, s) := by
      rw [← H.out, rdOrder_ok, (items3_shp t).2 (fun h => hns h.1)]
    have HXX := Lib.hid hx
    clear H hns hx
    go_wp2_with fail
    go_loopw [6, 21] (fun u v wr => u = .bool false ∧ v = .int .i64 0 ∧ wr = w1) (fun _ _ _ => 0)
    case atStart => exact ⟨rfl, rfl, rfl⟩
    case round =>
      obtain ⟨rfl, rfl, hwr⟩ := hrel
      subst hwr
      go_wp2_with fail
      go_ret
      rw [HXX.out]
      exact ⟨rfl, HR1.out.bel, fun h => by cases h⟩
  · obtain ⟨qs, hqs⟩ : ∃ qs, quads t = qs := ⟨_, rfl⟩
    have HQS := Lib.hid hqs
    have hel : qs.length = k := by
      have h1 := quads_len t hsh.1
      rw [hqs] at h1
      omega
    have HEL := Lib.hid hel
    have HSH := Lib.hid hsh
    have HCE := Lib.hid hcells
    have HKL := Lib.hid hkl
    have hk9 : k ≤ 9000 := by have := HL.out; omega
    subst hA
    have HAT : Hid (∀ (j : Nat) (W' : World), Fr (RdS w V 1) w1 W' → j < k → ∃ (s1 s2 s3 : ByteArray), qs[j]? = some (s1, s2, s3) ∧ s1.size ≤ maxLen ∧ s3.size ≤ maxLen ∧ W'.cell? ⟨g, f + j * 4, none⟩ = some (.string s1) ∧ W'.cell? ⟨g, f + j * 4 + 1, none⟩ = some (.string s2) ∧ W'.cell? ⟨g, f + j * 4 + 2, none⟩ = some (.string s3) ∧ W'.cell? ⟨gi, j, none⟩ = some (.slice (some ⟨g, f + j * 4, none⟩) 3 (c - j * 4)) ∧ (2 : Int) < ((c - j * 4 : Nat) : Int)) := by
      refine Lib.hid fun j W' hb hj => ?_
      have hlt : 4 * j + 2 < l := by have := HKL.out; have := HL.out; omega
      have hcap := HT1.out.cap
      have hget : ∀ i, i < l → ∃ s1, t[i]? = some s1 ∧ s1.size ≤ maxLen ∧ W'.cell? ⟨g, f + i, none⟩ = some (.string s1) := by
        intro i hi
        obtain ⟨s1, g1, f1, h1, h2, h3, h4, h5⟩ := HT1.out.at i hi
        injection h3 with h3
        injection h3 with e1 e2
        subst e1 e2
        exact ⟨s1, h1, h2, (hb.cell (p := ⟨g, f + i, none⟩) h4 (fun hs => HAP.out ⟨g, f, none⟩ rfl hs)).trans h5⟩
      obtain ⟨s1, h1, z1, k1⟩ := hget (4 * j) (by omega)
      obtain ⟨s2, h2, z2, k2⟩ := hget (4 * j + 1) (by omega)
      obtain ⟨s3, h3, z3, k3⟩ := hget (4 * j + 2) (by omega)
      have e : j * 4 = 4 * j := by omega
      refine ⟨s1, s2, s3, ?_, z1, z3, ?_, ?_, ?_, ?_, ?_⟩
      · rw [← HQS.out]; exact quads_at t j s1 s2 s3 h1 h2 h3
      · rw [e]; exact k1
      · rw [e]; exact k2
      · rw [e]; exact k3
      · refine (hb.cell (p := ⟨gi, j, none⟩) hgi ?_).trans (HCE.out j hj)
        intro hs
        have hlt := HR.out.lt
        rcases hs with hs | hs | hs
        · simp only at hs; omega
        · simp only at hs; omega
        · have := (HR.out.own (by omega) hs).2; simp only at this; omega
      · omega
    clear hqs hel hsh hcells hkl
    go_wp2_with fail
    go_loopw [6, 21] (fun u v wr => ∃ (j : Nat) (b : Bool), j ≤ k ∧ u = .bool b ∧ v = .int .i64 j ∧ wr = w1 ∧ Hid ((qs.take j).all okQ = b)) (fun _ v _ => k - (intOf v).toNat)
    case atStart => exact ⟨0, true, Nat.zero_le _, rfl, rfl, rfl, Lib.hid rfl⟩
    case round =>
      obtain ⟨j, b, hj, rfl, rfl, hwr, HA⟩ := hrel
      subst hwr
      rename World => w1
      by_cases hjt : j < k
      · have hjt' : (j : Int) < (k : Int) := by omega
        have hj0 : (0 : Int) ≤ (j : Int) := by omega
        obtain ⟨s1, s2, s3, e1, hs1, hs3, k0, k1, k2, k3, hcp⟩ := HAT.out j w1 (Fr.refl _ _) hjt
        obtain ⟨b1, hb1⟩ : ∃ z, isW s1 = z := ⟨_, rfl⟩
        obtain ⟨b2, hb2⟩ : ∃ z, isLt s2 = z := ⟨_, rfl⟩
        obtain ⟨b3, hb3⟩ : ∃ z, isW s3 = z := ⟨_, rfl⟩
        have HW1 := Lib.hid hb1
        have HW3 := Lib.hid hb3
        have HA2 : Hid ((qs.take (j + 1)).all okQ = (b && (b1 && (b2 && b3)))) := Lib.hid (by rw [List.take_add_one, e1, Option.toList_some, List.all_append, HA.out]; simp [okQ, hb1, hb2, hb3])
        have hb2' : (s2.toList == [60]) = b2 := hb2
        clear hb1 hb2 hb3 e1 hs1 hs3 HA
        cases b with
        | false =>
          clear hb2'
          go_wp2_with fail
          go_roundw
          case rel => exact ⟨j + 1, false, by omega, rfl, by go_num, trivial, HA2⟩
          case measure => simp [intOf]; omega
        | true =>
          cases b1 with
          | false =>
            clear hb2'
            go_wp2_with (first | (go_at_call 85; refine (isWord_b s1 false HW1 _).mono ?_; rintro e wy ⟨rfl, rfl⟩) | fail)
            go_roundw
            case rel => exact ⟨j + 1, false, by omega, rfl, by go_num, trivial, HA2⟩
            case measure => simp [intOf]; omega
          | true =>
            cases b2 with
            | false =>
              go_wp2_with (first | (go_at_call 85; refine (isWord_b s1 true HW1 _).mono ?_; rintro e wy ⟨rfl, rfl⟩) | fail)
              go_roundw
              case rel => exact ⟨j + 1, false, by omega, rfl, by go_num, trivial, HA2⟩
              case measure => simp [intOf]; omega
            | true =>
              go_wp2_with (first | (go_at_call 85; refine (isWord_b s3 b3 HW3 _).mono ?_; rintro e wy ⟨rfl, rfl⟩) | (go_at_call 85; refine (isWord_b s1 true HW1 _).mono ?_; rintro e wy ⟨rfl, rfl⟩) | fail)
              go_roundw
              case rel => exact ⟨j + 1, b3, by omega, rfl, by go_num, trivial, HA2⟩
              case measure => simp [intOf]; omega
      · have hge : ¬ ((j : Int) < (k : Int)) := by omega
        obtain rfl : k = j := by omega
        have HALL : Hid (qs.all okQ = b) := Lib.hid (by have h := HA.out; rw [List.take_of_length_le (by rw [HEL.out]; exact Nat.le_refl _)] at h; exact h)
        clear HA hjt
        cases b with
        | false =>
          have hx : x = (6, s) := by
            rw [← H.out, rdOrder_ok, (items3_shp t).2 (fun h => by rw [HQS.out, HALL.out] at h; cases h.2)]
          have HXX := Lib.hid hx
          clear H hx
          go_wp2_with fail
          go_ret
          rw [HXX.out]
          exact ⟨rfl, HR1.out.bel, fun h => by cases h⟩
        | true =>
          have HIT : Hid (items3 t = some (trips t)) := Lib.hid ((items3_shp t).1 ⟨HSH.out, by rw [HQS.out]; exact HALL.out⟩)
          obtain ⟨tr, htr⟩ : ∃ z, trips t = z := ⟨_, rfl⟩
          have HTQ : Hid (tr = qs.map (fun q => (q.1, q.2.2))) := Lib.hid (by rw [← htr, trips_quads, HQS.out])
          rw [htr] at HIT
          have HX : Hid ((match pairsS s.p.levels tr with | none => (7, s) | some q => ((0 : Int), (⟨{ s.p with order := s.p.order ++ q }, s.sorted, s.seen⟩ : Rd))) = x) := Lib.hid (by rw [← H.out, rdOrder_ok, HIT.out])
          obtain ⟨i0, hi0, hz0, hz1, hz2⟩ := info_parts (P := Tryd.prog) (e := 42) (z := .agg #[.int .i64 0, .int .i64 0]) (size := 2) (bytes := 16) (by kernel_rfl)
          have HIN := Lib.hid (And.intro hi0 (And.intro hz0 (And.intro hz1 hz2)))
          have HCNT := Lib.hid hcnt
          clear H htr HIT hi0 hz0 hz1 hz2 hcnt
          rename World => w1
          go_wp2_with fail
          go_loopw [49] (fun v wr => ∃ (j : Nat) (V' : Nat → Value) (q : List (Int × Int)) (so : List (Int × Int)), j ≤ k ∧ v = .int .i64 j ∧ Hid (Rm K w wr V' ⟨{ s.p with order := so }, s.sorted, s.seen⟩ s.p.levels n D) ∧ Hid (so = s.p.order ++ q ∧ q.length = j ∧ pairsS s.p.levels (tr.take j) = some q) ∧ Hid (Fr (RdS w V 1) w1 wr ∧ ((V' 1).ownBlock = (V 1).ownBlock ∨ ∀ y, (V' 1).ownBlock = some y → w1.heap.size ≤ y))) (fun v _ => k - (intOf v).toNat)
          case atStart => exact ⟨0, V, [], s.p.order, Nat.zero_le _, rfl, HR1, Lib.hid ⟨by simp, rfl, rfl⟩, Lib.hid ⟨Fr.refl _ _, .inl rfl⟩⟩
          case round =>
            obtain ⟨j, V', q, so, hj, rfl, HS, HQ, HF⟩ := hrel
            by_cases hjt : j < k
            · have hjt' : (j : Int) < (k : Int) := by omega
              have hj0 : (0 : Int) ≤ (j : Int) := by omega
              obtain ⟨s1, s2, s3, e1, hs1, hs3, k0, k1, k2, k3, hcp⟩ := HAT.out j wr HF.out.1 hjt
              have HTJ : Hid (tr[j]? = some (s1, s3)) := Lib.hid (by rw [HTQ.out, List.getElem?_map, e1]; rfl)
              have HS1 := Lib.hid hs1
              have HS3 := Lib.hid hs3
              clear e1 hs1 hs3 k1
              by_cases hf1 : findS s.p.levels s1 < 0
              · have hx : x = (7, s) := by rw [← HX.out, pairsS_bad _ tr j (s1, s3) q HQ.out.2.2 HTJ.out (.inl hf1)]
                have HXX := Lib.hid hx
                have HIK : Hid ((if findS s.p.levels s1 < 0 then ((0 : Int), (7 : Int)) else (findS s.p.levels s1, 0)) = (0, 7)) := Lib.hid (by rw [if_pos hf1])
                clear HX hx hf1
                go_wp2_with (first | (go_at_call 86; refine (level_b w wr V' ⟨{ s.p with order := so }, s.sorted, s.seen⟩ s.p.levels n D s1 HS1.out 0 7 HIK HS.out).mono ?_; rintro e wy ⟨rfl, rfl⟩) | fail)
                go_ret
                rw [HXX.out]
                exact ⟨rfl, HS.out.bel, fun h => by cases h⟩
              · obtain ⟨i1, hi1⟩ : ∃ z, findS s.p.levels s1 = z := ⟨_, rfl⟩
                have HIK : Hid ((if findS s.p.levels s1 < 0 then ((0 : Int), (7 : Int)) else (findS s.p.levels s1, 0)) = (i1, 0)) := Lib.hid (by rw [if_neg hf1, hi1])
                have HF1 := Lib.hid hf1
                have HI1 := Lib.hid hi1
                clear hf1 hi1
                by_cases hf3 : findS s.p.levels s3 < 0
                · have hx : x = (7, s) := by rw [← HX.out, pairsS_bad _ tr j (s1, s3) q HQ.out.2.2 HTJ.out (.inr hf3)]
                  have HXX := Lib.hid hx
                  have HIK3 : Hid ((if findS s.p.levels s3 < 0 then ((0 : Int), (7 : Int)) else (findS s.p.levels s3, 0)) = (0, 7)) := Lib.hid (by rw [if_pos hf3])
                  clear HX hx hf3
                  go_wp2_with (first | (go_at_call 86; first | (refine (level_b w wr V' ⟨{ s.p with order := so }, s.sorted, s.seen⟩ s.p.levels n D s1 HS1.out i1 0 HIK HS.out).mono ?_; rintro e wy ⟨rfl, rfl⟩; clear HIK) | (refine (level_b w wr V' ⟨{ s.p with order := so }, s.sorted, s.seen⟩ s.p.levels n D s3 HS3.out 0 7 HIK3 HS.out).mono ?_; rintro e wy ⟨rfl, rfl⟩)) | fail)
                  go_ret
                  rw [HXX.out]
                  exact ⟨rfl, HS.out.bel, fun h => by cases h⟩
                · obtain ⟨i3, hi3⟩ : ∃ z, findS s.p.levels s3 = z := ⟨_, rfl⟩
                  have HIK3 : Hid ((if findS s.p.levels s3 < 0 then ((0 : Int), (7 : Int)) else (findS s.p.levels s3, 0)) = (i3, 0)) := Lib.hid (by rw [if_neg hf3, hi3])
                  have HQ2 : Hid (so ++ [(i1, i3)] = s.p.order ++ (q ++ [(i1, i3)]) ∧ (q ++ [(i1, i3)]).length = j + 1 ∧ pairsS s.p.levels (tr.take (j + 1)) = some (q ++ [(i1, i3)])) := Lib.hid ⟨by rw [HQ.out.1, List.append_assoc], by simp [HQ.out.2.1], by rw [pairsS_good _ tr j (s1, s3) q HQ.out.2.2 HTJ.out HF1.out hf3, HI1.out, hi3]⟩
                  have hso : so.length ≤ 29000 := by have h1 := HQ.out.1; have h2 := HQ.out.2.1; have := HCNT.out; rw [h1, List.length_append]; omega
                  clear HX hf3 hi3
                  go_upto_region 18 with (first | (go_at_call 86; first | (refine (level_b w wr V' ⟨{ s.p with order := so }, s.sorted, s.seen⟩ s.p.levels n D s1 HS1.out i1 0 HIK HS.out).mono ?_; rintro e wy ⟨rfl, rfl⟩; clear HIK) | (refine (level_b w wr V' ⟨{ s.p with order := so }, s.sorted, s.seen⟩ s.p.levels n D s3 HS3.out i3 0 HIK3 HS.out).mono ?_; rintro e wy ⟨rfl, rfl⟩)) | fail)
                  clear k0 k2 k3
                  have c1 := HS.out.cs.at 1 _ rfl
                  have hl5 : w.heap.size + 1 < wr.heap.size := by have := HS.out.lt; omega
                  have HOWN : Hid (∀ y, (V' 1).ownBlock = some y → w.heap.size + 2 ≤ y) := Lib.hid (fun y hy => (HS.out.own (by omega) hy).1)
                  have HS5 : Hid (w.heap.size + 2 ≤ (wr.alloc (.cells #[.int .i64 i1, .int .i64 i3] 42)).heap.size) := Lib.hid (by have := HS.out.lt; simp; omega)
                  have HOW : Hid (wr.ownsRow (w.heap.size + 2) 42 2 (V' 1) so.length (ovals so)) := Lib.hid (HS.out.row 1 (by omega))
                  go_wp2_with (first | (at_builtin; (refine wpList_append_lies _ rfl _ _ 23 rfl (w.heap.size + 2) 42 i0 _ 2 16 Tryd.underlying23 HIN.out.1 HIN.out.2.1 HIN.out.2.2.1 HIN.out.2.2.2 rfl (by omega) (V' 1) so.length (ovals so) rfl (own_frS HOW.out (Fr.of (S := fun _ => False) ((Below.refl _ _).alloc (Nat.le_refl _) (.cells #[.int .i64 i1, .int .i64 i3] 42))) (fun _ _ h => h)) ⟨wr.heap.size, 0, none⟩ 1 1 [.int .i64 i1, .int .i64 i3] rfl rfl (World.news_of_block (cs := #[.int .i64 i1, .int .i64 i3]) (t := 42) (fr := (0, 0)) (heap_alloc_new wr _)) (by simp [Value.oneCell']) (by omega) (by unfold maxLen; omega) (by omega) HS5.out (wr.heap.size + 1) (by simp) ?_); intro gg cap w6 hown6 hgrow6 hat6 hlt6; have cs6 := cs_grown (HS.out.cs.alloc (.cells #[.int .i64 i1, .int .i64 i3] 42)) hgrow6 (fun e => by have := HOWN.out _ e; omega); have b6 := cs6.at 1 _ rfl; have bf6 := cs6.free 1; have hbl6 := cs6.lt; clear cs6) | fail)
                  obtain ⟨V7, HR6, HV6⟩ : ∃ V7 : Nat → Value, Hid (Rm K w (w6.setCell ⟨w.heap.size + 1, 1, none⟩ (.slice (some ⟨gg, 0, none⟩) (so.length + 1) cap)) V7 ⟨{ s.p with order := so ++ [(i1, i3)] }, s.sorted, s.seen⟩ s.p.levels n D) ∧ Hid ((V7 1).ownBlock = (V 1).ownBlock ∨ ∀ y, (V7 1).ownBlock = some y → w1.heap.size ≤ y) := by
                    refine ⟨_, Lib.hid (HS.out.push (a := 1) (o := .cells #[.int .i64 i1, .int .i64 i3] 42) (by omega) hgrow6 hown6 (by rcases hat6 with h | h; exact .inl h; exact .inr (by rw [h])) ⟨{ s.p with order := so ++ [(i1, i3)] }, s.sorted, s.seen⟩ (by show (so ++ [(i1, i3)]).length = so.length + 1; simp) (by show ovals (so ++ [(i1, i3)]) = ovals so ++ [.int .i64 i1, .int .i64 i3]; exact ovals_snoc _ _) (fun k hk hka => by match k, hk, hka with | 3, _, _ => exact ⟨rfl, rfl⟩ | 0, _, _ => exact ⟨rfl, rfl⟩ | 2, _, _ => exact ⟨rfl, rfl⟩ | 1, _, h => exact absurd rfl h) ⟨rfl, rfl, rfl, rfl⟩), Lib.hid ?_⟩
                    show (Value.slice (some ⟨gg, 0, none⟩) (so.length + 1) cap).ownBlock = (V 1).ownBlock ∨ ∀ y, (Value.slice (some ⟨gg, 0, none⟩) (so.length + 1) cap).ownBlock = some y → w1.heap.size ≤ y
                    have hsz := HF.out.1.size
                    rcases hat6 with h | h
                    · rcases HF.out.2 with h2 | h2
                      · exact .inl (by rw [← h2, h]; rfl)
                      · exact .inr (fun y hy => h2 y (by rw [h]; exact hy))
                    · exact .inr (fun y hy => by cases hy; show w1.heap.size ≤ gg; omega)
                  have HF6 := Lib.hid (RdS.stepN (k := 1) (u := .slice (some ⟨gg, 0, none⟩) (so.length + 1) cap) HF.out.1 HF.out.2 hgrow6)
                  clear hown6 hgrow6 hat6 b6 bf6 hbl6 HOW HS5 HOWN hlt6 c1
                  obtain ⟨w7, hw7⟩ : ∃ z, w6.setCell ⟨w.heap.size + 1, 1, none⟩ (.slice (some ⟨gg, 0, none⟩) (so.length + 1) cap) = z := ⟨_, rfl⟩
                  rw [hw7] at HR6 HF6 ⊢
                  clear hw7
                  go_roundw
                  case rel => exact ⟨j + 1, V7, _, _, by omega, by go_num, HR6, HQ2, Lib.hid ⟨HF6.out, HV6.out⟩⟩
                  case measure => simp [intOf]; omega
            · have hge2 : ¬ ((j : Int) < (k : Int)) := by omega
              obtain rfl : k = j := by omega
              have hx : x = (0, ⟨{ s.p with order := so }, s.sorted, s.seen⟩) := by
                have h := HQ.out.2.2
                rw [List.take_of_length_le (by rw [HTQ.out, List.length_map, HEL.out]; exact Nat.le_refl _)] at h
                rw [← HX.out, h, HQ.out.1]
              have HXX := Lib.hid hx
              clear hx HX
              go_wp2_with fail
              go_ret
              rw [HXX.out]
              exact ⟨rfl, HS.out.bel, fun _ => ⟨V', n, D, Nat.le_refl _, HS.out⟩⟩
end Go.Proofs.YtnipigninbeplaaDoor
