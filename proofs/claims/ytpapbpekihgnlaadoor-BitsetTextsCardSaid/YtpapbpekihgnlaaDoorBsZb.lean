/-
  The walks over the reference's Complement, Members, Next, and slices.Equal of integers.
-/
import Derived.Test.YtpapbpekihgnlaaDoorBsZa
namespace Go.Proofs.YtpapbpekihgnlaaDoor
open Go.RowKit

/-- The complement is what is in all and not in the set. -/
theorem comR_all {m : Nat} {ws : List Nat} (hv : Bs.vld m ws = true) : comR (fun p q => p && !q) m (Bs.mk m fun _ => true) m ws = compR m ws := by
  have h1 := Bs.mk_vld m (fun _ => true) (Bs.vld_le hv)
  have hp : pairR (m : Int) (Bs.mk m fun _ => true) (m : Int) ws = 0 := by
    unfold pairR
    rw [if_neg (by rw [h1, hv]; simp), if_pos rfl]
  have hc : compR (m : Int) ws = ((m : Int), Bs.mk m (fun i => !Bs.bit ws i), 0) := by
    unfold compR; rw [if_neg (by rw [hv]; simp), Int.toNat_natCast]
  rw [hc]
  unfold comR
  rw [if_pos hp, Int.toNat_natCast]
  have e : (Bs.mk m fun i => (fun p q => p && !q) (Bs.bit (Bs.mk m fun _ => true) i) (Bs.bit ws i)) = Bs.mk m fun i => !Bs.bit ws i := Bs.mk_congr fun i hi => by
    show (Bs.bit (Bs.mk m fun _ => true) i && !Bs.bit ws i) = _
    rw [Bs.mk_bit, decide_eq_true hi]
    rfl
  rw [e]

set_option maxHeartbeats 1000000 in
theorem rcomplement_b (n : Int) (A : Option Addr) (l c : Nat) (ws : List Nat) (R : Int × List Nat × Int) (H : Hid (compR n ws = R)) (w : World) (hw : Wd w A l c ws) :
    Calls Tryd.prog 35 #[.agg #[.int .i64 n, .slice A l c]] w fun e w' => Post w R e w' := by
  have HW0 := Lib.hid hw
  clear hw
  obtain ⟨v, hv⟩ : ∃ v, Bs.vld n ws = v := ⟨_, rfl⟩
  have HV := Lib.hid hv
  go_enter Tryd.func35, Tryd.ntmps35
  go_wp2_with fail
  go_at_call 19
  refine (rvalid_b n A l c ws v HV _ ((HW0.out.below (boxS_below w n A l c)).below ((Below.refl _ _).alloc (Nat.le_refl _) _))).mono ?_
  rintro e w2 ⟨rfl, hb⟩
  obtain ⟨hc, hr, hb1⟩ := box2 hb
  have HC := Lib.hid hc
  have HR := Lib.hid hr
  have HB := Lib.hid hb1
  have HW2 := Lib.hid (HW0.out.below HB.out)
  clear hb HV hc hr hb1
  have c0 := HC.out.at 0 _ rfl
  have c1 := HC.out.at 1 _ rfl
  have r0 := HR.out.at 0 _ rfl
  have r1 := HR.out.at 1 _ rfl
  have f0 := HR.out.free 0
  have f1 := HR.out.free 1
  cases v with
  | false =>
    have hR : R = (0, [], 1) := by rw [← H.out]; unfold compR; rw [if_pos hv]
    subst hR
    clear H hv
    go_wp2_with fail
    obtain ⟨k0, k1⟩ := two_cells HR.out (.int .i64 0) (.slice none 0 0)
    refine bodyPost_ret (v := .tuple #[.agg #[.int .i64 0, .slice none 0 0], .int .i64 1]) (by simp [results, Tryd.results35, go_sem, k0, k1]) rfl ?_
    exact post_bad rfl ((HB.out.setCell (by show _ ≤ _ + 1; omega) _).setCell (by show _ ≤ _ + 1; omega) _)
  | true =>
    obtain ⟨m, rfl⟩ : ∃ m : Nat, n = m := ⟨n.toNat, by have := (Bs.vld_iff.1 hv).1; omega⟩
    have hm := Bs.vld_le hv
    have hRc : comR (fun p q => p && !q) m (Bs.mk m fun _ => true) m ws = R := (comR_all hv).trans H.out
    have HRC := Lib.hid hRc
    have hAll : allR m = ((m : Int), (Bs.mk m fun _ => true), 0) := by unfold allR; rw [if_neg (by omega), Int.toNat_natCast]
    have HALL := Lib.hid hAll
    obtain ⟨T, hT⟩ : ∃ T, (Bs.mk m fun _ => true) = T := ⟨_, rfl⟩
    obtain ⟨lt, hlt⟩ : ∃ k, T.length = k := ⟨_, rfl⟩
    rw [hT] at HRC HALL
    have HLT := Lib.hid hlt
    clear H hv hRc hAll hT hlt
    go_wp2_with fail
    go_at_call 17
    refine (rall_b m _ HALL _).mono ?_
    rintro e w3 ⟨⟨A3, c3, rfl, hO⟩, hb3⟩
    simp only [HLT.out] at hO ⊢
    have HO := Lib.hid hO
    have HC3 := Lib.hid (HC.out.next hb3)
    have HR3 := Lib.hid (HR.out.next hb3)
    have HB3 := Lib.hid (HB.out.trans (hb3.mono HB.out.size))
    have HW3 := Lib.hid (HW2.out.below hb3)
    clear hO hb3 HC HR HB c0 c1 r0 r1 f0 f1 HW2
    have c0 := HC3.out.at 0 _ rfl
    have c1 := HC3.out.at 1 _ rfl
    have hlc := HC3.out.lt
    go_upto_region 4 with fail
    have hba := (Below.refl w3.heap.size w3).alloc (Nat.le_refl _) (.cells #[.int .i64 (m : Int), .slice A3 lt c3] 24)
    have HC4 := Lib.hid (HC3.out.next hba)
    have HR4 := Lib.hid (HR3.out.next hba)
    have HB4 := Lib.hid (HB3.out.trans (hba.mono HB3.out.size))
    have HW4 := Lib.hid (HW3.out.below hba)
    have HO4 := Lib.hid (HO.out.wd.below hba)
    have HN4 := Lib.hid (Cs.new w3 #[.int .i64 (m : Int), .slice A3 lt c3] 24)
    obtain ⟨w4, hw4⟩ : ∃ w4, w3.alloc (.cells #[.int .i64 (m : Int), .slice A3 lt c3] 24) = w4 := ⟨_, rfl⟩
    obtain ⟨b4, hb4⟩ : ∃ b, w3.heap.size = b := ⟨_, rfl⟩
    rw [hw4] at HC4 HR4 HB4 HW4 HO4 HN4
    rw [hb4] at HN4
    rw [hw4, hb4]
    clear hw4 hb4 hba c0 c1 HC3 HR3 HB3 HW3 HO hlc
    have c0 := HC4.out.at 0 _ rfl
    have c1 := HC4.out.at 1 _ rfl
    have r0 := HR4.out.at 0 _ rfl
    have r1 := HR4.out.at 1 _ rfl
    have f0 := HR4.out.free 0
    have f1 := HR4.out.free 1
    have n0 := HN4.out.at 0 _ rfl
    have n1 := HN4.out.at 1 _ rfl
    go_wp2_with fail
    go_at_call 34
    refine (rminus_b m A3 lt c3 T m A l c ws R HRC _ HO4.out HW4.out).mono ?_
    rintro e w5 ⟨⟨A5, c5, rfl, hO⟩, hb5⟩
    obtain ⟨R1, R2, R3⟩ := R
    obtain ⟨L, hL⟩ : ∃ L, R2.length = L := ⟨_, rfl⟩
    have HO := Lib.hid (hO.mono (B' := w.heap.size + 2) (by have := HR4.out.lt; omega))
    simp only [hL] at HO ⊢
    have HR5 := Lib.hid (HR4.out.next hb5)
    have HB5 := Lib.hid (HB4.out.trans (hb5.mono HB4.out.size))
    clear hO hb5 hL c0 c1 r0 r1 f0 f1 n0 n1 HC4 HR4 HB4 HN4
    have r0 := HR5.out.at 0 _ rfl
    have r1 := HR5.out.at 1 _ rfl
    have f0 := HR5.out.free 0
    have f1 := HR5.out.free 1
    go_wp2_with fail
    obtain ⟨k0, k1⟩ := two_cells HR5.out (.int .i64 R1) (.slice A5 L c5)
    refine bodyPost_ret (v := .tuple #[.agg #[.int .i64 R1, .slice A5 L c5], .int .i64 R3]) (by simp [results, Tryd.results35, go_sem, k0, k1]) rfl ?_
    exact fin_set HO.out (by omega) (by omega) HB5.out _ _

theorem upto_succ (ws : List Nat) (k : Nat) : Bs.upto ws (k + 1) = Bs.upto ws k ++ (if Bs.bit ws k then [k] else []) := by
  unfold Bs.upto
  rw [List.range_succ, List.filter_append]
  cases h : Bs.bit ws k <;> simp [h]

set_option maxHeartbeats 1000000 in
theorem rmembers_b (n : Int) (A : Option Addr) (l c : Nat) (ws : List Nat) (r : List Nat) (H : Hid (membR n ws = r)) (w : World) (hw : Wd w A l c ws) :
    Calls Tryd.prog 36 #[.agg #[.int .i64 n, .slice A l c]] w fun e w' => (∃ A' c', e = .returned (.slice A' r.length c') ∧ w'.ownsRow w.heap.size 3 1 (.slice A' r.length c') r.length (ivals r)) ∧ Below w.heap.size w w' := by
  have HW := Lib.hid hw
  clear hw
  obtain ⟨i0, hi, hi0, hi1, hi2⟩ := info_parts (P := Tryd.prog) (e := 3) (z := .int .i64 0) (size := 1) (bytes := 8) (by kernel_rfl)
  obtain ⟨v, hv⟩ : ∃ v, Bs.vld n ws = v := ⟨_, rfl⟩
  have HV := Lib.hid hv
  have hbx := (boxS_below w n A l c).alloc (boxS_below w n A l c).size (.cells #[] 3)
  have hown0 := World.ownsRow_made (boxS w n A l c) #[] 0 (e := 3) (size := 1) (base := w.heap.size + 1) (by simp [boxS]) (Nat.zero_le _) rfl
  have hcs0 := (boxS_cs w n A l c).alloc (.cells #[] 3)
  have hsz : (boxS w n A l c).heap.size = w.heap.size + 1 := by simp [boxS]
  have HOWN0 := Lib.hid hown0
  have HBX := Lib.hid hbx
  have HCS0 := Lib.hid hcs0
  rw [hsz] at HOWN0
  clear hbx hown0 hcs0 hsz
  go_enter Tryd.func36, Tryd.ntmps36
  go_wp2_with fail
  go_at_call 19
  refine (rvalid_b n A l c ws v HV _ (HW.out.below HBX.out)).mono ?_
  rintro e w2 ⟨rfl, hb⟩
  have HC := Lib.hid (HCS0.out.next hb)
  have HB := Lib.hid (HBX.out.trans (hb.mono HBX.out.size))
  have HO2 := Lib.hid (own_below HOWN0.out hb)
  clear hb HV HCS0 HBX HOWN0
  have c0 := HC.out.at 0 _ rfl
  have c1 := HC.out.at 1 _ rfl
  cases v with
  | false =>
    have hr : r = [] := by rw [← H.out]; unfold membR; rw [if_neg (by rw [hv]; simp)]
    subst hr
    clear H hv
    go_wp2_with fail
    go_ret
    exact ⟨⟨_, _, rfl, own_base HO2.out (by omega)⟩, HB.out⟩
  | true =>
    obtain ⟨m, rfl⟩ : ∃ m : Nat, n = m := ⟨n.toNat, by have := (Bs.vld_iff.1 hv).1; omega⟩
    have hm := Bs.vld_le hv
    have hr : Bs.upto ws m = r := by rw [← H.out]; unfold membR; rw [if_pos hv, Int.toNat_natCast]
    have HR := Lib.hid hr
    clear H hv hr
    go_wp2_with fail
    go_loopw [3, 4] (fun a v wr => ∃ (k t : Nat) (A2 : Option Addr) (c2 : Nat), k ≤ m ∧ v = .int .i64 k ∧ a = .slice A2 t c2 ∧ t ≤ k ∧ Hid ((Bs.upto ws k).length = t) ∧ Hid (Cs wr w.heap.size [.int .i64 m, .slice A l c]) ∧ Hid (wr.ownsRow (w.heap.size + 1) 3 1 (.slice A2 t c2) t (ivals (Bs.upto ws k))) ∧ Hid (Below w.heap.size w wr)) (fun _ v _ => m - (intOf v).toNat)
    case atStart => exact ⟨0, 0, _, _, by omega, rfl, rfl, by omega, rfl, HC, HO2, HB⟩
    case round =>
      clear c0 c1
      obtain ⟨k, t, A2, c2, hk, rfl, rfl, htk, HK, HS, HO, HB⟩ := hrel
      have s0 := HS.out.at 0 _ rfl
      have s1 := HS.out.at 1 _ rfl
      have hsl := HS.out.lt
      by_cases hlt : k < m
      · obtain ⟨x, hx⟩ : ∃ x, Bs.bit ws k = x := ⟨_, rfl⟩
        have HX := Lib.hid hx
        have HW2 := Lib.hid (HW.out.below HB.out)
        have hk6 : k ≤ 1000000 := by omega
        have hlt' : (k : Int) < (m : Int) := by omega
        have hup := upto_succ ws k
        rw [hx] at hup
        have HUP := Lib.hid hup
        clear hx hup
        go_wp2_with fail
        go_at_call 50
        refine (bit_b A l c ws k hk6 _ HX _ HW2.out).mono ?_
        rintro e w3 ⟨rfl, q, hq⟩
        have hbq : Below wr.heap.size wr w3 := by rw [hq]; exact below_drewN (Below.refl _ _) q
        clear hq
        have HO3 := Lib.hid (own_below HO.out hbq)
        have HS3 := Lib.hid (HS.out.next hbq)
        have HB3 := Lib.hid (HB.out.trans (hbq.mono HB.out.size))
        have hsl3 := HS3.out.lt
        clear hbq HO HS HB s0 s1
        cases x with
        | false =>
          have hup0 : Bs.upto ws (k + 1) = Bs.upto ws k := by rw [HUP.out]; exact List.append_nil _
          rw [← hup0] at HK HO3
          clear hup0 HUP
          go_wp2_with fail
          go_roundw
          case rel => exact ⟨k + 1, t, A2, c2, by omega, by go_num, rfl, by omega, HK, HS3, HO3, HB3⟩
          case measure => simp [intOf]; omega
        | true =>
          have hup1 : ivals (Bs.upto ws (k + 1)) = ivals (Bs.upto ws k) ++ [.int .i64 (k : Int)] := by rw [HUP.out]; exact ivals_snoc _ _
          have hlen1 : (Bs.upto ws (k + 1)).length = t + 1 := by rw [HUP.out, List.length_append, HK.out]; rfl
          have HU1 := Lib.hid hup1
          have HK1 := Lib.hid hlen1
          clear hup1 hlen1 HUP HK
          go_wp2_with (at_builtin; (refine wpList_append_own _ rfl _ _ 25 rfl (w.heap.size + 1) 3 i0 (.int .i64 0) 1 8 Tryd.underlying25 hi hi0 hi1 hi2 rfl (by decide) _ t (ivals (Bs.upto ws k)) rfl (HO3.out.alloc _) ⟨w3.heap.size, 0, none⟩ 1 1 [.int .i64 (k : Int)] rfl rfl ?q1 ?q2 ?q3 ?q4 ?q5 ?_))
          try (case q1 => intro j u hj; match j, hj with | 0, hj => simp at hj; subst hj; simp [Addr.add])
          case q2 => first | rfl | (intro u hu; simp at hu; subst hu; rfl)
          case q3 => unfold maxLen; omega
          case q4 => omega
          case q5 => first | omega | (simp; omega)
          intro v' w4 hown4 hgrow _
          have hbel : Below (w.heap.size + 1) w3 w4 := ((Below.refl _ w3).alloc (by omega) _).grown hgrow (by simp; omega) (fun q hq => (HO3.out.lt q hq).1)
          obtain ⟨A4, c4, rfl⟩ := own_form hown4
          rw [← HU1.out] at hown4
          have HO4 := Lib.hid hown4
          have HS4 := Lib.hid (cs_low HS3.out hbel (by omega))
          have HB4 := Lib.hid (HB3.out.trans (hbel.mono (by omega)))
          clear hown4 hgrow hbel HO3 HS3 HB3
          go_wp2_with fail
          go_roundw
          case rel => exact ⟨k + 1, t + 1, A4, c4, by omega, by go_num, rfl, by omega, HK1, HS4, HO4, HB4⟩
          case measure => simp [intOf]; omega
      · obtain rfl : k = m := by omega
        obtain rfl : t = r.length := by rw [← HK.out, HR.out]
        rw [HR.out] at HO
        go_wp2_with fail
        go_ret
        exact ⟨⟨A2, c2, rfl, own_base HO.out (by omega)⟩, HB.out⟩

theorem nextR_nil {n : Int} {ws : List Nat} {i : Int} (h : ∀ j : Nat, j < (membR n ws).length → ¬ i < (((membR n ws).getD j 0 : Nat) : Int)) : nextR n ws i = -1 := by
  have e : (membR n ws).find? (fun (k : Nat) => decide (i < (k : Int))) = none := by
    rw [List.find?_eq_none]
    intro k hk
    obtain ⟨j, hj, rfl⟩ := List.mem_iff_getElem.1 hk
    have := h j hj
    rw [List.getD_eq_getElem?_getD, List.getElem?_eq_getElem hj, Option.getD_some] at this
    rw [decide_eq_true_iff]
    exact this
  unfold nextR
  rw [e]
theorem nextR_at {n : Int} {ws : List Nat} {i : Int} {k : Nat} (hk : k < (membR n ws).length) (hi : i < (((membR n ws).getD k 0 : Nat) : Int)) (h : ∀ j : Nat, j < k → ¬ i < (((membR n ws).getD j 0 : Nat) : Int)) : nextR n ws i = (((membR n ws).getD k 0 : Nat) : Int) := by
  have hg : ∀ j, (hj : j < (membR n ws).length) → (membR n ws).getD j 0 = (membR n ws)[j] := fun j hj => by
    rw [List.getD_eq_getElem?_getD, List.getElem?_eq_getElem hj, Option.getD_some]
  have e : (membR n ws).find? (fun (k : Nat) => decide (i < (k : Int))) = some ((membR n ws)[k]) := by
    rw [List.find?_eq_some_iff_getElem]
    refine ⟨by rw [decide_eq_true_iff, ← hg k hk]; exact hi, k, hk, rfl, fun j hj => ?_⟩
    have := h j hj
    rw [hg j (by omega)] at this
    simpa using this
  unfold nextR
  rw [e, hg k hk]

set_option maxHeartbeats 1000000 in
theorem rnext_b (n : Int) (A : Option Addr) (l c : Nat) (ws : List Nat) (i : Int) (r : Int) (H : Hid (nextR n ws i = r)) (w : World) (hw : Wd w A l c ws) :
    Calls Tryd.prog 41 #[.agg #[.int .i64 n, .slice A l c], .int .i64 i] w fun e w' => e = .returned (.int .i64 r) ∧ Below w.heap.size w w' := by
  have HW := Lib.hid hw
  clear hw
  obtain ⟨ms, hms⟩ : ∃ ms, membR n ws = ms := ⟨_, rfl⟩
  have HM := Lib.hid hms
  clear hms
  go_enter Tryd.func41, Tryd.ntmps41
  go_wp2_with fail
  go_at_call 36
  refine (rmembers_b n A l c ws ms HM _ (HW.out.below (boxS_below w n A l c))).mono ?_
  rintro e w2 ⟨⟨A', c', rfl, hO⟩, hb⟩
  have hz := (own_zs hO).2
  have HZ := Lib.hid hz
  have HB := Lib.hid ((boxS_below w n A l c).trans (hb.mono (by simp [boxS])))
  obtain ⟨t, ht⟩ : ∃ t, ms.length = t := ⟨_, rfl⟩
  have hbig : t ≤ 9223372036854775807 := by have h1 := hz.cap; have h2 := hz.big; unfold maxLen at h2; omega
  rw [ht] at HZ ⊢
  have HT := Lib.hid ht
  clear hb hO hz ht
  go_wp2_with fail
  go_loopw [6] (fun v wr => ∃ k : Nat, k ≤ t ∧ v = .int .i64 k ∧ Hid (∀ j : Nat, j < k → ¬ i < ((ms.getD j 0 : Nat) : Int)) ∧ Hid (wr = w2)) (fun v _ => t - (intOf v).toNat)
  case atStart => exact ⟨0, by omega, rfl, fun j hj => absurd hj (by omega), rfl⟩
  case round =>
    obtain ⟨k, hk, rfl, HK, HWR⟩ := hrel
    have hwr := HWR.out
    subst hwr
    by_cases hlt : k < t
    · obtain ⟨g, f, hA, hg, hc⟩ := HZ.out.mem (by omega)
      subst hA
      have hcell := hc k hlt
      have hgi : (ints ms).getD k 0 = ((ms.getD k 0 : Nat) : Int) := by
        simp only [ints, List.getD_eq_getElem?_getD, List.getElem?_map]
        rw [List.getElem?_eq_getElem (by rw [HT.out]; exact hlt)]
        rfl
      rw [hgi] at hcell
      obtain ⟨x, hx⟩ : ∃ x, ms.getD k 0 = x := ⟨_, rfl⟩
      rw [hx] at hcell
      have hlt' : (k : Int) < (t : Int) := by omega
      have HX := Lib.hid hx
      clear hc hgi hx
      by_cases hxi : i < (x : Int)
      · have hr : r = (x : Int) := by
          rw [← H.out]
          have := nextR_at (n := n) (ws := ws) (i := i) (k := k) (by rw [HM.out, HT.out]; exact hlt) (by rw [HM.out, HX.out]; exact hxi) (by rw [HM.out]; exact HK.out)
          rw [this, HM.out, HX.out]
        subst hr
        clear HK H HX HM
        go_wp2_with fail
        go_ret
        exact ⟨rfl, HB.out⟩
      · have HK' : Hid (∀ j : Nat, j < k + 1 → ¬ i < ((ms.getD j 0 : Nat) : Int)) := fun j hj => by
          by_cases hjk : j = k
          · rw [hjk, HX.out]; exact hxi
          · exact HK.out j (by omega)
        clear HK HX
        go_wp2_with fail
        go_roundw
        case rel => exact ⟨k + 1, by omega, by go_num, HK', trivial⟩
        case measure => simp [intOf]; omega
    · have hr : r = -1 := by
        rw [← H.out]
        exact nextR_nil (by rw [HM.out, HT.out]; intro j hj; exact HK.out j (by omega))
      subst hr
      clear HK H HM
      go_wp2_with fail
      go_ret
      exact ⟨rfl, HB.out⟩

set_option maxHeartbeats 1000000 in
theorem equalI_b (A : Option Addr) (l c : Nat) (xs : List Int) (A' : Option Addr) (l' c' : Nat) (xs' : List Int) (b : Bool) (H : Hid (decide (xs = xs') = b)) (w : World) (hw : Zs w A l c xs) (hw' : Zs w A' l' c' xs') (hlm : l ≤ 1000000) :
    Calls Tryd.prog 38 #[.slice A l c, .slice A' l' c'] w fun e w' => e = .returned (.bool b) ∧ Below w.heap.size w w' := by
  have HW := Lib.hid hw
  have HW' := Lib.hid hw'
  clear hw hw'
  by_cases hll : l = l'
  · subst hll
    go_enter Tryd.func38, Tryd.ntmps38
    go_wp2_with fail
    go_loopw [13] (fun v wr => ∃ k : Nat, k ≤ l ∧ v = .int .i64 k ∧ Hid (∀ j, j < k → xs.getD j 0 = xs'.getD j 0) ∧ Hid (Below w.heap.size w wr)) (fun v _ => l - (intOf v).toNat)
    case atStart => exact ⟨0, by omega, rfl, fun j hj => absurd hj (by omega), Below.refl _ _⟩
    case round =>
      obtain ⟨k, hk, rfl, HK, HB⟩ := hrel
      by_cases hlt : k < l
      · obtain ⟨g, f, hA, hg, hc⟩ := (HW.out.below HB.out).mem (by omega)
        subst hA
        obtain ⟨g', f', hA', hg', hc'⟩ := (HW'.out.below HB.out).mem (by omega)
        subst hA'
        have hcell := hc k hlt
        have hcell' := hc' k hlt
        obtain ⟨x, hx⟩ : ∃ x, xs.getD k 0 = x := ⟨_, rfl⟩
        obtain ⟨y, hy⟩ : ∃ y, xs'.getD k 0 = y := ⟨_, rfl⟩
        rw [hx] at hcell
        rw [hy] at hcell'
        have hlt' : (k : Int) < (l : Int) := by omega
        clear hc hc'
        by_cases hxy : x = y
        · have HK' : Hid (∀ j, j < k + 1 → xs.getD j 0 = xs'.getD j 0) := fun j hj => by
            by_cases hjk : j = k
            · rw [hjk, hx, hy, hxy]
            · exact HK.out j (by omega)
          have hd : (x != y) = false := by simp [hxy]
          clear HK hx hy hxy
          go_wp2_with fail
          go_region
          go_wp2_with fail
          go_roundw
          case rel => exact ⟨k + 1, by omega, by go_num, HK', HB.out.drew⟩
          case measure => simp [intOf]; omega
        · have hb : b = false := by rw [← H.out, decide_eq_false_iff_not]; intro e; apply hxy; rw [← hx, ← hy, e]
          subst hb
          have hd : (x != y) = true := by simp [hxy]
          clear HK hx hy hxy H
          go_wp2_with fail
          go_region
          go_wp2_with fail
          go_ret
          exact ⟨rfl, HB.out.drew⟩
      · have hb : b = true := by
          rw [← H.out, decide_eq_true_iff]
          refine List.ext_getElem (by rw [HW.out.len, HW'.out.len]) fun j h1 h2 => ?_
          have := HK.out j (by have := HW.out.len; omega)
          simpa [List.getD_eq_getElem?_getD, h1, h2] using this
        subst hb
        clear HK H
        go_wp2_with fail
        go_ret
        exact ⟨rfl, HB.out⟩
  · have hb : b = false := by rw [← H.out, decide_eq_false_iff_not]; intro e; apply hll; rw [← HW.out.len, ← HW'.out.len, e]
    subst hb
    have hd : ((l : Int) != (l' : Int)) = true := by simp; omega
    clear H
    go_enter Tryd.func38, Tryd.ntmps38
    go_wp2_with fail
    go_ret
    exact ⟨rfl, Below.refl _ _⟩
end Go.Proofs.YtpapbpekihgnlaaDoor
