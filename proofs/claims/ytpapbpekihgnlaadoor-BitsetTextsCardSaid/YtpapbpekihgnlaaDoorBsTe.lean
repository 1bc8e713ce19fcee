/-
  The walk over the reference's Parse.
-/
import Derived.Test.YtpapbpekihgnlaaDoorBsTd
namespace Go.Proofs.YtpapbpekihgnlaaDoor
open Go.RowKit Tx

set_option maxRecDepth 100000 in
set_option maxHeartbeats 4000000 in
theorem rparse_b (s : ByteArray) (hs : s.size ≤ 4000) (R : Int × List Nat × Int) (H : Hid (parR s.data.toList = R)) (w : World) :
    Calls Tryd.prog 46 #[.string s] w fun e w' => Post w R e w' := by
  obtain ⟨t, ht⟩ : ∃ t, s.data.toList = t := ⟨_, rfl⟩
  have HT := Lib.hid ht
  have HTL : Hid (t.length = s.size) := by rw [← ht]; exact (Lib.size_eq s).symm
  have HAT : Hid (∀ p, (h : p < s.size) → t[p]? = some s[p]) := fun p h => by rw [← ht]; exact (at_cons (lt_drop h)).1
  rw [ht] at H
  clear ht
  obtain ⟨i0, hi, hi0, hi1, hi2⟩ := info_parts (P := Tryd.prog) (e := 3) (z := .int .i64 0) (size := 1) (bytes := 8) (by kernel_rfl)
  have HR := Lib.hid (Cs.new w #[.int .i64 0, .slice none 0 0] 24)
  have HB := Lib.hid ((Below.refl w.heap.size w).alloc (Nat.le_refl _) (.cells #[.int .i64 0, .slice none 0 0] 24))
  by_cases h0 : s.size = 0
  · have hR : R = (0, [], 6) := by
      rw [← H.out]
      refine parR_bad fun m ws ht => ?_
      have := (text_open ht).1
      have hl := HTL.out
      rw [this] at hl
      simp at hl
      omega
    subst hR
    have hd : ((s.size : Int) == 0) = true := by rw [beq_iff_eq]; omega
    clear H HAT HTL HT
    go_enter Tryd.func46, Tryd.ntmps46
    go_wp2_with fail
    go_returns
    exact post_bad rfl (by go_grown)
  have hpos : 0 < s.size := by omega
  have hd0 : ((s.size : Int) == 0) = false := by rw [beq_eq_false_iff_ne]; omega
  by_cases h123 : s[0] = 123
  case neg =>
    have hR : R = (0, [], 6) := by
      rw [← H.out]
      refine parR_bad fun m ws ht => ?_
      have h1 := HAT.out 0 hpos
      rw [(text_open ht).1] at h1
      exact h123 (Option.some.inj h1).symm
    subst hR
    have hd : ((s[0].toNat : Int) != 123) = true := by
      rw [bne_iff_ne]; intro e; exact h123 (UInt8.toNat_inj.1 (by show _ = 123; omega))
    clear H HAT HTL HT h123
    go_enter Tryd.func46, Tryd.ntmps46
    go_wp2_with fail
    go_returns
    exact post_bad rfl (by go_grown)
  have hd1 : ((s[0].toNat : Int) != 123) = false := by rw [h123]; rfl
  have HS0 : Hid (St t 1 []) := St.start (by
    have := HAT.out 0 hpos
    rw [h123] at this
    rw [← this, List.head?_eq_getElem?])
  have hown0 := World.ownsRow_made (w.alloc (.cells #[.int .i64 0, .slice none 0 0] 24)) #[] 0 (e := 3) (size := 1) (base := w.heap.size + 1) (by simp) (Nat.zero_le _) rfl
  have hsz : (w.alloc (.cells #[.int .i64 0, .slice none 0 0] 24)).heap.size = w.heap.size + 1 := by simp
  rw [hsz] at hown0
  have HO := Lib.hid hown0
  have HR1 := Lib.hid (HR.out.alloc (.cells #[] 3))
  have HB1 := Lib.hid (HB.out.alloc HB.out.size (.cells #[] 3))
  clear hown0 hsz h123 HR HB
  go_enter Tryd.func46, Tryd.ntmps46
  go_wp2_with fail
  go_loopw [4, 5, 6] (fun a b c wr => ∃ (p L : Nat) (la : Int) (ms : List Nat) (A2 : Option Addr) (c2 : Nat), p ≤ s.size ∧ L ≤ p ∧ -1 ≤ la ∧ la ≤ 4096 ∧ a = .int .i64 p ∧ b = .int .i64 la ∧ c = .slice A2 L c2 ∧ Hid (ms.length = L) ∧ Hid (la = lastR ms) ∧ Hid (St t p ms) ∧ Hid (wr.ownsRow (w.heap.size + 1) 3 1 (.slice A2 L c2) L (ivals ms)) ∧ Hid (Cs wr w.heap.size [.int .i64 0, .slice none 0 0]) ∧ Hid (Below w.heap.size w wr)) (fun a _ _ _ => s.size - (intOf a).toNat)
  case atStart => exact ⟨1, 0, -1, [], _, _, by omega, by omega, by omega, by omega, rfl, rfl, rfl, rfl, rfl, HS0, HO, HR1, HB1⟩
  case round =>
    clear HS0 HO HR1 HB1 hd0 hd1
    obtain ⟨p, L, la, ms, A2, c2, hps, hLp, hla1, hla2, rfl, rfl, rfl, HL, HLA, HST, HO, HR, HB⟩ := hrel
    have r0 := HR.out.at 0 _ rfl
    have r1 := HR.out.at 1 _ rfl
    have f0 := HR.out.free 0
    have f1 := HR.out.free 1
    have hrl := HR.out.lt
    by_cases hon : ∃ h : p < s.size, s[p] ≠ 125
    · obtain ⟨hlt, h125⟩ := hon
      have hlt' : (p : Int) < (s.size : Int) := by omega
      have hltd : decide ((p : Int) < (s.size : Int)) = true := decide_eq_true hlt'
      have hd125 : ((s[p].toNat : Int) != 125) = true := by rw [bne_iff_ne]; intro e; exact h125 (UInt8.toNat_inj.1 (by show _ = 125; omega))
      have H125 : Hid (t[p]? ≠ some 125) := by show _ ≠ _; rw [HAT.out p hlt]; intro e; exact h125 (Option.some.inj e)
      clear h125
      by_cases hL0 : L = 0
      · have hms : ms = [] := List.eq_nil_of_length_eq_zero (by rw [HL.out]; exact hL0)
        have HSM : Hid (Sm t p ms) := by
          have := HST.out
          rw [hms] at this ⊢
          exact this.first H125.out
        have hLd : decide ((0 : Int) < (L : Int)) = false := decide_eq_false (by omega)
        have hLd' : ¬ ((0 : Int) < (L : Int)) := by omega
        go_upto_region 10 with fail
        clear hms hLd hLd' hL0
        rcases numR_cases t p with ⟨hnum, _⟩ | ⟨n, hn, hsp, hnum⟩
        · have hR : R = (0, [], 6) := by
            rw [← H.out]
            refine parR_bad fun m ws ht => ?_
            obtain ⟨x, rest, h1, h2, h3⟩ := HSM.out.num_of ht
            rw [hnum] at h2
            have := (Prod.mk.inj h2).2
            omega
          subst hR
          have HN := Lib.hid hnum
          clear H hnum
          go_wp2_with fail
          go_at_call 67
          refine (number_b s p hps (by omega) (0, -1) (by rw [HT.out]; exact HN) _).mono ?_
          rintro e w5 ⟨rfl, rfl⟩
          go_wp2_with fail
          obtain ⟨k0, k1⟩ := two_cells HR.out (.int .i64 0) (.slice none 0 0)
          refine bodyPost_ret (v := .tuple #[.agg #[.int .i64 0, .slice none 0 0], .int .i64 6]) (by simp [results, Tryd.results46, go_sem, k0, k1]) rfl ?_
          exact post_bad rfl ((HB.out.setCell (Nat.le_refl _) _).setCell (Nat.le_refl _) _)
        · obtain ⟨p3, hp3⟩ : ∃ p3, p + (Lib.decDigits n).length = p3 := ⟨_, rfl⟩
          have hdl : 0 < (Lib.decDigits n).length := List.length_pos_iff.2 (dec_ne n)
          rw [hp3] at hnum
          have HN := Lib.hid hnum
          have HSP := Lib.hid hsp
          have HP3 := Lib.hid hp3
          clear hnum hsp hp3
          by_cases hla : (n : Int) ≤ la
          · have hR : R = (0, [], 6) := by
              rw [← H.out]
              refine parR_bad fun m ws ht => ?_
              obtain ⟨x, rest, h1, h2, h3⟩ := HSM.out.num_of ht
              rw [HN.out] at h2
              have := (Prod.mk.inj h2).1
              rw [← HLA.out] at h3
              omega
            subst hR
            clear H
            go_wp2_with fail
            go_at_call 67
            refine (number_b s p hps (by omega) ((n : Int), (p3 : Int)) (by rw [HT.out]; exact HN) _).mono ?_
            rintro e w5 ⟨rfl, rfl⟩
            go_wp2_with fail
            obtain ⟨k0, k1⟩ := two_cells HR.out (.int .i64 0) (.slice none 0 0)
            refine bodyPost_ret (v := .tuple #[.agg #[.int .i64 0, .slice none 0 0], .int .i64 6]) (by simp [results, Tryd.results46, go_sem, k0, k1]) rfl ?_
            exact post_bad rfl ((HB.out.setCell (Nat.le_refl _) _).setCell (Nat.le_refl _) _)
          · have hlt3 : la < (n : Int) := by omega
            have hla0 : decide ((n : Int) ≤ la) = false := decide_eq_false hla
            have HST : Hid (St t p3 (ms ++ [n])) := by rw [← HP3.out]; exact HSM.out.next hn HSP.out (by rw [← HLA.out]; exact hlt3)
            have hp3s : p3 ≤ s.size := by have := HST.out.le; rw [HTL.out] at this; exact this
            have hlt_q : p < p3 := by have := HP3.out; omega
            have HLA3 : Hid ((n : Int) = lastR (ms ++ [n])) := (lastR_snoc ms n).symm
            have HL3 : Hid ((ms ++ [n]).length = L + 1) := by show _ = _; rw [List.length_append, HL.out]; rfl
            clear hla
            go_wp2_with fail
            go_at_call 67
            refine (number_b s p hps (by omega) ((n : Int), (p3 : Int)) (by rw [HT.out]; exact HN) _).mono ?_
            rintro e w5 ⟨rfl, rfl⟩
            have hup1 : ivals (ms ++ [n]) = ivals ms ++ [.int .i64 (n : Int)] := ivals_snoc _ _
            have HU1 := Lib.hid hup1
            clear hup1
            go_wp2_with (at_builtin; (refine wpList_append_own _ rfl _ _ 25 rfl (w.heap.size + 1) 3 i0 (.int .i64 0) 1 8 Tryd.underlying25 hi hi0 hi1 hi2 rfl (by decide) _ L (ivals ms) rfl (HO.out.alloc _) ⟨wr.heap.size, 0, none⟩ 1 1 [.int .i64 (n : Int)] rfl rfl ?q1 ?q2 ?q3 ?q4 ?q5 ?_))
            try (case q1 => intro j u hj; match j, hj with | 0, hj => simp at hj; subst hj; simp [Addr.add])
            case q2 => first | rfl | (intro u hu; simp at hu; subst hu; rfl)
            case q3 => unfold maxLen; omega
            case q4 => omega
            case q5 => first | omega | (simp; omega)
            intro v' w4 hown4 hgrow _
            have hbel : Below (w.heap.size + 1) wr w4 := ((Below.refl _ wr).alloc (by omega) _).grown hgrow (by simp; omega) (fun q hq => (HO.out.lt q hq).1)
            obtain ⟨A4, c4, rfl⟩ := own_form hown4
            rw [← HU1.out] at hown4
            have HO4 := Lib.hid hown4
            have HR4 := Lib.hid (cs_low HR.out hbel (by omega))
            have HB4 := Lib.hid (HB.out.trans (hbel.mono (by omega)))
            clear hown4 hgrow hbel HO HR HB r0 r1 f0 f1
            go_wp2_with fail
            go_roundw
            case rel => exact ⟨p3, L + 1, (n : Int), ms ++ [n], A4, c4, hp3s, by omega, by omega, by omega, rfl, rfl, rfl, HL3, HLA3, HST, HO4, HR4, HB4⟩
            case measure => simp [intOf]; omega
      · have hne : ms ≠ [] := fun e => hL0 (by rw [← HL.out, e]; rfl)
        have HNE := Lib.hid hne
        have hLd : decide ((0 : Int) < (L : Int)) = true := decide_eq_true (by omega)
        have hLd' : (0 : Int) < (L : Int) := by omega
        clear hne
        by_cases hz1 : s.size ≤ p + 1
        · have hdz : decide ((s.size : Int) ≤ (p : Int) + 1) = true := decide_eq_true (by omega)
          have hR : R = (0, [], 6) := by
            rw [← H.out]
            refine parR_bad fun m ws ht => ?_
            have h2 := (HST.out.comma_of HNE.out H125.out ht).2
            rw [List.getElem?_eq_none (by rw [HTL.out]; omega)] at h2
            cases h2
          subst hR
          clear H 
          go_wp2_with fail
          obtain ⟨k0, k1⟩ := two_cells HR.out (.int .i64 0) (.slice none 0 0)
          refine bodyPost_ret (v := .tuple #[.agg #[.int .i64 0, .slice none 0 0], .int .i64 6]) (by simp [results, Tryd.results46, go_sem, k0, k1]) rfl ?_
          exact post_bad rfl ((HB.out.setCell (Nat.le_refl _) _).setCell (Nat.le_refl _) _)
        have hz2 : p + 1 < s.size := by omega
        have hdz : decide ((s.size : Int) ≤ (p : Int) + 1) = false := decide_eq_false (by omega)
        have hz3 : (p : Int) + 1 < (s.size : Int) := by omega
        by_cases h44 : s[p] = 44
        case neg =>
          have hd44 : ((s[p].toNat : Int) != 44) = true := by rw [bne_iff_ne]; intro e; exact h44 (UInt8.toNat_inj.1 (by show _ = 44; omega))
          have hR : R = (0, [], 6) := by
            rw [← H.out]
            refine parR_bad fun m ws ht => ?_
            have h2 := (HST.out.comma_of HNE.out H125.out ht).1
            rw [HAT.out p hlt] at h2
            exact h44 (Option.some.inj h2)
          subst hR
          clear H h44
          go_wp2_with fail
          obtain ⟨k0, k1⟩ := two_cells HR.out (.int .i64 0) (.slice none 0 0)
          refine bodyPost_ret (v := .tuple #[.agg #[.int .i64 0, .slice none 0 0], .int .i64 6]) (by simp [results, Tryd.results46, go_sem, k0, k1]) rfl ?_
          exact post_bad rfl ((HB.out.setCell (Nat.le_refl _) _).setCell (Nat.le_refl _) _)
        have hd44 : ((s[p].toNat : Int) != 44) = false := by rw [h44]; rfl
        by_cases h32 : s[p + 1] = 32
        case neg =>
          have hd32 : ((s[p + 1].toNat : Int) != 32) = true := by rw [bne_iff_ne]; intro e; exact h32 (UInt8.toNat_inj.1 (by show _ = 32; omega))
          have H44 := Lib.hid h44
          clear h44
          have hR : R = (0, [], 6) := by
            rw [← H.out]
            refine parR_bad fun m ws ht => ?_
            have h2 := (HST.out.comma_of HNE.out H125.out ht).2
            rw [HAT.out (p + 1) hz2] at h2
            exact h32 (Option.some.inj h2)
          subst hR
          clear H h32
          go_wp2_with fail
          obtain ⟨k0, k1⟩ := two_cells HR.out (.int .i64 0) (.slice none 0 0)
          refine bodyPost_ret (v := .tuple #[.agg #[.int .i64 0, .slice none 0 0], .int .i64 6]) (by simp [results, Tryd.results46, go_sem, k0, k1]) rfl ?_
          exact post_bad rfl ((HB.out.setCell (Nat.le_refl _) _).setCell (Nat.le_refl _) _)
        have hd32 : ((s[p + 1].toNat : Int) != 32) = false := by rw [h32]; rfl
        have HSM : Hid (Sm t (p + 2) ms) := HST.out.comma HNE.out (by rw [HAT.out p hlt, h44]) (by rw [HAT.out (p + 1) hz2, h32])
        obtain ⟨p2, hpp⟩ : ∃ p2, p + 2 = p2 := ⟨_, rfl⟩
        have hpp' : (p : Int) + 2 = ((p2 : Nat) : Int) := by omega
        have hp2 : p2 ≤ s.size := by omega
        have hLp2 : L ≤ p2 := by omega
        have hpp2 : p ≤ p2 := by omega
        rw [hpp] at HSM
        have HPP := Lib.hid hpp'
        clear h44 h32 hpp hpp'
        go_upto_region 10 with fail
        rw [HPP.out]
        clear hLd hLd' hL0
        rcases numR_cases t p2 with ⟨hnum, _⟩ | ⟨n, hn, hsp, hnum⟩
        · have hR : R = (0, [], 6) := by
            rw [← H.out]
            refine parR_bad fun m ws ht => ?_
            obtain ⟨x, rest, h1, h2, h3⟩ := HSM.out.num_of ht
            rw [hnum] at h2
            have := (Prod.mk.inj h2).2
            omega
          subst hR
          have HN := Lib.hid hnum
          clear H hnum
          go_wp2_with fail
          go_at_call 67
          refine (number_b s p2 hp2 (by omega) (0, -1) (by rw [HT.out]; exact HN) _).mono ?_
          rintro e w5 ⟨rfl, rfl⟩
          go_wp2_with fail
          obtain ⟨k0, k1⟩ := two_cells HR.out (.int .i64 0) (.slice none 0 0)
          refine bodyPost_ret (v := .tuple #[.agg #[.int .i64 0, .slice none 0 0], .int .i64 6]) (by simp [results, Tryd.results46, go_sem, k0, k1]) rfl ?_
          exact post_bad rfl ((HB.out.setCell (Nat.le_refl _) _).setCell (Nat.le_refl _) _)
        · obtain ⟨p3, hp3⟩ : ∃ p3, p2 + (Lib.decDigits n).length = p3 := ⟨_, rfl⟩
          have hdl : 0 < (Lib.decDigits n).length := List.length_pos_iff.2 (dec_ne n)
          rw [hp3] at hnum
          have HN := Lib.hid hnum
          have HSP := Lib.hid hsp
          have HP3 := Lib.hid hp3
          clear hnum hsp hp3
          by_cases hla : (n : Int) ≤ la
          · have hR : R = (0, [], 6) := by
              rw [← H.out]
              refine parR_bad fun m ws ht => ?_
              obtain ⟨x, rest, h1, h2, h3⟩ := HSM.out.num_of ht
              rw [HN.out] at h2
              have := (Prod.mk.inj h2).1
              rw [← HLA.out] at h3
              omega
            subst hR
            clear H
            go_wp2_with fail
            go_at_call 67
            refine (number_b s p2 hp2 (by omega) ((n : Int), (p3 : Int)) (by rw [HT.out]; exact HN) _).mono ?_
            rintro e w5 ⟨rfl, rfl⟩
            go_wp2_with fail
            obtain ⟨k0, k1⟩ := two_cells HR.out (.int .i64 0) (.slice none 0 0)
            refine bodyPost_ret (v := .tuple #[.agg #[.int .i64 0, .slice none 0 0], .int .i64 6]) (by simp [results, Tryd.results46, go_sem, k0, k1]) rfl ?_
            exact post_bad rfl ((HB.out.setCell (Nat.le_refl _) _).setCell (Nat.le_refl _) _)
          · have hlt3 : la < (n : Int) := by omega
            have hla0 : decide ((n : Int) ≤ la) = false := decide_eq_false hla
            have HST : Hid (St t p3 (ms ++ [n])) := by rw [← HP3.out]; exact HSM.out.next hn HSP.out (by rw [← HLA.out]; exact hlt3)
            have hp3s : p3 ≤ s.size := by have := HST.out.le; rw [HTL.out] at this; exact this
            have hlt_q : p2 < p3 := by have := HP3.out; omega
            have HLA3 : Hid ((n : Int) = lastR (ms ++ [n])) := (lastR_snoc ms n).symm
            have HL3 : Hid ((ms ++ [n]).length = L + 1) := by show _ = _; rw [List.length_append, HL.out]; rfl
            clear hla
            go_wp2_with fail
            go_at_call 67
            refine (number_b s p2 hp2 (by omega) ((n : Int), (p3 : Int)) (by rw [HT.out]; exact HN) _).mono ?_
            rintro e w5 ⟨rfl, rfl⟩
            have hup1 : ivals (ms ++ [n]) = ivals ms ++ [.int .i64 (n : Int)] := ivals_snoc _ _
            have HU1 := Lib.hid hup1
            clear hup1
            go_wp2_with (at_builtin; (refine wpList_append_own _ rfl _ _ 25 rfl (w.heap.size + 1) 3 i0 (.int .i64 0) 1 8 Tryd.underlying25 hi hi0 hi1 hi2 rfl (by decide) _ L (ivals ms) rfl (HO.out.alloc _) ⟨wr.heap.size, 0, none⟩ 1 1 [.int .i64 (n : Int)] rfl rfl ?q1 ?q2 ?q3 ?q4 ?q5 ?_))
            try (case q1 => intro j u hj; match j, hj with | 0, hj => simp at hj; subst hj; simp [Addr.add])
            case q2 => first | rfl | (intro u hu; simp at hu; subst hu; rfl)
            case q3 => unfold maxLen; omega
            case q4 => omega
            case q5 => first | omega | (simp; omega)
            intro v' w4 hown4 hgrow _
            have hbel : Below (w.heap.size + 1) wr w4 := ((Below.refl _ wr).alloc (by omega) _).grown hgrow (by simp; omega) (fun q hq => (HO.out.lt q hq).1)
            obtain ⟨A4, c4, rfl⟩ := own_form hown4
            rw [← HU1.out] at hown4
            have HO4 := Lib.hid hown4
            have HR4 := Lib.hid (cs_low HR.out hbel (by omega))
            have HB4 := Lib.hid (HB.out.trans (hbel.mono (by omega)))
            clear hown4 hgrow hbel HO HR HB r0 r1 f0 f1
            go_wp2_with fail
            go_roundw
            case rel => exact ⟨p3, L + 1, (n : Int), ms ++ [n], A4, c4, hp3s, by omega, by omega, by omega, rfl, rfl, rfl, HL3, HLA3, HST, HO4, HR4, HB4⟩
            case measure => simp [intOf]; omega
    · have hoff : t.length ≤ p ∨ t[p]? = some 125 := by
        rw [HTL.out]
        by_cases hlt : p < s.size
        · right
          rw [HAT.out p hlt]
          by_cases h : s[p] = 125
          · rw [h]
          · exact absurd ⟨hlt, h⟩ hon
        · left; omega
      have HOFF := Lib.hid hoff
      by_cases hlt : p < s.size
      case neg =>
        have hlt' : decide ((p : Int) < (s.size : Int)) = false := decide_eq_false (by omega)
        have hdz : decide ((s.size : Int) ≤ (p : Int) + 1) = true := decide_eq_true (by omega)
        clear hon hoff
        have hR : R = (0, [], 6) := by
          rw [← H.out]
          refine parR_bad fun m ws ht => ?_
          have h2 := (HST.out.fin_of ht HOFF.out).2.2.1
          rw [HTL.out] at h2
          omega
        subst hR
        clear H 
        go_wp2_with fail
        obtain ⟨k0, k1⟩ := two_cells HR.out (.int .i64 0) (.slice none 0 0)
        refine bodyPost_ret (v := .tuple #[.agg #[.int .i64 0, .slice none 0 0], .int .i64 6]) (by simp [results, Tryd.results46, go_sem, k0, k1]) rfl ?_
        exact post_bad rfl ((HB.out.setCell (Nat.le_refl _) _).setCell (Nat.le_refl _) _)
      have h125 : s[p] = 125 := by
        by_cases h : s[p] = 125
        · exact h
        · exact absurd ⟨hlt, h⟩ hon
      have hlt' : (p : Int) < (s.size : Int) := by omega
      have hltd : decide ((p : Int) < (s.size : Int)) = true := decide_eq_true hlt'
      have hd125 : ((s[p].toNat : Int) != 125) = false := by rw [h125]; rfl
      have HA125 : Hid (t[p]? = some 125) := by show _ = _; rw [HAT.out p hlt, h125]
      clear hon hoff h125
      by_cases hz1 : s.size ≤ p + 1
      · have hdz : decide ((s.size : Int) ≤ (p : Int) + 1) = true := decide_eq_true (by omega)
        have hR : R = (0, [], 6) := by
          rw [← H.out]
          refine parR_bad fun m ws ht => ?_
          have h2 := (HST.out.fin_of ht HOFF.out).2.2.1
          rw [HTL.out] at h2
          omega
        subst hR
        clear H 
        go_wp2_with fail
        obtain ⟨k0, k1⟩ := two_cells HR.out (.int .i64 0) (.slice none 0 0)
        refine bodyPost_ret (v := .tuple #[.agg #[.int .i64 0, .slice none 0 0], .int .i64 6]) (by simp [results, Tryd.results46, go_sem, k0, k1]) rfl ?_
        exact post_bad rfl ((HB.out.setCell (Nat.le_refl _) _).setCell (Nat.le_refl _) _)
      have hz2 : p + 1 < s.size := by omega
      have hdz : decide ((s.size : Int) ≤ (p : Int) + 1) = false := decide_eq_false (by omega)
      have hz3 : (p : Int) + 1 < (s.size : Int) := by omega
      by_cases h47 : s[p + 1] = 47
      case neg =>
        have hd47 : ((s[p + 1].toNat : Int) != 47) = true := by rw [bne_iff_ne]; intro e; exact h47 (UInt8.toNat_inj.1 (by show _ = 47; omega))
        have hR : R = (0, [], 6) := by
          rw [← H.out]
          refine parR_bad fun m ws ht => ?_
          have h2 := (HST.out.fin_of ht HOFF.out).2.1
          rw [HAT.out (p + 1) hz2] at h2
          exact h47 (Option.some.inj h2)
        subst hR
        clear H h47
        go_wp2_with fail
        obtain ⟨k0, k1⟩ := two_cells HR.out (.int .i64 0) (.slice none 0 0)
        refine bodyPost_ret (v := .tuple #[.agg #[.int .i64 0, .slice none 0 0], .int .i64 6]) (by simp [results, Tryd.results46, go_sem, k0, k1]) rfl ?_
        exact post_bad rfl ((HB.out.setCell (Nat.le_refl _) _).setCell (Nat.le_refl _) _)
      have hd47 : ((s[p + 1].toNat : Int) != 47) = false := by rw [h47]; rfl
      have HA47 : Hid (t[p + 1]? = some 47) := by show _ = _; rw [HAT.out (p + 1) hz2, h47]
      obtain ⟨p2, hpp⟩ : ∃ p2, p + 2 = p2 := ⟨_, rfl⟩
      have hpp' : (p : Int) + 2 = ((p2 : Nat) : Int) := by omega
      have hp2 : p2 ≤ s.size := by omega
      have HPP := Lib.hid hpp'
      have HPN := Lib.hid hpp
      clear h47 hpp hpp'
      rcases numR_cases t p2 with ⟨hnum, _⟩ | ⟨n, hn, hsp, hnum⟩
      · have hR : R = (0, [], 6) := by
          rw [← H.out]
          refine parR_bad fun m ws ht => ?_
          have h2 := (HST.out.fin_of ht HOFF.out).2.2.2.1
          rw [HPN.out, hnum] at h2
          have := (Prod.mk.inj h2).2
          omega
        subst hR
        have HN := Lib.hid hnum
        have hne : ((-1 : Int) != (s.size : Int)) = true := by rw [bne_iff_ne]; omega
        clear H hnum
        go_wp2_with fail
        go_at_call 67
        rw [HPP.out]
        refine (number_b s p2 hp2 (by omega) (0, -1) (by rw [HT.out]; exact HN) _).mono ?_
        rintro e w5 ⟨rfl, rfl⟩
        go_wp2_with fail
        obtain ⟨k0, k1⟩ := two_cells HR.out (.int .i64 0) (.slice none 0 0)
        refine bodyPost_ret (v := .tuple #[.agg #[.int .i64 0, .slice none 0 0], .int .i64 6]) (by simp [results, Tryd.results46, go_sem, k0, k1]) rfl ?_
        exact post_bad rfl ((HB.out.setCell (Nat.le_refl _) _).setCell (Nat.le_refl _) _)
      · obtain ⟨p3, hp3⟩ : ∃ p3, p2 + (Lib.decDigits n).length = p3 := ⟨_, rfl⟩
        rw [hp3] at hnum
        have HN := Lib.hid hnum
        have HSP := Lib.hid hsp
        have HP3 := Lib.hid hp3
        clear hnum hsp hp3
        by_cases hend : p3 = s.size
        case neg =>
          have hR : R = (0, [], 6) := by
            rw [← H.out]
            refine parR_bad fun m ws ht => ?_
            have h2 := (HST.out.fin_of ht HOFF.out).2.2.2.1
            rw [HPN.out, HN.out, HTL.out] at h2
            have := (Prod.mk.inj h2).2
            omega
          subst hR
          have hne : ((p3 : Int) != (s.size : Int)) = true := by rw [bne_iff_ne]; omega
          clear H hend
          go_wp2_with fail
          go_at_call 67
          rw [HPP.out]
          refine (number_b s p2 hp2 (by omega) ((n : Int), (p3 : Int)) (by rw [HT.out]; exact HN) _).mono ?_
          rintro e w5 ⟨rfl, rfl⟩
          go_wp2_with fail
          obtain ⟨k0, k1⟩ := two_cells HR.out (.int .i64 0) (.slice none 0 0)
          refine bodyPost_ret (v := .tuple #[.agg #[.int .i64 0, .slice none 0 0], .int .i64 6]) (by simp [results, Tryd.results46, go_sem, k0, k1]) rfl ?_
          exact post_bad rfl ((HB.out.setCell (Nat.le_refl _) _).setCell (Nat.le_refl _) _)
        subst hend
        have hne : ((s.size : Int) != (s.size : Int)) = false := by simp
        by_cases hla : (n : Int) ≤ la
        · have hR : R = (0, [], 6) := by
            rw [← H.out]
            refine parR_bad fun m ws ht => ?_
            have h2 := (HST.out.fin_of ht HOFF.out).2.2.2
            rw [HPN.out, HN.out, ← HLA.out] at h2
            have := (Prod.mk.inj h2.1).1
            have := h2.2
            omega
          subst hR
          clear H
          go_wp2_with fail
          go_at_call 67
          rw [HPP.out]
          refine (number_b s p2 hp2 (by omega) ((n : Int), (s.size : Int)) (by rw [HT.out]; exact HN) _).mono ?_
          rintro e w5 ⟨rfl, rfl⟩
          go_wp2_with fail
          obtain ⟨k0, k1⟩ := two_cells HR.out (.int .i64 0) (.slice none 0 0)
          refine bodyPost_ret (v := .tuple #[.agg #[.int .i64 0, .slice none 0 0], .int .i64 6]) (by simp [results, Tryd.results46, go_sem, k0, k1]) rfl ?_
          exact post_bad rfl ((HB.out.setCell (Nat.le_refl _) _).setCell (Nat.le_refl _) _)
        · have hlt3 : la < (n : Int) := by omega
          have hlan : decide ((n : Int) ≤ la) = false := decide_eq_false hla
          have hfin := HST.out.fin HA125.out HA47.out hn (by rw [HPN.out]; exact HSP.out) (by rw [HPN.out, HTL.out]; exact HP3.out) (by rw [← HLA.out]; exact hlt3)
          have hof := of_ints hn (fun x hx => by have h1 := lastR_le HST.out.asc x hx; rw [← HLA.out] at h1; omega)
          obtain ⟨W, hW⟩ : ∃ W, (Bs.mk n fun i => (ints ms).contains (i : Int)) = W := ⟨_, rfl⟩
          rw [hW] at hof
          have hR : R = ((n : Int), W, 0) := by rw [← H.out, hfin, hof]
          subst hR
          obtain ⟨LW, hLW⟩ : ∃ k, W.length = k := ⟨_, rfl⟩
          have HLW := Lib.hid hLW
          have HOF := Lib.hid hof
          have hown := HO.out
          rw [← HL.out] at hown
          have hz := (own_zs hown).2
          rw [HL.out] at hz
          have HZ := Lib.hid hz
          clear H hfin hof hW hLW hla hown hz
          go_wp2_with fail
          go_at_call 67
          rw [HPP.out]
          refine (number_b s p2 hp2 (by omega) ((n : Int), (s.size : Int)) (by rw [HT.out]; exact HN) _).mono ?_
          rintro e w5 ⟨rfl, rfl⟩
          go_wp2_with fail
          go_at_call 16
          refine (rof_b n A2 L c2 (ints ms) (by omega) ((n : Int), W, 0) HOF _ HZ.out).mono ?_
          rintro e w6 ⟨⟨A6, k6, rfl, hO⟩, hb⟩
          simp only [HLW.out] at hO ⊢
          have hba := (Below.refl w6.heap.size w6).alloc (Nat.le_refl _) (.cells #[.int .i64 (n : Int), .slice A6 LW k6] 24)
          have HO6 := Lib.hid ((hO.mono (B' := w.heap.size + 1) (by omega)).below hba)
          have HR6 := Lib.hid ((HR.out.next hb).next hba)
          have hB1 := HB.out.trans (hb.mono HB.out.size)
          have HB6 := Lib.hid (hB1.trans (hba.mono hB1.size))
          have HN6 := Lib.hid (Cs.new w6 #[.int .i64 (n : Int), .slice A6 LW k6] 24)
          clear hb hba hO hB1 HR HB HO r0 r1 f0 f1
          go_upto_region 21 with fail
          obtain ⟨w7, hw7⟩ : ∃ w7, w6.alloc (.cells #[.int .i64 (n : Int), .slice A6 LW k6] 24) = w7 := ⟨_, rfl⟩
          obtain ⟨b7, hb7⟩ : ∃ b, w6.heap.size = b := ⟨_, rfl⟩
          rw [hw7] at HO6 HR6 HB6 HN6
          rw [hb7] at HN6
          rw [hw7, hb7]
          clear hw7 hb7
          have r0 := HR6.out.at 0 _ rfl
          have r1 := HR6.out.at 1 _ rfl
          have f0 := HR6.out.free 0
          have f1 := HR6.out.free 1
          have n0 := HN6.out.at 0 _ rfl
          have n1 := HN6.out.at 1 _ rfl
          go_wp2_with fail
          obtain ⟨k0, k1⟩ := two_cells HR6.out (.int .i64 n) (.slice A6 LW k6)
          refine bodyPost_ret (v := .tuple #[.agg #[.int .i64 n, .slice A6 LW k6], .int .i64 0]) (by simp [results, Tryd.results46, go_sem, k0, k1]) rfl ?_
          exact fin_set HO6.out (by omega) (by omega) HB6.out _ _
end Go.Proofs.YtpapbpekihgnlaaDoor
