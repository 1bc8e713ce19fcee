/-
  The walk over BitsetTexts.
-/
import Derived.Test.YtpapbpekihgnlaaDoorBsTf
namespace Go.Proofs.YtpapbpekihgnlaaDoor
open Go.RowKit

/-! The texts' lengths; what Parse returns at the text of a set. -/
theorem text_len (n : Int) (ws : List Nat) : (textR n ws).length ≤ 30000 := by
  unfold textR
  split
  · next hv =>
    have h1 := parts_len (membR n ws) (fun m hm => Nat.lt_trans (memb_lt hm) (by decide)) (membR n ws).length
    have h2 := membR_len n ws
    have h3 := dec_len n.toNat (by have := (Bs.vld_iff.1 hv).2.1; omega)
    simp only [List.length_append, List.length_cons, List.length_nil]
    omega
  · simp
theorem par_text (n : Int) (ws : List Nat) (hf : Bs.fits ws) : (Bs.vld n ws = true ∧ Tx.parR (textR n ws) = (n, ws, 0) ∧ ∃ m ws', Tx.isText (textR n ws) m ws') ∨ (Bs.vld n ws = false ∧ Tx.parR (textR n ws) = (0, [], 6) ∧ (textR n ws).length ≤ 4000) := by
  cases hv : Bs.vld n ws with
  | true =>
    obtain ⟨m, rfl⟩ : ∃ m : Nat, n = m := ⟨n.toNat, by have := (Bs.vld_iff.1 hv).1; omega⟩
    have h : Tx.isText (textR m ws) m ws := ⟨hv, hf, rfl⟩
    exact .inl ⟨rfl, Tx.parR_ok h, m, ws, h⟩
  | false =>
    have e : textR n ws = [] := by unfold textR; rw [if_neg (by rw [hv]; simp)]
    refine .inr ⟨rfl, Tx.parR_bad fun m ws' h => ?_, by rw [e]; simp⟩
    have := (Tx.text_open h).1
    rw [e] at this
    cases this
theorem par_back {t : List UInt8} {Q1 : Int} {Q2 : List Nat} (h : Tx.parR t = (Q1, Q2, 0)) : textR Q1 Q2 = t := by
  rcases Tx.parR_cases t with ⟨m, ws, h1, h2⟩ | ⟨_, h2⟩
  · rw [h] at h2
    have e1 := (Prod.mk.inj h2).1
    have e2 := (Prod.mk.inj (Prod.mk.inj h2).2).1
    rw [e1, e2]
    exact h1.2.2
  · rw [h] at h2
    have := (Prod.mk.inj (Prod.mk.inj h2).2).2
    cases this

set_option maxRecDepth 100000 in
set_option maxHeartbeats 4000000 in
theorem texts_b (n0 : Int) (A0 : Option Addr) (l0 c0 : Nat) (ws0 : List Nat) (tx : ByteArray) (w : World) (hT : Txt w) (hw0 : Wd w A0 l0 c0 ws0) :
    Calls Tryd.prog 11 #[.agg #[.int .i64 n0, .slice A0 l0 c0], .string tx] w fun e w' => e = .returned (.bool true) ∧ Below w.heap.size w w' := by
  have hlm0 : l0 ≤ 9223372036854775807 := by have h1 := hw0.cap; have h2 := hw0.big; unfold maxLen at h2; omega
  have HW0 := Lib.hid hw0
  have HT := Lib.hid hT
  have HX := Lib.hid (boxS_below w n0 A0 l0 c0)
  have HCS0 := Lib.hid (boxS_cs w n0 A0 l0 c0)
  clear hT hw0
  go_enter Tryd.func11, Tryd.ntmps11
  go_wp2_with fail
  go_at_call 12
  refine (known_b _ (HT.out.tabs.below HX.out)).mono ?_
  rintro e v0 ⟨rfl, hb⟩
  have HB := Lib.hid (HX.out.trans (hb.mono HX.out.size))
  have HS : Hid (Sets v0 [⟨w.heap.size, n0, A0, l0, c0, ws0⟩]) := ⟨⟨HCS0.out.next hb, HW0.out.below HB.out⟩, trivial⟩
  clear hb HX HCS0
  have q0a := HS.out.hd.c0
  have q0b := HS.out.hd.c1
  by_cases h640 : 64 < l0
  · have hd0 : decide ((64 : Int) < (l0 : Int)) = true := decide_eq_true (by omega)
    have he0 : (64 : Int) < (l0 : Int) := by omega
    go_wp2_with fail
    go_ret
    exact ⟨rfl, HB.out⟩
  have hd0 : decide ((64 : Int) < (l0 : Int)) = false := decide_eq_false (by omega)
  have he0 : ¬ ((64 : Int) < (l0 : Int)) := by omega
  by_cases hx2 : 2000 < tx.size
  · have hdx : decide ((2000 : Int) < (tx.size : Int)) = true := decide_eq_true (by omega)
    have hex : (2000 : Int) < (tx.size : Int) := by omega
    go_wp2_with fail
    go_ret
    exact ⟨rfl, HB.out⟩
  have hdx : decide ((2000 : Int) < (tx.size : Int)) = false := decide_eq_false (by omega)
  have hex : ¬ ((2000 : Int) < (tx.size : Int)) := by omega
  obtain ⟨tl, htl⟩ : ∃ tl, textR n0 ws0 = tl := ⟨_, rfl⟩
  have HTX := Lib.hid htl
  obtain ⟨tb, htb⟩ : ∃ tb : ByteArray, (⟨tl.toArray⟩ : ByteArray) = tb := ⟨_, rfl⟩
  have hbd : tb.data.toList = tl := by rw [← htb]
  have HTB := Lib.hid htb
  have HBD := Lib.hid hbd
  have hts : tb.size ≤ 30000 := by rw [bytes_size, hbd, ← htl]; exact text_len n0 ws0
  have HRT : Hid (tb.data.toList = textR n0 ws0) := hbd.trans htl.symm
  have hself : (tb.toList == tb.toList) = true := beq_self_eq_true _
  have hpt := par_text n0 ws0 HW0.out.fits
  rw [htl] at hpt
  have HPT := Lib.hid hpt
  obtain ⟨⟨Q1, Q2, Q3⟩, hQ⟩ : ∃ R, Tx.parR tx.data.toList = R := ⟨_, rfl⟩
  have hQl : Q2.length ≤ 64 := by have := Tx.parR_len tx.data.toList; rw [hQ] at this; exact this
  obtain ⟨lQ, hlQ⟩ : ∃ k, Q2.length = k := ⟨_, rfl⟩
  rw [hlQ] at hQl
  have HQ := Lib.hid hQ
  have HLQ := Lib.hid hlQ
  clear htl htb hbd hpt hQ hlQ
  go_wp2_with fail
  go_at_call 43
  refine (text_b n0 A0 l0 c0 ws0 tl HTX _ (HT.out.tabs.below HB.out) HS.out.hd.wd).mono ?_
  rintro e y1 ⟨rfl, hb⟩
  rw [HTB.out]
  have HSn := Lib.hid (HS.out.next hb)
  have HBn := Lib.hid (HB.out.trans (hb.mono HB.out.size))
  clear hb HS HB
  rename Hid (Sets _ _) => HS
  rename Hid (Below w.heap.size w _) => HB
  clear q0a q0b
  have q0a := HS.out.hd.c0
  have q0b := HS.out.hd.c1
  go_wp2_with fail
  go_at_call 44
  refine (rtext_b n0 A0 l0 c0 ws0 tb HRT _ HS.out.hd.wd).mono ?_
  rintro e y2 ⟨rfl, hb⟩
  have HSn := Lib.hid (HS.out.next hb)
  have HBn := Lib.hid (HB.out.trans (hb.mono HB.out.size))
  clear hb HS HB
  rename Hid (Sets _ _) => HS
  rename Hid (Below w.heap.size w _) => HB
  clear q0a q0b
  have q0a := HS.out.hd.c0
  have q0b := HS.out.hd.c1
  go_upto_region 8 with fail
  rcases HPT.out with ⟨hv, hpr, hit⟩ | ⟨hv, hpr, hit⟩
  · have HV := Lib.hid hv
    have HPR : Hid (Tx.parR tb.data.toList = (n0, ws0, 0)) := by show _ = _; rw [HBD.out]; exact hpr
    have HIT : Hid ((∃ m ws, Tx.isText tb.data.toList m ws) ∨ tb.size ≤ 4000) := .inl (by rw [HBD.out]; exact hit)
    have HML : Hid (ws0.length = l0) := HW0.out.len
    clear hv hpr hit
    clear q0a q0b
    go_wp2_with fail
    go_at_call 45
    refine (parse_b tb hts HIT.out (n0, ws0, 0) HPR _ (HT.out.below HB.out)).mono ?_
    rintro e v1 ⟨⟨B1, k1, rfl, hO⟩, hb⟩
    simp only [HML.out] at hO ⊢
    obtain ⟨hs, hbb⟩ := HS.out.push HB.out (n := n0) hO hb
    have HSn := Lib.hid hs
    have HBn := Lib.hid hbb
    clear hO hb hs hbb HS HB
    go_upto_region 9 with fail
    obtain ⟨w1, hw⟩ : ∃ w1, v1.alloc (.cells #[.int .i64 n0, .slice B1 l0 k1] 24) = w1 := ⟨_, rfl⟩
    obtain ⟨b1, hb⟩ : ∃ b, v1.heap.size = b := ⟨_, rfl⟩
    rw [hw, hb] at HSn
    rw [hw] at HBn
    rw [hw, hb]
    clear hw hb
    rename Hid (Sets _ _) => HS
    rename Hid (Below w.heap.size w _) => HB
    have q0a := HS.out.hd.c0
    have q0b := HS.out.hd.c1
    have q1a := HS.out.tl.hd.c0
    have q1b := HS.out.tl.hd.c1
    go_wp2_with fail
    go_at_call 19
    refine (rvalid_b n0 A0 l0 c0 ws0 true HV _ HS.out.tl.hd.wd).mono ?_
    rintro e z1 ⟨rfl, hb⟩
    have HSn := Lib.hid (HS.out.next hb)
    have HBn := Lib.hid (HB.out.trans (hb.mono HB.out.size))
    clear hb HS HB
    rename Hid (Sets _ _) => HS
    rename Hid (Below w.heap.size w _) => HB
    clear q0a q0b q1a q1b
    have q0a := HS.out.hd.c0
    have q0b := HS.out.hd.c1
    have q1a := HS.out.tl.hd.c0
    have q1b := HS.out.tl.hd.c1
    go_wp2_with fail
    go_at_call 20
    refine (same_b n0 B1 l0 k1 ws0 n0 A0 l0 c0 ws0 true (same_val n0 ws0) (by omega) _ HS.out.hd.wd HS.out.tl.hd.wd).mono ?_
    rintro e z2 ⟨rfl, hb⟩
    have HSn := Lib.hid (HS.out.next hb)
    have HBn := Lib.hid (HB.out.trans (hb.mono HB.out.size))
    clear hb HS HB
    rename Hid (Sets _ _) => HS
    rename Hid (Below w.heap.size w _) => HB
    clear q0a q0b q1a q1b
    go_upto_region 11 with fail
    go_wp2_with fail
    go_at_call 45
    refine (parse_b tx (by omega) (.inr (by omega)) (Q1, Q2, Q3) HQ _ (HT.out.below HB.out)).mono ?_
    rintro e v2 ⟨⟨B2, k2, rfl, hO⟩, hb⟩
    simp only [HLQ.out] at hO ⊢
    obtain ⟨hs, hbb⟩ := HS.out.push HB.out (n := Q1) hO hb
    have HSn := Lib.hid hs
    have HBn := Lib.hid hbb
    clear hO hb hs hbb HS HB
    go_upto_region 12 with fail
    obtain ⟨w2, hw⟩ : ∃ w2, v2.alloc (.cells #[.int .i64 Q1, .slice B2 lQ k2] 24) = w2 := ⟨_, rfl⟩
    obtain ⟨b2, hb⟩ : ∃ b, v2.heap.size = b := ⟨_, rfl⟩
    rw [hw, hb] at HSn
    rw [hw] at HBn
    rw [hw, hb]
    clear hw hb
    rename Hid (Sets _ _) => HS
    rename Hid (Below w.heap.size w _) => HB
    go_wp2_with fail
    go_at_call 46
    refine (rparse_b tx (by omega) (Q1, Q2, Q3) HQ _).mono ?_
    rintro e v3 ⟨⟨B3, k3, rfl, hO⟩, hb⟩
    simp only [HLQ.out] at hO ⊢
    obtain ⟨hs, hbb⟩ := HS.out.push HB.out (n := Q1) hO hb
    have HSn := Lib.hid hs
    have HBn := Lib.hid hbb
    clear hO hb hs hbb HS HB
    go_upto_region 13 with fail
    obtain ⟨w3, hw⟩ : ∃ w3, v3.alloc (.cells #[.int .i64 Q1, .slice B3 lQ k3] 24) = w3 := ⟨_, rfl⟩
    obtain ⟨b3, hb⟩ : ∃ b, v3.heap.size = b := ⟨_, rfl⟩
    rw [hw, hb] at HSn
    rw [hw] at HBn
    rw [hw, hb]
    clear hw hb
    rename Hid (Sets _ _) => HS
    rename Hid (Below w.heap.size w _) => HB
    have hqq : (Q3 == Q3) = true := beq_self_eq_true _
    have q0a := HS.out.hd.c0
    have q0b := HS.out.hd.c1
    have q1a := HS.out.tl.hd.c0
    have q1b := HS.out.tl.hd.c1
    have q2a := HS.out.tl.tl.hd.c0
    have q2b := HS.out.tl.tl.hd.c1
    have q3a := HS.out.tl.tl.tl.hd.c0
    have q3b := HS.out.tl.tl.tl.hd.c1
    go_wp2_with fail
    go_at_call 20
    refine (same_b Q1 B2 lQ k2 Q2 Q1 B3 lQ k3 Q2 true (same_val Q1 Q2) (by omega) _ HS.out.tl.hd.wd HS.out.hd.wd).mono ?_
    rintro e z3 ⟨rfl, hb⟩
    have HSn := Lib.hid (HS.out.next hb)
    have HBn := Lib.hid (HB.out.trans (hb.mono HB.out.size))
    clear hb HS HB
    rename Hid (Sets _ _) => HS
    rename Hid (Below w.heap.size w _) => HB
    clear q0a q0b q1a q1b q2a q2b q3a q3b
    by_cases hq3 : Q3 = 0
    case neg =>
      have hd3 : (Q3 != 0) = true := by rw [bne_iff_ne]; exact hq3
      go_wp2_with fail
      go_ret
      exact ⟨rfl, HB.out⟩
    subst hq3
    obtain ⟨tq, htq⟩ : ∃ tq, textR Q1 Q2 = tq := ⟨_, rfl⟩
    have HTQ := Lib.hid htq
    have hxq : (⟨tq.toArray⟩ : ByteArray) = tx := bytes_ext (by rw [← htq]; exact par_back HQ.out)
    have HXQ := Lib.hid hxq
    have hselfx : (tx.toList == tx.toList) = true := beq_self_eq_true _
    clear htq hxq
    have q0a := HS.out.hd.c0
    have q0b := HS.out.hd.c1
    have q1a := HS.out.tl.hd.c0
    have q1b := HS.out.tl.hd.c1
    have q2a := HS.out.tl.tl.hd.c0
    have q2b := HS.out.tl.tl.hd.c1
    have q3a := HS.out.tl.tl.tl.hd.c0
    have q3b := HS.out.tl.tl.tl.hd.c1
    go_wp2_with fail
    go_at_call 43
    refine (text_b Q1 B2 lQ k2 Q2 tq HTQ _ (HT.out.tabs.below HB.out) HS.out.tl.hd.wd).mono ?_
    rintro e z4 ⟨rfl, hb⟩
    rw [HXQ.out]
    have HBn := Lib.hid (HB.out.trans (hb.mono HB.out.size))
    go_wp2_with fail
    go_ret
    exact ⟨rfl, HBn.out⟩
  · have HV := Lib.hid hv
    have HPR : Hid (Tx.parR tb.data.toList = (0, [], 6)) := by show _ = _; rw [HBD.out]; exact hpr
    have HIT : Hid ((∃ m ws, Tx.isText tb.data.toList m ws) ∨ tb.size ≤ 4000) := .inr (by rw [bytes_size, HBD.out]; exact hit)
    have HML : Hid (([] : List Nat).length = 0) := rfl
    clear hv hpr hit
    clear q0a q0b
    go_wp2_with fail
    go_at_call 45
    refine (parse_b tb hts HIT.out (0, [], 6) HPR _ (HT.out.below HB.out)).mono ?_
    rintro e v1 ⟨⟨B1, k1, rfl, hO⟩, hb⟩
    simp only [HML.out] at hO ⊢
    obtain ⟨hs, hbb⟩ := HS.out.push HB.out (n := (0 : Int)) (ws := []) hO hb
    have HSn := Lib.hid hs
    have HBn := Lib.hid hbb
    clear hO hb hs hbb HS HB
    go_upto_region 9 with fail
    obtain ⟨w1, hw⟩ : ∃ w1, v1.alloc (.cells #[.int .i64 0, .slice B1 0 k1] 24) = w1 := ⟨_, rfl⟩
    obtain ⟨b1, hb⟩ : ∃ b, v1.heap.size = b := ⟨_, rfl⟩
    rw [hw, hb] at HSn
    rw [hw] at HBn
    rw [hw, hb]
    clear hw hb
    rename Hid (Sets _ _) => HS
    rename Hid (Below w.heap.size w _) => HB
    have q0a := HS.out.hd.c0
    have q0b := HS.out.hd.c1
    have q1a := HS.out.tl.hd.c0
    have q1b := HS.out.tl.hd.c1
    go_wp2_with fail
    go_at_call 19
    refine (rvalid_b n0 A0 l0 c0 ws0 false HV _ HS.out.tl.hd.wd).mono ?_
    rintro e z1 ⟨rfl, hb⟩
    have HSn := Lib.hid (HS.out.next hb)
    have HBn := Lib.hid (HB.out.trans (hb.mono HB.out.size))
    clear hb HS HB
    rename Hid (Sets _ _) => HS
    rename Hid (Below w.heap.size w _) => HB
    clear q0a q0b q1a q1b
    go_upto_region 11 with fail
    go_wp2_with fail
    go_at_call 45
    refine (parse_b tx (by omega) (.inr (by omega)) (Q1, Q2, Q3) HQ _ (HT.out.below HB.out)).mono ?_
    rintro e v2 ⟨⟨B2, k2, rfl, hO⟩, hb⟩
    simp only [HLQ.out] at hO ⊢
    obtain ⟨hs, hbb⟩ := HS.out.push HB.out (n := Q1) hO hb
    have HSn := Lib.hid hs
    have HBn := Lib.hid hbb
    clear hO hb hs hbb HS HB
    go_upto_region 12 with fail
    obtain ⟨w2, hw⟩ : ∃ w2, v2.alloc (.cells #[.int .i64 Q1, .slice B2 lQ k2] 24) = w2 := ⟨_, rfl⟩
    obtain ⟨b2, hb⟩ : ∃ b, v2.heap.size = b := ⟨_, rfl⟩
    rw [hw, hb] at HSn
    rw [hw] at HBn
    rw [hw, hb]
    clear hw hb
    rename Hid (Sets _ _) => HS
    rename Hid (Below w.heap.size w _) => HB
    go_wp2_with fail
    go_at_call 46
    refine (rparse_b tx (by omega) (Q1, Q2, Q3) HQ _).mono ?_
    rintro e v3 ⟨⟨B3, k3, rfl, hO⟩, hb⟩
    simp only [HLQ.out] at hO ⊢
    obtain ⟨hs, hbb⟩ := HS.out.push HB.out (n := Q1) hO hb
    have HSn := Lib.hid hs
    have HBn := Lib.hid hbb
    clear hO hb hs hbb HS HB
    go_upto_region 13 with fail
    obtain ⟨w3, hw⟩ : ∃ w3, v3.alloc (.cells #[.int .i64 Q1, .slice B3 lQ k3] 24) = w3 := ⟨_, rfl⟩
    obtain ⟨b3, hb⟩ : ∃ b, v3.heap.size = b := ⟨_, rfl⟩
    rw [hw, hb] at HSn
    rw [hw] at HBn
    rw [hw, hb]
    clear hw hb
    rename Hid (Sets _ _) => HS
    rename Hid (Below w.heap.size w _) => HB
    have hqq : (Q3 == Q3) = true := beq_self_eq_true _
    have q0a := HS.out.hd.c0
    have q0b := HS.out.hd.c1
    have q1a := HS.out.tl.hd.c0
    have q1b := HS.out.tl.hd.c1
    have q2a := HS.out.tl.tl.hd.c0
    have q2b := HS.out.tl.tl.hd.c1
    have q3a := HS.out.tl.tl.tl.hd.c0
    have q3b := HS.out.tl.tl.tl.hd.c1
    go_wp2_with fail
    go_at_call 20
    refine (same_b Q1 B2 lQ k2 Q2 Q1 B3 lQ k3 Q2 true (same_val Q1 Q2) (by omega) _ HS.out.tl.hd.wd HS.out.hd.wd).mono ?_
    rintro e z3 ⟨rfl, hb⟩
    have HSn := Lib.hid (HS.out.next hb)
    have HBn := Lib.hid (HB.out.trans (hb.mono HB.out.size))
    clear hb HS HB
    rename Hid (Sets _ _) => HS
    rename Hid (Below w.heap.size w _) => HB
    clear q0a q0b q1a q1b q2a q2b q3a q3b
    by_cases hq3 : Q3 = 0
    case neg =>
      have hd3 : (Q3 != 0) = true := by rw [bne_iff_ne]; exact hq3
      go_wp2_with fail
      go_ret
      exact ⟨rfl, HB.out⟩
    subst hq3
    obtain ⟨tq, htq⟩ : ∃ tq, textR Q1 Q2 = tq := ⟨_, rfl⟩
    have HTQ := Lib.hid htq
    have hxq : (⟨tq.toArray⟩ : ByteArray) = tx := bytes_ext (by rw [← htq]; exact par_back HQ.out)
    have HXQ := Lib.hid hxq
    have hselfx : (tx.toList == tx.toList) = true := beq_self_eq_true _
    clear htq hxq
    have q0a := HS.out.hd.c0
    have q0b := HS.out.hd.c1
    have q1a := HS.out.tl.hd.c0
    have q1b := HS.out.tl.hd.c1
    have q2a := HS.out.tl.tl.hd.c0
    have q2b := HS.out.tl.tl.hd.c1
    have q3a := HS.out.tl.tl.tl.hd.c0
    have q3b := HS.out.tl.tl.tl.hd.c1
    go_wp2_with fail
    go_at_call 43
    refine (text_b Q1 B2 lQ k2 Q2 tq HTQ _ (HT.out.tabs.below HB.out) HS.out.tl.hd.wd).mono ?_
    rintro e z4 ⟨rfl, hb⟩
    rw [HXQ.out]
    have HBn := Lib.hid (HB.out.trans (hb.mono HB.out.size))
    go_wp2_with fail
    go_ret
    exact ⟨rfl, HBn.out⟩
end Go.Proofs.YtpapbpekihgnlaaDoor
