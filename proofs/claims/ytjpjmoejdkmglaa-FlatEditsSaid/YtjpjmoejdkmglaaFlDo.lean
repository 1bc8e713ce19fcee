/-
  The walk over the law FlatEdits.
-/
import Derived.Test.YtjpjmoejdkmglaaJM
import Derived.Test.YtjpjmoejdkmglaaJL
import Derived.Test.YtjpjmoejdkmglaaJD
import Derived.Test.YtjpjmoejdkmglaaJE
namespace Go.Proofs.Ytjpjmoejdkmglaa
open Go.RowKit

mutual
theorem sO_bd (N : Nat) : ∀ (x : Int) (k : Sp), x ≤ (N : Int) → 0 ≤ sO x k → bdO N k
  | x, .mk d c v n t th el bs, hx, h => by
    rw [sO] at h
    split at h
    · omega
    · rename_i hb
      have h1 := lT_in (x - 1) t
      have h2 := sL_in (lT (x - 1) t - (bs.length : Int)) th
      have h3 := sL_in (sL (lT (x - 1) t - (bs.length : Int)) th) el
      rw [bdO]
      exact ⟨by omega, sL_bd N (lT (x - 1) t - (bs.length : Int)) th (by omega) (by omega), sL_bd N _ el (by omega) h⟩
theorem sL_bd (N : Nat) : ∀ (x : Int) (ks : List Sp), x ≤ (N : Int) → 0 ≤ sL x ks → bdL N ks
  | _, [], _, _ => by rw [bdL]; trivial
  | x, k :: ks, hx, h => by
    rw [sL] at h
    split at h
    · rename_i e
      have h1 := sO_in x k e
      have h2 := sL_in (sO x k) ks
      rw [bdL]
      exact ⟨sO_bd N x k hx (by omega), sL_bd N _ ks (by omega) h⟩
    · omega
end
theorem few_bd {vs : List Vr} {hs : List Ht} {ks : List Sp} {a x : Int} (h : fewB vs hs ks a x = true) (N : Nat) (hx : x ≤ (N : Int)) : bdL N ks := by
  unfold fewB at h
  split at h
  · cases h
  · have h0 := of_decide_eq_true h
    have h3 := (lH_in (sL x ks) hs).1
    exact sL_bd N x ks hx (by omega)
theorem one_step {W : World} {b : Nat} {s : Sp} {d x1 v n o tn : Int} {tk : List Tm} {th el : List Sp} {bs : List Int} {At : Option Addr} {lt ct : Nat} {Ah : Option Addr} {lh ch : Nat} {Ae : Option Addr} {le ce : Nat} {Ab : Option Addr} {lb cb : Nat} (hc : Cs W b [.int .i64 d, .int .i64 x1, .int .i64 v, .int .i64 n, .int .i64 o, .int .i64 tn, .slice At lt ct, .slice Ah lh ch, .slice Ae le ce, .slice Ab lb cb]) (hs : s = .mk d x1 v n (.mk o tn tk) th el bs) (h1 : tk.length = lt) (h2 : th.length = lh) (h3 : el.length = le) (h4 : bs.length = lb) (ht : TOk W At ct tk) (hh : SOk W Ah ch th) (he : SOk W Ae ce el) (hz : Zs W Ab lb cb bs) : SOk W (some ⟨b, 0, none⟩) 1 [s] := by
  subst hs h1 h2 h3 h4
  refine ⟨Nat.le_refl _, by decide, ?_⟩
  rw [Sd]
  refine ⟨?_, by rw [Sd]; trivial⟩
  exact ⟨b, 0, At, ct, Ah, ch, Ae, ce, Ab, cb, rfl, hc.lt, ⟨hc.at 0 _ rfl, hc.at 1 _ rfl, hc.at 2 _ rfl, hc.at 3 _ rfl, hc.at 4 _ rfl, hc.at 5 _ rfl, hc.at 6 _ rfl, hc.at 7 _ rfl, hc.at 8 _ rfl, hc.at 9 _ rfl⟩, ht, hh, he, hz⟩
theorem one_zero {W : World} {b : Nat} (hc : Cs W b [.int .i64 0, .int .i64 0, .int .i64 0, .int .i64 0, .int .i64 0, .int .i64 0, .slice none 0 0, .slice none 0 0, .slice none 0 0, .slice none 0 0]) : SOk W (some ⟨b, 0, none⟩) 1 [.mk 0 0 0 0 (.mk 0 0 []) [] [] []] :=
  one_step hc rfl rfl rfl rfl rfl (TOk.nil _) (SOk.nil _) (SOk.nil _) (Zs.nil _)
theorem hcnt_mem : ∀ {hs : List Ht} {h : Ht}, h ∈ hs → h.t.cnt ≤ hcnt hs
  | [], _, h => absurd h (by simp)
  | k :: hs, h, hin => by
    rw [hcnt]
    rcases List.mem_cons.1 hin with rfl | hin
    · omega
    · have := hcnt_mem hin; omega
/-- What stands behind the making of the expected program. -/
def EdCut (wp : World) (Av : Option Addr) (lv cv : Nat) (Ag : Option Addr) (lg cg l3 : Nat) (ks2 : List Sp) (u : Value) (wc : World) : Prop := ∃ (qh : Nat) (A9 : Option Addr) (c9 : Nat), u = .pointer (some ⟨qh, 0, none⟩) ∧ Below wp.heap.size wp wc ∧ Cs wc qh [.slice Av lv cv, .slice Ag lg cg, .slice A9 l3 c9] ∧ SOk wc A9 c9 ks2
theorem edA {w wp wd : World} {Av : Option Addr} {lv cv : Nat} {Ag : Option Addr} {lg cg l3 l9 : Nat} {ks2 : List Sp} {A9 : Option Addr} {c9 : Nat} (h1 : Below (wp.drew.alloc (.cells #[.slice none 0 0, .slice none 0 0, .slice none 0 0] 26)).heap.size (wp.drew.alloc (.cells #[.slice none 0 0, .slice none 0 0, .slice none 0 0] 26)) wd) (hs : SOkN (fun b => b < w.heap.size ∨ (wp.drew.alloc (.cells #[.slice none 0 0, .slice none 0 0, .slice none 0 0] 26)).heap.size ≤ b) wd A9 c9 ks2) (hw : w.heap.size ≤ wp.heap.size) (h3 : ks2.length = l3) (h9 : ks2.length = l9) :
    EdCut wp Av lv cv Ag lg cg l3 ks2 (.pointer (some ⟨wp.heap.size, 0, none⟩)) (((wd.setCell ⟨wp.heap.size, 0, none⟩ (.slice Av lv cv)).setCell ⟨wp.heap.size, 1, none⟩ (.slice Ag lg cg)).setCell ⟨wp.heap.size, 2, none⟩ (.slice A9 l9 c9)) := by
  have h0 : Below wp.heap.size wp (wp.drew.alloc (.cells #[.slice none 0 0, .slice none 0 0, .slice none 0 0] 26)) := (Below.refl wp.heap.size wp).drew.alloc (Nat.le_refl _) _
  have hz : (wp.drew.alloc (.cells #[.slice none 0 0, .slice none 0 0, .slice none 0 0] 26)).heap.size = wp.heap.size + 1 := by simp
  have hc : Cs wd wp.heap.size [.slice none 0 0, .slice none 0 0, .slice none 0 0] := (Cs.new wp.drew #[.slice none 0 0, .slice none 0 0, .slice none 0 0] 26).next h1
  have hl : l9 = l3 := by rw [← h9, ← h3]
  subst hl
  exact ⟨_, A9, c9, rfl, below_q3 (h0.trans (h1.mono h0.size)) (Nat.le_refl _) _ _ _, hc.set3 _ _ _, (hs.to (keeps_st3 (fun x hx => by omega) _ _ _)).ok⟩
theorem edB {w wp wd : World} {Av : Option Addr} {lv cv : Nat} {Ag : Option Addr} {lg cg l3 l9 : Nat} {ks2 : List Sp} {A9 : Option Addr} {c9 : Nat} (h1 : Below wp.drew.heap.size wp.drew wd) (hs : SOkN (fun b => b < w.heap.size ∨ wp.drew.heap.size ≤ b) wd A9 c9 ks2) (h3 : ks2.length = l3) (h9 : ks2.length = l9) :
    EdCut wp Av lv cv Ag lg cg l3 ks2 (.pointer (some ⟨wd.heap.size, 0, none⟩)) (wd.alloc (.cells #[.slice Av lv cv, .slice Ag lg cg, .slice A9 l9 c9] 26)) := by
  have h0 : Below wp.heap.size wp wd := (Below.refl wp.heap.size wp).drew.trans h1
  have hl : l9 = l3 := by rw [← h9, ← h3]
  subst hl
  have ha := (Below.refl wd.heap.size wd).alloc (Nat.le_refl _) (.cells #[.slice Av lv cv, .slice Ag lg cg, .slice A9 l9 c9] 26)
  exact ⟨_, A9, c9, rfl, h0.trans (ha.mono h0.size), Cs.new wd #[.slice Av lv cv, .slice Ag lg cg, .slice A9 l9 c9] 26, (hs.to (Keeps.below ha)).ok⟩

set_option maxRecDepth 100000 in
set_option maxHeartbeats 16000000 in
theorem edits_walk (vs : List Vr) (hs : List Ht) (ks : List Sp) (i : Int) (Av : Option Addr) (lv cv : Nat) (Ag : Option Addr) (lg cg : Nat) (Ay : Option Addr) (ly cy : Nat) (w : World) (hv : VOk w Av lv cv vs) (hh : HOk w Ag lg cg hs) (hl : ks.length = ly) (hk : SOk w Ay cy ks) :
    Calls Try.prog 9 #[.agg #[.slice Av lv cv, .slice Ag lg cg, .slice Ay ly cy], .int .i64 i] w fun e w' => e = .returned (.bool true) ∧ Below w.heap.size w w' := by
  have hba := (Below.refl w.heap.size w).alloc (Nat.le_refl _) (.cells #[.slice Av lv cv, .slice Ag lg cg, .slice Ay ly cy] 26)
  have HB := Lib.hid hba
  have HC := Lib.hid (Cs.new w #[.slice Av lv cv, .slice Ag lg cg, .slice Ay ly cy] 26)
  have HV := Lib.hid hv
  have HHS := Lib.hid hh
  have HK := Lib.hid hk
  have HL := Lib.hid hl
  have HVL := Lib.hid hv.len
  have HHL := Lib.hid hh.len
  obtain ⟨b, hbf⟩ : ∃ z, fewB vs hs ks 20 300 = z := ⟨_, rfl⟩
  obtain ⟨r, hr⟩ : ∃ z, sizeL ks = z := ⟨_, rfl⟩
  have HFW := Lib.hid hbf
  have HR := Lib.hid hr
  clear hba hv hh hk hl hbf hr
  go_enter Try.func9, Try.ntmps9
  go_upto_region 1 with fail
  obtain ⟨w1, hw1⟩ : ∃ w1, w.alloc (.cells #[.slice Av lv cv, .slice Ag lg cg, .slice Ay ly cy] 26) = w1 := ⟨_, rfl⟩
  obtain ⟨p, hp⟩ : ∃ p, w.heap.size = p := ⟨_, rfl⟩
  have HPS := Lib.hid hp
  rw [hw1] at HB HC
  rw [hp] at HC
  rw [hw1, hp]
  clear hw1 hp
  go_wp2_with fail
  go_at_call 10
  refine (known_b _).mono ?_
  rintro e w2 ⟨rfl, hb⟩
  have HB2 := Lib.hid (HB.out.trans (hb.mono HB.out.size))
  have HC2 := Lib.hid (HC.out.next hb)
  clear hb HB HC 
  have f0 := HC2.out.at 0 _ rfl
  have f1 := HC2.out.at 1 _ rfl
  have f2 := HC2.out.at 2 _ rfl
  go_wp2_with fail
  go_at_call 11
  refine (Few_b vs hs ks 20 300 Av lv cv Ag lg cg Ay ly cy _ HVL.out (HHS.out.below HB2.out) HL.out (HK.out.below HB2.out) (by omega) (by omega) (by omega) b HFW).mono ?_
  rintro e w3 ⟨rfl, hb⟩
  have HB3 := Lib.hid (HB2.out.trans (hb.mono HB2.out.size))
  have HC3 := Lib.hid (HC2.out.next hb)
  clear hb HB2 HC2 f0 f1 f2
  have f0 := HC3.out.at 0 _ rfl
  have f1 := HC3.out.at 1 _ rfl
  have f2 := HC3.out.at 2 _ rfl
  cases b with
  | false =>
    go_wp2_with fail
    go_ret
    exact ⟨rfl, HB3.out⟩
  | true =>
  obtain ⟨hm1, hm2, hm3⟩ := few_small HFW.out
  have HBD := Lib.hid (few_bd HFW.out 1000 (by omega))
  have hlv : lv ≤ 20 := by have := HVL.out; omega
  have hlg : lg ≤ 20 := by have := HHL.out; omega
  have HCN : Hid (Sp.cntL ks ≤ 1000000) := Lib.hid (by omega)
  have HHM : Hid (∀ h ∈ hs, Tm.cnt h.t ≤ 1000000) := Lib.hid (fun h hin => by have := hcnt_mem hin; omega)
  have HRM : Hid (r ≤ 1000000) := Lib.hid (by rw [← HR.out]; exact Nat.le_trans (sizeL_cnt ks) HCN.out)
  clear hm1 hm2 hm3
  go_wp2_with fail
  go_at_call 26
  refine (rsize_steps (Sp.cntL ks) ks ly Ay cy _ r HL.out (Nat.le_refl _) HCN.out (HK.out.below HB3.out) HR).mono ?_
  rintro e w4 ⟨rfl, hb⟩
  have HB4 := Lib.hid (HB3.out.trans (hb.mono HB3.out.size))
  have HC4 := Lib.hid (HC3.out.next hb)
  clear hb HB3 HC3 f0 f1 f2
  have f0 := HC4.out.at 0 _ rfl
  have f1 := HC4.out.at 1 _ rfl
  have f2 := HC4.out.at 2 _ rfl
  have hq : ((r : Int) != (r : Int)) = false := bne_self _
  go_wp2_with fail
  go_at_call 27
  refine (Size_b Av lv cv Ag lg cg Ay ly cy ks _ HL.out HCN.out (HK.out.below HB4.out) r HR).mono ?_
  rintro e w5 ⟨rfl, hb⟩
  have HB5 := Lib.hid (HB4.out.trans (hb.mono HB4.out.size))
  have HC5 := Lib.hid (HC4.out.next hb)
  clear hb HB4 HC4 f0 f1 f2
  have f0 := HC5.out.at 0 _ rfl
  have f1 := HC5.out.at 1 _ rfl
  have f2 := HC5.out.at 2 _ rfl
  by_cases hin : 0 ≤ i ∧ i < (r : Int)
  case neg =>
    have HOUT : Hid (i < 0 ∨ (sizeL ks : Nat) ≤ i) := Lib.hid (by rw [HR.out]; omega)
    clear hq
    go_wp2_with fail
    go_at_call 28
    refine (At_none ks i Av lv cv Ag lg cg Ay ly cy _ HL.out HCN.out (HK.out.below HB5.out) HOUT.out).mono ?_
    rintro e w6 ⟨rfl, hb0⟩
    have hb := hb0.alloc hb0.size (.cells #[.int .i64 0, .int .i64 0, .int .i64 0, .int .i64 0, .int .i64 0, .int .i64 0, .slice none 0 0, .slice none 0 0, .slice none 0 0, .slice none 0 0] 53)
    have HS7 := Lib.hid (Cs.new w6 #[.int .i64 0, .int .i64 0, .int .i64 0, .int .i64 0, .int .i64 0, .int .i64 0, .slice none 0 0, .slice none 0 0, .slice none 0 0, .slice none 0 0] 53)
    clear hb0
    have HB7 := Lib.hid (HB5.out.trans (hb.mono HB5.out.size))
    have HC7 := Lib.hid (HC5.out.next hb)
    clear hb HB5 HC5 f0 f1 f2
    go_upto_region 9 with fail
    obtain ⟨w7, hw7⟩ : ∃ w7, w6.alloc (.cells #[.int .i64 0, .int .i64 0, .int .i64 0, .int .i64 0, .int .i64 0, .int .i64 0, .slice none 0 0, .slice none 0 0, .slice none 0 0, .slice none 0 0] 53) = w7 := ⟨_, rfl⟩
    obtain ⟨qs, hqs⟩ : ∃ q, w6.heap.size = q := ⟨_, rfl⟩
    rw [hw7] at HB7 HC7 HS7
    rw [hqs] at HS7
    rw [hw7, hqs]
    clear hw7 hqs
    have f0 := HC7.out.at 0 _ rfl
    have f1 := HC7.out.at 1 _ rfl
    have f2 := HC7.out.at 2 _ rfl
    go_wp2_with fail
    go_at_call 29
    refine (Remove_none ks i Av lv cv Ag lg cg Ay ly cy _ HL.out HCN.out (HK.out.below HB7.out) HOUT.out).mono ?_
    rintro e w8 ⟨rfl, hb0⟩
    have hb := hb0.alloc hb0.size (.cells #[.slice none 0 0, .slice none 0 0, .slice none 0 0] 26)
    have HG9 := Lib.hid (Cs.new w8 #[.slice none 0 0, .slice none 0 0, .slice none 0 0] 26)
    clear hb0
    have HB9 := Lib.hid (HB7.out.trans (hb.mono HB7.out.size))
    have HC9 := Lib.hid (HC7.out.next hb)
    have HS9 := Lib.hid (HS7.out.next hb)
    clear hb HB7 HC7 HS7 f0 f1 f2
    go_upto_region 10 with fail
    obtain ⟨w9, hw9⟩ : ∃ w9, w8.alloc (.cells #[.slice none 0 0, .slice none 0 0, .slice none 0 0] 26) = w9 := ⟨_, rfl⟩
    obtain ⟨qg, hqg⟩ : ∃ q, w8.heap.size = q := ⟨_, rfl⟩
    rw [hw9] at HB9 HC9 HS9 HG9
    rw [hqg] at HG9
    rw [hw9, hqg]
    clear hw9 hqg
    have s0 := HS9.out.at 0 _ rfl; have s1 := HS9.out.at 1 _ rfl; have s2 := HS9.out.at 2 _ rfl; have s3 := HS9.out.at 3 _ rfl; have s4 := HS9.out.at 4 _ rfl; have s5 := HS9.out.at 5 _ rfl; have s6 := HS9.out.at 6 _ rfl; have s7 := HS9.out.at 7 _ rfl; have s8 := HS9.out.at 8 _ rfl; have s9 := HS9.out.at 9 _ rfl
    have g0 := HG9.out.at 0 _ rfl; have g1 := HG9.out.at 1 _ rfl; have g2 := HG9.out.at 2 _ rfl
    have t1 : i < 0 ∨ ¬ i < 0 := Classical.em _
    have fin : True := trivial
    rcases t1 with t1 | t1
    · have t2 := decide_eq_true t1
      go_wp2_with fail
      go_at_call 30
      refine (requal_same [] [] [] 0 0 0 none none none none none none 0 0 0 0 0 0 _ rfl (VOk.nil _) (HOk.nil _) (SOk.nil _) (VOk.nil _) (HOk.nil _) (SOk.nil _)).mono ?_
      rintro e wa ⟨rfl, hb⟩
      have HBa := Lib.hid (HB9.out.trans (hb.mono HB9.out.size))
      have HCa := Lib.hid (HC9.out.next hb)
      have HSa := Lib.hid (HS9.out.next hb)
      clear hb HB9 HC9 HS9 s0 s1 s2 s3 s4 s5 s6 s7 s8 s9 g0 g1 g2
      have s0 := HSa.out.at 0 _ rfl; have s1 := HSa.out.at 1 _ rfl; have s2 := HSa.out.at 2 _ rfl; have s3 := HSa.out.at 3 _ rfl; have s4 := HSa.out.at 4 _ rfl; have s5 := HSa.out.at 5 _ rfl; have s6 := HSa.out.at 6 _ rfl; have s7 := HSa.out.at 7 _ rfl; have s8 := HSa.out.at 8 _ rfl; have s9 := HSa.out.at 9 _ rfl
      have hb1 := (Below.refl wa.heap.size wa).alloc (Nat.le_refl _) (.cells #[.int .i64 0, .int .i64 0, .int .i64 0, .int .i64 0, .int .i64 0, .int .i64 0, .slice none 0 0, .slice none 0 0, .slice none 0 0, .slice none 0 0] 53)
      have hb2 := hb1.alloc hb1.size (.cells #[.int .i64 0, .int .i64 0, .int .i64 0, .int .i64 0, .int .i64 0, .int .i64 0, .slice none 0 0, .slice none 0 0, .slice none 0 0, .slice none 0 0] 53)
      have HX := Lib.hid (one_zero ((Cs.new wa #[.int .i64 0, .int .i64 0, .int .i64 0, .int .i64 0, .int .i64 0, .int .i64 0, .slice none 0 0, .slice none 0 0, .slice none 0 0, .slice none 0 0] 53).alloc (.cells #[.int .i64 0, .int .i64 0, .int .i64 0, .int .i64 0, .int .i64 0, .int .i64 0, .slice none 0 0, .slice none 0 0, .slice none 0 0, .slice none 0 0] 53)))
      have HY := Lib.hid (one_zero (Cs.new1 wa (.cells #[.int .i64 0, .int .i64 0, .int .i64 0, .int .i64 0, .int .i64 0, .int .i64 0, .slice none 0 0, .slice none 0 0, .slice none 0 0, .slice none 0 0] 53) #[.int .i64 0, .int .i64 0, .int .i64 0, .int .i64 0, .int .i64 0, .int .i64 0, .slice none 0 0, .slice none 0 0, .slice none 0 0, .slice none 0 0] 53))
      have HBb := Lib.hid (HBa.out.trans (hb2.mono HBa.out.size))
      clear hb1 hb2
      go_wp2_with fail
      go_at_call 31
      refine (requalSteps_any 100 [.mk 0 0 0 0 (.mk 0 0 []) [] [] []] [.mk 0 0 0 0 (.mk 0 0 []) [] [] []] 1 1 (some ⟨wa.heap.size, 0, none⟩) (some ⟨wa.heap.size + 1, 0, none⟩) 1 1 _ true rfl rfl (by decide) HX.out HY.out (Lib.hid ((eqSL_iff _ _).2 rfl))).mono ?_
      rintro e wb ⟨rfl, hb⟩
      have HBc := Lib.hid (HBb.out.trans (hb.mono HBb.out.size))
      clear hb
      go_wp2_with fail
      go_ret
      exact ⟨rfl, HBc.out⟩
    · have t2 := decide_eq_false t1
      have t3 : (r : Int) ≤ i := by omega
      have t4 := decide_eq_true t3
      go_wp2_with fail
      go_at_call 30
      refine (requal_same [] [] [] 0 0 0 none none none none none none 0 0 0 0 0 0 _ rfl (VOk.nil _) (HOk.nil _) (SOk.nil _) (VOk.nil _) (HOk.nil _) (SOk.nil _)).mono ?_
      rintro e wa ⟨rfl, hb⟩
      have HBa := Lib.hid (HB9.out.trans (hb.mono HB9.out.size))
      have HCa := Lib.hid (HC9.out.next hb)
      have HSa := Lib.hid (HS9.out.next hb)
      clear hb HB9 HC9 HS9 s0 s1 s2 s3 s4 s5 s6 s7 s8 s9 g0 g1 g2
      have s0 := HSa.out.at 0 _ rfl; have s1 := HSa.out.at 1 _ rfl; have s2 := HSa.out.at 2 _ rfl; have s3 := HSa.out.at 3 _ rfl; have s4 := HSa.out.at 4 _ rfl; have s5 := HSa.out.at 5 _ rfl; have s6 := HSa.out.at 6 _ rfl; have s7 := HSa.out.at 7 _ rfl; have s8 := HSa.out.at 8 _ rfl; have s9 := HSa.out.at 9 _ rfl
      have hb1 := (Below.refl wa.heap.size wa).alloc (Nat.le_refl _) (.cells #[.int .i64 0, .int .i64 0, .int .i64 0, .int .i64 0, .int .i64 0, .int .i64 0, .slice none 0 0, .slice none 0 0, .slice none 0 0, .slice none 0 0] 53)
      have hb2 := hb1.alloc hb1.size (.cells #[.int .i64 0, .int .i64 0, .int .i64 0, .int .i64 0, .int .i64 0, .int .i64 0, .slice none 0 0, .slice none 0 0, .slice none 0 0, .slice none 0 0] 53)
      have HX := Lib.hid (one_zero ((Cs.new wa #[.int .i64 0, .int .i64 0, .int .i64 0, .int .i64 0, .int .i64 0, .int .i64 0, .slice none 0 0, .slice none 0 0, .slice none 0 0, .slice none 0 0] 53).alloc (.cells #[.int .i64 0, .int .i64 0, .int .i64 0, .int .i64 0, .int .i64 0, .int .i64 0, .slice none 0 0, .slice none 0 0, .slice none 0 0, .slice none 0 0] 53)))
      have HY := Lib.hid (one_zero (Cs.new1 wa (.cells #[.int .i64 0, .int .i64 0, .int .i64 0, .int .i64 0, .int .i64 0, .int .i64 0, .slice none 0 0, .slice none 0 0, .slice none 0 0, .slice none 0 0] 53) #[.int .i64 0, .int .i64 0, .int .i64 0, .int .i64 0, .int .i64 0, .int .i64 0, .slice none 0 0, .slice none 0 0, .slice none 0 0, .slice none 0 0] 53))
      have HBb := Lib.hid (HBa.out.trans (hb2.mono HBa.out.size))
      clear hb1 hb2
      go_wp2_with fail
      go_at_call 31
      refine (requalSteps_any 100 [.mk 0 0 0 0 (.mk 0 0 []) [] [] []] [.mk 0 0 0 0 (.mk 0 0 []) [] [] []] 1 1 (some ⟨wa.heap.size, 0, none⟩) (some ⟨wa.heap.size + 1, 0, none⟩) 1 1 _ true rfl rfl (by decide) HX.out HY.out (Lib.hid ((eqSL_iff _ _).2 rfl))).mono ?_
      rintro e wb ⟨rfl, hb⟩
      have HBc := Lib.hid (HBb.out.trans (hb.mono HBb.out.size))
      clear hb
      go_wp2_with fail
      go_ret
      exact ⟨rfl, HBc.out⟩
  case pos =>
    obtain ⟨j, hj⟩ : ∃ j : Nat, i = (j : Int) := ⟨i.toNat, by omega⟩
    subst hj
    have hjr : j < r := by omega
    obtain ⟨s, hsj⟩ : ∃ s, (preL ks)[j]? = some s := ⟨_, List.getElem?_eq_getElem (by rw [preL_len, HR.out]; exact hjr)⟩
    have HSJ := Lib.hid hsj
    have HIN : Hid (0 ≤ (j : Int) ∧ (j : Int) < (sizeL ks : Nat)) := Lib.hid (by rw [HR.out]; omega)
    clear hin hq hsj
    go_wp2_with fail
    go_at_call 28
    refine (At_some ks (j : Int) Av lv cv Ag lg cg Ay ly cy _ HL.out HCN.out (HK.out.below HB5.out) HBD.out j s HSJ.out rfl).mono ?_
    rintro e w6 ⟨vv, rfl, hsv, hb0⟩
    obtain ⟨d, x1, v, n, o, tn, tk, th, el, bs, At, ct, Ah, ch, Ae, ce, Ab, cb, hse, rfl, st, sh, se, sz⟩ := hsv
    have hb := hb0.alloc hb0.size (.cells #[.int .i64 d, .int .i64 x1, .int .i64 v, .int .i64 n, .int .i64 o, .int .i64 tn, .slice At tk.length ct, .slice Ah th.length ch, .slice Ae el.length ce, .slice Ab bs.length cb] 53)
    have hb2 := (Below.refl w6.heap.size w6).alloc (Nat.le_refl _) (.cells #[.int .i64 d, .int .i64 x1, .int .i64 v, .int .i64 n, .int .i64 o, .int .i64 tn, .slice At tk.length ct, .slice Ah th.length ch, .slice Ae el.length ce, .slice Ab bs.length cb] 53)
    have HS7 := Lib.hid (Cs.new w6 #[.int .i64 d, .int .i64 x1, .int .i64 v, .int .i64 n, .int .i64 o, .int .i64 tn, .slice At tk.length ct, .slice Ah th.length ch, .slice Ae el.length ce, .slice Ab bs.length cb] 53)
    have HM7 := Lib.hid (And.intro (st.ok.below hb2) (And.intro (sh.ok.below hb2) (And.intro (se.ok.below hb2) (sz.1.below hb2))))
    have HSE := Lib.hid hse
    clear hb0 hb2 st sh se sz hse
    have HB7 := Lib.hid (HB5.out.trans (hb.mono HB5.out.size))
    have HC7 := Lib.hid (HC5.out.next hb)
    clear hb HB5 HC5 f0 f1 f2
    go_upto_region 9 with fail
    obtain ⟨w7, hw7⟩ : ∃ w7, w6.alloc (.cells #[.int .i64 d, .int .i64 x1, .int .i64 v, .int .i64 n, .int .i64 o, .int .i64 tn, .slice At tk.length ct, .slice Ah th.length ch, .slice Ae el.length ce, .slice Ab bs.length cb] 53) = w7 := ⟨_, rfl⟩
    obtain ⟨qs, hqs⟩ : ∃ q, w6.heap.size = q := ⟨_, rfl⟩
    rw [hw7] at HB7 HC7 HS7 HM7
    rw [hqs] at HS7
    rw [hw7, hqs]
    clear hw7 hqs
    have f0 := HC7.out.at 0 _ rfl
    have f1 := HC7.out.at 1 _ rfl
    have f2 := HC7.out.at 2 _ rfl
    go_wp2_with fail
    go_at_call 29
    refine (Remove_some vs hs ks (j : Int) Av lv cv Ag lg cg Ay ly cy _ HL.out HCN.out (HK.out.below HB7.out) (HV.out.below HB7.out) (HHS.out.below HB7.out) HBD.out (by omega) (by omega) HHM.out HIN.out).mono ?_
    rintro e w8 ⟨A1, c1, A2, c2, A3, l3, c3, rfl, kv, kh, kk, kl, hb0⟩
    have hb := hb0.alloc hb0.size (.cells #[.slice A1 lv c1, .slice A2 lg c2, .slice A3 l3 c3] 26)
    have hb2 := (Below.refl w8.heap.size w8).alloc (Nat.le_refl _) (.cells #[.slice A1 lv c1, .slice A2 lg c2, .slice A3 l3 c3] 26)
    have HG9 := Lib.hid (Cs.new w8 #[.slice A1 lv c1, .slice A2 lg c2, .slice A3 l3 c3] 26)
    have HKK9 := Lib.hid (And.intro (kv.below hb2) (And.intro (kh.below hb2) (kk.below hb2)))
    have HKL := Lib.hid kl
    have HM9 := Lib.hid (And.intro (HM7.out.1.below hb) (And.intro (HM7.out.2.1.below hb) (And.intro (HM7.out.2.2.1.below hb) (HM7.out.2.2.2.below hb))))
    clear hb0 hb2 kv kh kk kl HM7
    have HB9 := Lib.hid (HB7.out.trans (hb.mono HB7.out.size))
    have HC9 := Lib.hid (HC7.out.next hb)
    have HS9 := Lib.hid (HS7.out.next hb)
    clear hb HB7 HC7 HS7 f0 f1 f2
    go_upto_region 10 with fail
    obtain ⟨w9, hw9⟩ : ∃ w9, w8.alloc (.cells #[.slice A1 lv c1, .slice A2 lg c2, .slice A3 l3 c3] 26) = w9 := ⟨_, rfl⟩
    obtain ⟨qg, hqg⟩ : ∃ q, w8.heap.size = q := ⟨_, rfl⟩
    rw [hw9] at HB9 HC9 HS9 HG9 HM9 HKK9
    rw [hqg] at HG9
    rw [hw9, hqg]
    clear hw9 hqg
    have f0 := HC9.out.at 0 _ rfl
    have f1 := HC9.out.at 1 _ rfl
    have f2 := HC9.out.at 2 _ rfl
    have t1 : ¬ (j : Int) < 0 := by omega
    have t2 : ¬ (r : Int) ≤ (j : Int) := by omega
    have t3 := decide_eq_false t1
    have t4 := decide_eq_false t2
    go_wp2_with fail
    go_at_call 32
    refine (rfind_b (Sp.cntL ks) ks ly Ay cy j w _ s HL.out (Nat.le_refl _) HCN.out HK.out HB9.out HSJ).mono ?_
    rintro e wa ⟨vv, ⟨rfl, hsv⟩, hb0⟩
    obtain ⟨d2, y2, v2, n2, o2, t2_, tk2, th2, el2, bs2, Bt, lt, et, Bh, lh, eh, Be, le, ee, Bb, lb, eb, hse2, rfl, k1, k2, k3, k4, st, sh, se, sz⟩ := hsv
    have hb := hb0.alloc hb0.size (.cells #[.int .i64 d2, .int .i64 y2, .int .i64 v2, .int .i64 n2, .int .i64 o2, .int .i64 t2_, .slice Bt lt et, .slice Bh lh eh, .slice Be le ee, .slice Bb lb eb] 53)
    have HW := Lib.hid (Cs.new wa #[.int .i64 d2, .int .i64 y2, .int .i64 v2, .int .i64 n2, .int .i64 o2, .int .i64 t2_, .slice Bt lt et, .slice Bh lh eh, .slice Be le ee, .slice Bb lb eb] 53)
    have HMW := Lib.hid (And.intro st (And.intro sh (And.intro se sz)))
    have HSE2 := Lib.hid (And.intro hse2 (And.intro k1 (And.intro k2 (And.intro k3 k4))))
    have HKKb := Lib.hid (And.intro (HKK9.out.1.below hb) (And.intro (HKK9.out.2.1.below hb) (HKK9.out.2.2.below hb)))
    have HMb := Lib.hid (And.intro (HM9.out.1.below hb) (And.intro (HM9.out.2.1.below hb) (And.intro (HM9.out.2.2.1.below hb) (HM9.out.2.2.2.below hb))))
    clear hb0 st sh se sz k1 k2 k3 k4 hse2 HKK9 HM9 t1 t2 t3 t4
    have HBb := Lib.hid (HB9.out.trans (hb.mono HB9.out.size))
    have HCb := Lib.hid (HC9.out.next hb)
    have HSb := Lib.hid (HS9.out.next hb)
    have HGb := Lib.hid (HG9.out.next hb)
    clear hb HB9 HC9 HS9 HG9 f0 f1 f2
    go_upto_region 13 with fail
    obtain ⟨wb, hwb⟩ : ∃ wb, wa.alloc (.cells #[.int .i64 d2, .int .i64 y2, .int .i64 v2, .int .i64 n2, .int .i64 o2, .int .i64 t2_, .slice Bt lt et, .slice Bh lh eh, .slice Be le ee, .slice Bb lb eb] 53) = wb := ⟨_, rfl⟩
    obtain ⟨qw, hqw⟩ : ∃ q, wa.heap.size = q := ⟨_, rfl⟩
    rw [hwb] at HBb HCb HSb HGb HW HKKb HMb
    rw [hqw] at HW
    rw [hwb, hqw]
    clear hwb hqw
    have s0 := HSb.out.at 0 _ rfl; have s1 := HSb.out.at 1 _ rfl; have s2 := HSb.out.at 2 _ rfl; have s3 := HSb.out.at 3 _ rfl; have s4 := HSb.out.at 4 _ rfl; have s5 := HSb.out.at 5 _ rfl; have s6 := HSb.out.at 6 _ rfl; have s7 := HSb.out.at 7 _ rfl; have s8 := HSb.out.at 8 _ rfl; have s9 := HSb.out.at 9 _ rfl
    have u0 := HW.out.at 0 _ rfl; have u1 := HW.out.at 1 _ rfl; have u2 := HW.out.at 2 _ rfl; have u3 := HW.out.at 3 _ rfl; have u4 := HW.out.at 4 _ rfl; have u5 := HW.out.at 5 _ rfl; have u6 := HW.out.at 6 _ rfl; have u7 := HW.out.at 7 _ rfl; have u8 := HW.out.at 8 _ rfl; have u9 := HW.out.at 9 _ rfl
    have uql := HW.out.lt
    have hb1 := (Below.refl wb.heap.size wb).alloc (Nat.le_refl _) (.cells #[.int .i64 d, .int .i64 x1, .int .i64 v, .int .i64 n, .int .i64 o, .int .i64 tn, .slice At tk.length ct, .slice Ah th.length ch, .slice Ae el.length ce, .slice Ab bs.length cb] 53)
    have hb2 := hb1.alloc hb1.size (.cells #[.int .i64 d2, .int .i64 y2, .int .i64 v2, .int .i64 n2, .int .i64 o2, .int .i64 t2_, .slice Bt lt et, .slice Bh lh eh, .slice Be le ee, .slice Bb lb eb] 53)
    have HX := Lib.hid (one_step ((Cs.new wb #[.int .i64 d, .int .i64 x1, .int .i64 v, .int .i64 n, .int .i64 o, .int .i64 tn, .slice At tk.length ct, .slice Ah th.length ch, .slice Ae el.length ce, .slice Ab bs.length cb] 53).alloc (.cells #[.int .i64 d2, .int .i64 y2, .int .i64 v2, .int .i64 n2, .int .i64 o2, .int .i64 t2_, .slice Bt lt et, .slice Bh lh eh, .slice Be le ee, .slice Bb lb eb] 53)) HSE.out rfl rfl rfl rfl (HMb.out.1.below hb2) (HMb.out.2.1.below hb2) (HMb.out.2.2.1.below hb2) (HMb.out.2.2.2.below hb2))
    have hbw := HBb.out.trans (hb2.mono HBb.out.size)
    have HY := Lib.hid (one_step (Cs.new1 wb (.cells #[.int .i64 d, .int .i64 x1, .int .i64 v, .int .i64 n, .int .i64 o, .int .i64 tn, .slice At tk.length ct, .slice Ah th.length ch, .slice Ae el.length ce, .slice Ab bs.length cb] 53) #[.int .i64 d2, .int .i64 y2, .int .i64 v2, .int .i64 n2, .int .i64 o2, .int .i64 t2_, .slice Bt lt et, .slice Bh lh eh, .slice Be le ee, .slice Bb lb eb] 53) HSE2.out.1 HSE2.out.2.1 HSE2.out.2.2.1 HSE2.out.2.2.2.1 HSE2.out.2.2.2.2 (HMW.out.1.below hbw) (HMW.out.2.1.below hbw) (HMW.out.2.2.1.below hbw) (HMW.out.2.2.2.below hbw))
    have HH2 := Lib.hid hb2
    clear hb1 hb2 hbw HMb HMW HSE HSE2 HW
    go_wp2_with fail
    go_at_call 31
    refine (requalSteps_any (Sp.cntL [s]) [s] [s] 1 1 (some ⟨wb.heap.size, 0, none⟩) (some ⟨wb.heap.size + 1, 0, none⟩) 1 1 _ true rfl rfl (Nat.le_refl _) HX.out HY.out (Lib.hid ((eqSL_iff _ _).2 rfl))).mono ?_
    rintro e wc ⟨rfl, hb0⟩
    have hb := HH2.out.trans (hb0.mono HH2.out.size)
    have HKKc := Lib.hid (And.intro (HKKb.out.1.below hb) (And.intro (HKKb.out.2.1.below hb) (HKKb.out.2.2.below hb)))
    clear hb0 HX HY HH2 HKKb uql s0 u0 s1 u1 s2 u2 s3 u3 s4 u4 s5 u5 s6 u6 s7 u7 s8 u8 s9 u9
    have HBc := Lib.hid (HBb.out.trans (hb.mono HBb.out.size))
    have HCc := Lib.hid (HCb.out.next hb)
    have HGc := Lib.hid (HGb.out.next hb)
    clear hb HBb HCb HGb 
    clear HSb
    go_upto_region 15 with fail
    have KP : Hid (∀ W, Below wc.heap.size wc W → (W.cell? ⟨p, 0, none⟩ = some (.slice Av lv cv) ∧ W.cell? ⟨p, 1, none⟩ = some (.slice Ag lg cg) ∧ W.cell? ⟨p, 2, none⟩ = some (.slice Ay ly cy))) := fun W h => ⟨(HCc.out.next h).at 0 _ rfl, (HCc.out.next h).at 1 _ rfl, (HCc.out.next h).at 2 _ rfl⟩
    go_cut [12] (fun u wx => Hid (EdCut wc Av lv cv Ag lg cg l3 (woL ks (j : Int)) u wx))
    case first =>
      go_region_held3 (fun W => W.cell? ⟨p, 0, none⟩ = some (.slice Av lv cv) ∧ W.cell? ⟨p, 1, none⟩ = some (.slice Ag lg cg) ∧ W.cell? ⟨p, 2, none⟩ = some (.slice Ay ly cy)) (first | with_reducible exact KP.out _ HD1.out | with_reducible exact KP.out _ (HD1.out.alloc HD1.out.size _) | with_reducible exact KP.out _ (Below.refl _ _).drew | exact KP.out _ ((Below.refl _ _).drew.alloc (by simp) _) | exact KP.out _ (below_q3 HD1.out (Nat.le_refl _) _ _ _) | exact KP.out _ (below_q3 (HD1.out.alloc HD1.out.size _) HD1.out.size _ _ _)) (first
        | (go_at_call 33; refine (rwithout_any (Sp.cntL ks) ks ly Ay cy (j : Int) w _ HL.out (Nat.le_refl _) HCN.out HK.out (HBc.out.trans (((Below.refl wc.heap.size wc).drew.alloc (by simp) (.cells #[.slice none 0 0, .slice none 0 0, .slice none 0 0] 26)).mono HBc.out.size)) (by omega) (by have := HRM.out; omega)).mono ?_; rintro e wd ⟨A9, l9, c9, rfl, hl9, hs9, hb9⟩; have HD1 := Lib.hid (((Below.refl wc.heap.size wc).drew.alloc (by simp) (.cells #[.slice none 0 0, .slice none 0 0, .slice none 0 0] 26)).trans (hb9.mono ((Below.refl wc.heap.size wc).drew.alloc (by simp) (.cells #[.slice none 0 0, .slice none 0 0, .slice none 0 0] 26)).size)); have HE1 := Lib.hid hb9; have HL9 := Lib.hid hl9; have HS9 := Lib.hid hs9; have HCB : Hid (Cs wd wc.heap.size [.slice none 0 0, .slice none 0 0, .slice none 0 0]) := Lib.hid ((Cs.new wc.drew #[.slice none 0 0, .slice none 0 0, .slice none 0 0] 26).next hb9); have n0 := HCB.out.at 0 _ rfl; have nf0 := HCB.out.free 0; have n1 := HCB.out.at 1 _ rfl; have nf1 := HCB.out.free 1; have n2 := HCB.out.at 2 _ rfl; have nf2 := HCB.out.free 2; have nl := HCB.out.lt; clear hb9 hl9 hs9)
        | (go_at_call 33; refine (rwithout_any (Sp.cntL ks) ks ly Ay cy (j : Int) w _ HL.out (Nat.le_refl _) HCN.out HK.out (HBc.out.trans ((Below.refl wc.heap.size wc).drew.mono HBc.out.size)) (by omega) (by have := HRM.out; omega)).mono ?_; rintro e wd ⟨A9, l9, c9, rfl, hl9, hs9, hb9⟩; have HD1 := Lib.hid ((Below.refl wc.heap.size wc).drew.trans (hb9.mono (Below.refl wc.heap.size wc).drew.size)); have HE1 := Lib.hid hb9; have HL9 := Lib.hid hl9; have HS9 := Lib.hid hs9; clear hb9 hl9 hs9))
      all_goals
        go_wp2_with fail
        go_meet
        case rel =>
          first
            | exact Lib.hid (edA HE1.out HS9.out (HBc.out.size) HKL.out HL9.out)
            | exact Lib.hid (edB (w := w) HE1.out HS9.out HKL.out HL9.out)
    case rest =>
      obtain ⟨qh, A9, c9, hu, hbx, hcx, hsx⟩ := hcut.out
      subst hu
      have HGx := Lib.hid (HGc.out.next hbx)
      have HBx := Lib.hid (HBc.out.trans (hbx.mono HBc.out.size))
      have HHx := Lib.hid hcx
      have HKKx := Lib.hid (And.intro (HKKc.out.1.below hbx) (And.intro (HKKc.out.2.1.below hbx) (HKKc.out.2.2.below hbx)))
      have HSX := Lib.hid hsx
      clear hcut hbx hcx hsx HGc HBc HKKc HCc KP
      have g0 := HGx.out.at 0 _ rfl; have g1 := HGx.out.at 1 _ rfl; have g2 := HGx.out.at 2 _ rfl
      have h0 := HHx.out.at 0 _ rfl; have h1 := HHx.out.at 1 _ rfl; have h2 := HHx.out.at 2 _ rfl
      go_wp2_with fail
      go_at_call 30
      refine (requal_same vs hs (woL ks (j : Int)) lv lg l3 A1 A2 A3 Av Ag A9 c1 c2 c3 cv cg c9 _ HKL.out HKKx.out.1 HKKx.out.2.1 HKKx.out.2.2 (HV.out.below HBx.out) (HHS.out.below HBx.out) HSX.out).mono ?_
      rintro e wz ⟨rfl, hb⟩
      have HBz := Lib.hid (HBx.out.trans (hb.mono HBx.out.size))
      clear hb
      go_wp2_with fail
      go_ret
      exact ⟨rfl, HBz.out⟩
end Go.Proofs.Ytjpjmoejdkmglaa
