/-
  The walk over Run.
-/
import Derived.Test.YtjpjmoejdkmglaaFlMe
namespace Go.Proofs.Ytjpjmoejdkmglaa
open Go.RowKit

theorem checkP_zero {vs : List Vr} {hs : List Ht} {ks : List Sp} (h : checkP vs hs ks = 0) : vs.length ≤ 64 ∧ hs.length ≤ 8 ∧ varsC vs = 0 ∧ hatsC vs hs = 0 ∧ stepsC vs hs.length true ks = 0 ∧ upBad (upL ks (0, 0, 0)) = false := by
  unfold checkP at h
  by_cases e0 : 64 < vs.length ∨ 8 < hs.length ∨ overP (hM hs (mS ks 1 (0, false))) = true
  · rw [if_pos e0] at h; cases h
  rw [if_neg e0] at h
  by_cases e1 : varsC vs = 0
  case neg => rw [if_pos e1] at h; exact absurd h e1
  rw [if_neg (by simpa using e1)] at h
  by_cases e2 : hatsC vs hs = 0
  case neg => rw [if_pos e2] at h; exact absurd h e2
  rw [if_neg (by simpa using e2)] at h
  by_cases e3 : stepsC vs hs.length true ks = 0
  case neg => rw [if_pos e3] at h; exact absurd h e3
  rw [if_neg (by simpa using e3)] at h
  refine ⟨by omega, by omega, e1, e2, e3, ?_⟩
  cases hu : upBad (upL ks (0, 0, 0)) with
  | false => rfl
  | true => rw [hu] at h; cases h
theorem startC_zero {vs : List Vr} {hs : List Ht} {ks : List Sp} {L : Lf} {vals : List Int} (h : startC vs hs ks L = (0, vals)) : checkP vs hs ks = 0 ∧ startP vs L = (0, vals) := by
  unfold startC at h
  by_cases e : checkP vs hs ks = 0
  · rw [if_neg (by simpa using e)] at h; exact ⟨e, h⟩
  · rw [if_pos e] at h; injection h with h1 _; exact absurd h1 e
theorem outL_check {vs : List Vr} {hs : List Ht} {ks : List Sp} (h : checkP vs hs ks = 0) : outL ks ≤ 8 := by
  obtain ⟨_, _, _, _, h1, h2⟩ := checkP_zero h
  refine outL_le (stepsC_num ks vs hs.length true h1) ?_
  unfold upBad at h2
  simp only [Bool.or_eq_false_iff, decide_eq_false_iff_not] at h2
  omega
/-- The machine at the end of a run. -/
def endM (vs : List Vr) (hs : List Ht) (ks : List Sp) (vals : List Int) : Ms := runL vs (hatV vals hs) ks ⟨vals, [], 0⟩
/-- What Run hands back. -/
def Ended (w : World) (r : Int) (s : Ms) (e : Ending) (w' : World) : Prop :=
  Below w.heap.size w w' ∧ ((r ≠ 0 ∧ e = .returned (.tuple #[.agg #[.slice none 0 0, .int .i64 0], .int .i64 r])) ∨
    (r = 0 ∧ ∃ (Ao : Option Addr) (co : Nat), e = .returned (.tuple #[.agg #[.slice Ao s.o.length co, .int .i64 s.t], .int .i64 0]) ∧ Zs w' Ao s.o.length co s.o))

set_option maxRecDepth 100000 in
set_option maxHeartbeats 8000000 in
theorem Run_b (vs : List Vr) (hs : List Ht) (ks : List Sp) (Av : Option Addr) (lv cv : Nat) (Ag : Option Addr) (lg cg : Nat) (Ay : Option Addr) (ly cy : Nat) (S P R : List Int) (As : Option Addr) (ls cs : Nat) (Ap : Option Addr) (lp cp : Nat) (Ar : Option Addr) (lr cr : Nat) (w : World) (hv : VOk w Av lv cv vs) (hh : HOk w Ag lg cg hs) (hl : ks.length = ly) (hk : SOk w Ay cy ks) (hlv : lv ≤ 1000) (hbd : hcnt hs + Sp.cntL ks ≤ 90000)
    (hzs : Zs w As ls cs S) (hzp : Zs w Ap lp cp P) (hzr : Zs w Ar lr cr R) (r : Int) (s : Ms) (vals : List Int) (H : Hid (startC vs hs ks ⟨S, P, R⟩ = (r, vals))) (HE : Hid (endM vs hs ks vals = s)) :
    Calls Try.prog 14 #[.agg #[.slice Av lv cv, .slice Ag lg cg, .slice Ay ly cy], .agg #[.slice As ls cs, .slice Ap lp cp, .slice Ar lr cr]] w (Ended w r s) := by
  have HV := Lib.hid hv
  have HHS := Lib.hid hh
  have HK := Lib.hid hk
  have HL := Lib.hid hl
  have HHL := Lib.hid hh.len
  have HBD := Lib.hid hbd
  have HZS := Lib.hid hzs
  have HZP := Lib.hid hzp
  have HZR := Lib.hid hzr
  have hb1 := (Below.refl w.heap.size w).alloc (Nat.le_refl _) (.cells #[.slice Av lv cv, .slice Ag lg cg, .slice Ay ly cy] 26)
  have hb2 := hb1.alloc hb1.size (.cells #[.slice As ls cs, .slice Ap lp cp, .slice Ar lr cr] 34)
  have HB := Lib.hid (hb2.alloc hb2.size (.cells #[.slice none 0 0, .int .i64 0] 36))
  have HC := Lib.hid (((Cs.new w #[.slice Av lv cv, .slice Ag lg cg, .slice Ay ly cy] 26).alloc (.cells #[.slice As ls cs, .slice Ap lp cp, .slice Ar lr cr] 34)).alloc (.cells #[.slice none 0 0, .int .i64 0] 36))
  have HI := Lib.hid ((Cs.new1 w (.cells #[.slice Av lv cv, .slice Ag lg cg, .slice Ay ly cy] 26) #[.slice As ls cs, .slice Ap lp cp, .slice Ar lr cr] 34).alloc (.cells #[.slice none 0 0, .int .i64 0] 36))
  have HO : Hid (Cs (((w.alloc (.cells #[.slice Av lv cv, .slice Ag lg cg, .slice Ay ly cy] 26)).alloc (.cells #[.slice As ls cs, .slice Ap lp cp, .slice Ar lr cr] 34)).alloc (.cells #[.slice none 0 0, .int .i64 0] 36)) (w.heap.size + 1 + 1) [.slice none 0 0, .int .i64 0]) := by
    have h := Cs.new ((w.alloc (.cells #[.slice Av lv cv, .slice Ag lg cg, .slice Ay ly cy] 26)).alloc (.cells #[.slice As ls cs, .slice Ap lp cp, .slice Ar lr cr] 34)) #[.slice none 0 0, .int .i64 0] 36
    simp only [World.size_alloc] at h
    exact h
  clear hv hh hk hl hbd hzs hzp hzr hb1 hb2
  go_enter Try.func14, Try.ntmps14
  go_upto_region 1 with fail
  obtain ⟨w1, hw1⟩ : ∃ w1, ((w.alloc (.cells #[.slice Av lv cv, .slice Ag lg cg, .slice Ay ly cy] 26)).alloc (.cells #[.slice As ls cs, .slice Ap lp cp, .slice Ar lr cr] 34)).alloc (.cells #[.slice none 0 0, .int .i64 0] 36) = w1 := ⟨_, rfl⟩
  rw [hw1] at HB HC HI HO
  rw [hw1]
  clear hw1
  have n0 := HC.out.at 0 _ rfl
  have n1 := HC.out.at 1 _ rfl
  have n2 := HC.out.at 2 _ rfl
  have i0 := HI.out.at 0 _ rfl
  have i1 := HI.out.at 1 _ rfl
  have i2 := HI.out.at 2 _ rfl
  go_wp2_with fail
  go_at_call 52
  refine (start_b vs hs ks Av lv cv Ag lg cg Ay ly cy S P R As ls cs Ap lp cp Ar lr cr w1 (HV.out.below HB.out) (HHS.out.below HB.out) HL.out (HK.out.below HB.out) hlv HBD.out (HZS.out.below HB.out) (HZP.out.below HB.out) (HZR.out.below HB.out) r vals H).mono ?_
  rintro e w2 ⟨hb, hor⟩
  have HB2 := Lib.hid (HB.out.trans (hb.mono HB.out.size))
  have HC2 := Lib.hid (HC.out.next hb)
  have HO2 := Lib.hid (HO.out.next hb)
  have HBB := Lib.hid hb
  have HOL := Lib.hid HO.out.lt
  clear hb n0 n1 n2 i0 i1 i2 HC HI HO
  have o0 := HO2.out.at 0 _ rfl
  have o1 := HO2.out.at 1 _ rfl
  have of0 := HO2.out.free 0
  have of1 := HO2.out.free 1
  have hol := HO2.out.lt
  rcases hor with ⟨hr, rfl⟩ | ⟨rfl, p, Ax, cx, Ah, ch, rfl, hmk⟩
  · have hbn := bne_of hr
    have HR := Lib.hid hr
    clear hr
    go_wp2_with fail
    have HF := (HO2.out.set 0 (.slice none 0 0) (by simp)).set 1 (.int .i64 0) (by simp)
    have z0 := HF.at 0 _ rfl
    have z1 := HF.at 1 _ rfl
    refine bodyPost_ret (v := .tuple #[.agg #[.slice none 0 0, .int .i64 0], .int .i64 r]) (by simp [results, Try.results14, go_sem, z0, z1]) rfl ?_
    exact ⟨(HB2.out.setCell (p := ⟨w.heap.size + 1 + 1, 0, none⟩) (by simp only; omega) _).setCell (p := ⟨w.heap.size + 1 + 1, 1, none⟩) (by simp only; omega) _, .inl ⟨HR.out, rfl⟩⟩
  obtain ⟨hck, hsp⟩ := startC_zero H.out
  obtain ⟨_, _, hvc, _, hst, _⟩ := checkP_zero hck
  have HMK := Lib.hid hmk
  have HVB := varsC_B hvc
  have HOC := outL_check hck
  have HVK := startP_ok hvc hsp
  rw [HHL.out] at hst
  have n2 := HC2.out.at 2 _ rfl
  clear hmk hck hsp
  go_wp2_with fail
  go_at_call 53
  refine (run_any vs HVB Av lv cv Ag lg cg Ay ly cy Ax cx Ah lg ch (hatV vals hs) (by rw [hatV, List.length_map, HHL.out]) p w1 (HV.out.below HB.out) (Sp.cntL ks) ks ly Ay cy w2 (.slice none 0 0) ⟨vals, [], 0⟩ 0 s true HL.out (Nat.le_refl _) (HK.out.below HB.out) HBB.out HMK.out hst ⟨HVK, Nat.le_refl _⟩ (by omega) HE).mono ?_
  rintro e w3 ⟨rfl, O', hw3⟩
  obtain ⟨sv, so, st⟩ := s
  have HW3 := Lib.hid hw3
  have hlow := hw3.low HMK.out HBB.out HBB.out.size
  have HB3 := Lib.hid (HB.out.trans (hlow.mono HB.out.size))
  have HO3 := Lib.hid (hw3.keep HO2.out (fun e => by
    have hol' := HOL.out
    rcases e with e | e | e
    · have := HMK.out.lo; omega
    · have := (HMK.out.v.lt _ e).1; omega
    · simp [Value.ownBlock] at e))
  obtain ⟨Ao, lo', co, hO⟩ : ∃ A l c, O' = .slice A l c := by
    rcases Joins.ownsRow_forms hw3.st.o with ⟨h, _⟩ | ⟨g, cap, h⟩
    · exact ⟨_, _, _, h⟩
    · exact ⟨_, _, _, h⟩
  subst hO
  have hlo : lo' = so.length := by
    rcases Joins.ownsRow_forms hw3.st.o with ⟨h, h0⟩ | ⟨g, cap, h⟩
    · injection h with _ h1 _; rw [h1]; exact h0.symm
    · injection h with _ h1 _
  subst hlo
  have HRO := Lib.hid hw3.st.o
  have p5 := hw3.st.cs.at 5 _ rfl
  have p6 := hw3.st.cs.at 6 _ rfl
  clear hw3 hlow o0 o1 of0 of1 hol n2 HVB HOC HVK hvc hst
  have o0 := HO3.out.at 0 _ rfl
  have o1 := HO3.out.at 1 _ rfl
  have of0 := HO3.out.free 0
  have of1 := HO3.out.free 1
  have hol := HO3.out.lt
  go_upto_region 5 with fail
  go_region
  all_goals
    go_wp2_with fail
    have HF := (((HO3.out.set 0 (.slice Ao so.length co) (by simp)).set 1 (.int .i64 st) (by simp)).drew)
    have z0 := HF.at 0 _ rfl
    have z1 := HF.at 1 _ rfl
    refine bodyPost_ret (v := .tuple #[.agg #[.slice Ao so.length co, .int .i64 st], .int .i64 0]) (by simp [results, Try.results14, go_sem, z0, z1]) rfl ?_
    have hap : apart (.slice Ao so.length co) (w.heap.size + 1 + 1) := row_apart HRO.out (.inl HOL.out)
    exact ⟨((HB3.out.setCell (p := ⟨w.heap.size + 1 + 1, 0, none⟩) (by simp only; omega) _).setCell (p := ⟨w.heap.size + 1 + 1, 1, none⟩) (by simp only; omega) _).drew, .inr ⟨rfl, Ao, co, rfl, (Zs.of_row (ownsRow_setCell_other (a := ⟨w.heap.size + 1 + 1, 1, none⟩) (ownsRow_setCell_other (a := ⟨w.heap.size + 1 + 1, 0, none⟩) HRO.out hap _) hap _)).below (Below.refl _ _).drew⟩⟩
end Go.Proofs.Ytjpjmoejdkmglaa
