/-
  The walks over the reference's checks of arguments.
-/
import Derived.Test.YthlhicegchkjjaaCoF
namespace Go.Proofs.Ythlhicegchkjjaa
open Go.RowKit

/-- The code of a model, places and expressions. -/
def CM.args (C : CM) (ps es : List ET) : Int := if C.chk = 0 then (if CM.codes ps = 0 then (if CM.codes es = 0 then (if ps.all (fun e => CM.opPlace e.op) then 0 else 1) else CM.codes es) else CM.codes ps) else 3

set_option maxHeartbeats 1000000 in
theorem risPlace_b (o n : Int) (s : ByteArray) (A : Option Addr) (c l : Nat) (b : Bool) (H : Hid (CM.opPlace o = b)) (w : World) :
    Calls Try.prog 57 #[.agg #[.int .i64 o, .int .i64 n, .string s, .slice A l c]] w fun e w' => e = .returned (.bool b) ∧ Below w.heap.size w w' := by
  have hb := H.out
  unfold CM.opPlace at hb
  by_cases h3 : o = 3
  · subst h3
    obtain rfl : true = b := by simpa using hb
    clear H hb
    go_enter Try.func57, Try.ntmps57
    go_wp2_with fail
    go_ret
    exact ⟨rfl, boxed_below w _ n s A l c⟩
  by_cases h4 : o = 4
  · subst h4
    obtain rfl : true = b := by simpa using hb
    clear H hb
    go_enter Try.func57, Try.ntmps57
    go_wp2_with fail
    go_ret
    exact ⟨rfl, boxed_below w _ n s A l c⟩
  by_cases h5 : o = 5
  · subst h5
    obtain rfl : true = b := by simpa using hb
    clear H hb
    go_enter Try.func57, Try.ntmps57
    go_wp2_with fail
    go_ret
    exact ⟨rfl, boxed_below w _ n s A l c⟩
  obtain rfl : false = b := by rw [← hb]; symm; simp [h3, h4, h5]
  clear H hb
  have k3 : (o == 3) = false := by rw [beq_eq_false_iff_ne]; exact h3
  have k4 : (o == 4) = false := by rw [beq_eq_false_iff_ne]; exact h4
  have k5 : (o == 5) = false := by rw [beq_eq_false_iff_ne]; exact h5
  go_enter Try.func57, Try.ntmps57
  go_wp2_with fail
  go_ret
  exact ⟨by simp, boxed_below w _ n s A l c⟩

set_option maxHeartbeats 4000000 in
theorem rarg_b (C : CM) (ps es : List ET) (A B : Option Addr) (c d lp l : Nat) (r : Int) (hlp : ps.length = lp) (hl : es.length = l) (H : Hid (CM.args C ps es = r)) (hSP : Small ps) (hSE : Small es) (w : World) (hEP : LOk w A c ps) (hEE : LOk w B d es) :
    Calls Try.prog 41 #[.agg #[.int .i64 C.c0, .int .i64 C.c1, .int .i64 C.c2, .int .i64 C.c3, .int .i64 C.c4, .int .i64 C.c5, .int .i64 C.c6, .int .i64 C.c7, .int .i64 C.c8, .int .i64 C.c9, .int .i64 C.c10, .int .i64 C.c11, .int .i64 C.c12], .slice A lp c, .slice B l d] w fun e w' => e = .returned (.int .i64 r) ∧ Below w.heap.size w w' := by
  have hlm : lp ≤ 9223372036854775807 := by have h1 := hEP.2.1; have h2 := hEP.2.2.1; unfold maxLen at h2; omega
  have hlm' : l ≤ 9223372036854775807 := by have h1 := hEE.2.1; have h2 := hEE.2.2.1; unfold maxLen at h2; omega
  have HEP := Lib.hid hEP
  have HEE := Lib.hid hEE
  have HLP := Lib.hid hlp
  have HLE := Lib.hid hl
  have HSP := Lib.hid hSP
  have HSE := Lib.hid hSE
  obtain ⟨q, hq⟩ : ∃ q, C.chk = q := ⟨_, rfl⟩
  have HQ := Lib.hid hq
  have hc := CM.chk_cases C
  clear hEP hEE hlp hl hSP hSE hq
  rcases hc with ⟨hc, -⟩ | hc
  · obtain rfl : 0 = q := by rw [← HQ.out, hc]
    have HR : Hid ((if CM.codes ps = 0 then (if CM.codes es = 0 then (if ps.all (fun e => CM.opPlace e.op) then 0 else 1) else CM.codes es) else CM.codes ps) = r) := by
      show _ = _
      rw [← H.out]; unfold CM.args; rw [if_pos hc]
    clear hc H
    go_enter Try.func41, Try.ntmps41
    go_wp2_with fail
    refine (rcheckC_b C 0 HQ _).mono ?_
    rintro e w1 ⟨rfl, hb1⟩
    have HB2 := Lib.hid ((boxC_below w C).trans (hb1.mono (boxC_below w C).size))
    clear hb1
    go_wp2_with fail
    go_loopw [7] (fun v wr => ∃ k : Nat, k ≤ lp ∧ v = .int .i64 k ∧ Hid (CM.codes (ps.take k) = 0) ∧ Hid (Below w.heap.size w wr)) (fun v _ => lp - (intOf v).toNat)
    case atStart => exact ⟨0, by omega, rfl, by show _ = _; simp [CM.codes], HB2⟩
    case round =>
      obtain ⟨k, hk, rfl, HK, HB⟩ := hrel
      clear HB2
      by_cases hlt : k < lp
      · have hlt' : k < ps.length := by have := HLP.out; omega
        obtain ⟨o', n', s', ks', g, f, A', c', hkid, hAA, hg, hok, c0, c1, c2, c3⟩ := (HEP.out.below HB.out).kid k hlt'
        obtain ⟨l', hl'⟩ : ∃ l', ks'.length = l' := ⟨_, rfl⟩
        rw [hl'] at c3
        have HL' := Lib.hid hl'
        obtain ⟨x, hx⟩ : ∃ x, ET.check (.mk o' n' s' ks') = x := ⟨_, rfl⟩
        have HX := Lib.hid hx
        have hsm := HSP.out k hlt'
        rw [hkid] at hsm
        have HO := Lib.hid hok
        have HSK := Lib.hid hsm
        have hxk : ET.check ps[k] = x := by rw [hkid, hx]
        subst hAA
        by_cases h0 : x = 0
        · have HK1 := Lib.hid (CM.codes_next hlt' HK.out (by rw [hxk, h0]))
          subst h0
          clear HK hl' hx hsm hkid hxk hok hlt'
          go_wp2_with fail
          refine (rcheck_b o' n' s' ks' A' c' l' 0 HL'.out HX.out HSK.out.1 HSK.out.2 _ HO.out).mono ?_
          rintro e w2 ⟨rfl, hb2⟩
          have HB2 : Hid (Below w.heap.size w w2) := HB.out.trans (hb2.mono HB.out.size)
          clear hb2 c0 c1 c2 c3 HB
          go_wp2_with fail
          go_roundw
          case rel => exact ⟨k + 1, by omega, by go_num, HK1, HB2⟩
          case measure => simp [intOf]; omega
        · have hr : (x : Int) = r := by rw [← HR.out, if_neg (by rw [CM.codes_hit hlt' HK.out (by rw [hxk]; exact h0), hxk]; omega), CM.codes_hit hlt' HK.out (by rw [hxk]; exact h0), hxk]
          subst hr
          have hx0 : ((x : Int) == 0) = false := by rw [beq_eq_false_iff_ne]; omega
          have hx1 : ((x : Int) != 0) = true := by simp [bne, hx0]
          clear HK hl' hx hsm hkid hxk hok hlt'
          go_wp2_with fail
          refine (rcheck_b o' n' s' ks' A' c' l' x HL'.out HX.out HSK.out.1 HSK.out.2 _ HO.out).mono ?_
          rintro e w2 ⟨rfl, hb2⟩
          have HB2 : Hid (Below w.heap.size w w2) := HB.out.trans (hb2.mono HB.out.size)
          clear hb2 c0 c1 c2 c3 HB
          go_wp2_with fail
          go_ret
          exact ⟨rfl, HB2.out⟩
      · have hke : k = lp := by omega
        have HB3 := HB
        have hr1 : CM.codes ps = 0 := by rw [← HK.out, hke, ← HLP.out, List.take_length]
        have HR2 : Hid ((if CM.codes es = 0 then (if ps.all (fun e => CM.opPlace e.op) then 0 else 1) else CM.codes es) = r) := by
          show _ = _
          rw [← HR.out, if_pos hr1]
        clear HK hr1 HR hke
        go_wp2_with fail
        go_loopw [9] (fun v wr => ∃ k : Nat, k ≤ l ∧ v = .int .i64 k ∧ Hid (CM.codes (es.take k) = 0) ∧ Hid (Below w.heap.size w wr)) (fun v _ => l - (intOf v).toNat)
        case atStart => exact ⟨0, by omega, rfl, by show _ = _; simp [CM.codes], HB3⟩
        case round =>
          obtain ⟨k, hk, rfl, HK, HB⟩ := hrel
          clear HB3
          by_cases hlt : k < l
          · have hlt' : k < es.length := by have := HLE.out; omega
            obtain ⟨o', n', s', ks', g, f, A', c', hkid, hAA, hg, hok, c0, c1, c2, c3⟩ := (HEE.out.below HB.out).kid k hlt'
            obtain ⟨l', hl'⟩ : ∃ l', ks'.length = l' := ⟨_, rfl⟩
            rw [hl'] at c3
            have HL' := Lib.hid hl'
            obtain ⟨x, hx⟩ : ∃ x, ET.check (.mk o' n' s' ks') = x := ⟨_, rfl⟩
            have HX := Lib.hid hx
            have hsm := HSE.out k hlt'
            rw [hkid] at hsm
            have HO := Lib.hid hok
            have HSK := Lib.hid hsm
            have hxk : ET.check es[k] = x := by rw [hkid, hx]
            subst hAA
            by_cases h0 : x = 0
            · have HK1 := Lib.hid (CM.codes_next hlt' HK.out (by rw [hxk, h0]))
              subst h0
              clear HK hl' hx hsm hkid hxk hok hlt'
              go_wp2_with fail
              refine (rcheck_b o' n' s' ks' A' c' l' 0 HL'.out HX.out HSK.out.1 HSK.out.2 _ HO.out).mono ?_
              rintro e w2 ⟨rfl, hb2⟩
              have HB2 : Hid (Below w.heap.size w w2) := HB.out.trans (hb2.mono HB.out.size)
              clear hb2 c0 c1 c2 c3 HB
              go_wp2_with fail
              go_roundw
              case rel => exact ⟨k + 1, by omega, by go_num, HK1, HB2⟩
              case measure => simp [intOf]; omega
            · have hr : (x : Int) = r := by rw [← HR2.out, if_neg (by rw [CM.codes_hit hlt' HK.out (by rw [hxk]; exact h0), hxk]; omega), CM.codes_hit hlt' HK.out (by rw [hxk]; exact h0), hxk]
              subst hr
              have hx0 : ((x : Int) == 0) = false := by rw [beq_eq_false_iff_ne]; omega
              have hx1 : ((x : Int) != 0) = true := by simp [bne, hx0]
              clear HK hl' hx hsm hkid hxk hok hlt'
              go_wp2_with fail
              refine (rcheck_b o' n' s' ks' A' c' l' x HL'.out HX.out HSK.out.1 HSK.out.2 _ HO.out).mono ?_
              rintro e w2 ⟨rfl, hb2⟩
              have HB2 : Hid (Below w.heap.size w w2) := HB.out.trans (hb2.mono HB.out.size)
              clear hb2 c0 c1 c2 c3 HB
              go_wp2_with fail
              go_ret
              exact ⟨rfl, HB2.out⟩
          · have hke : k = l := by omega
            have HB4 := HB
            have hr2 : CM.codes es = 0 := by rw [← HK.out, hke, ← HLE.out, List.take_length]
            have HR3 : Hid ((if ps.all (fun e => CM.opPlace e.op) then 0 else 1) = r) := by
              show _ = _
              rw [← HR2.out, if_pos hr2]
            clear HK hr2 HR2 hke
            go_wp2_with fail
            go_loopw [11] (fun v wr => ∃ k : Nat, k ≤ lp ∧ v = .int .i64 k ∧ Hid ((ps.take k).all (fun e => CM.opPlace e.op) = true) ∧ Hid (Below w.heap.size w wr)) (fun v _ => lp - (intOf v).toNat)
            case atStart => exact ⟨0, by omega, rfl, by show _ = _; simp, HB4⟩
            case round =>
              obtain ⟨k, hk, rfl, HK, HB⟩ := hrel
              clear HB4
              by_cases hlt : k < lp
              · have hlt' : k < ps.length := by have := HLP.out; omega
                obtain ⟨o', n', s', ks', g, f, A', c', hkid, hAA, hg, hok, c0, c1, c2, c3⟩ := (HEP.out.below HB.out).kid k hlt'
                obtain ⟨x, hx⟩ : ∃ x, CM.opPlace o' = x := ⟨_, rfl⟩
                have HX := Lib.hid hx
                have hxk : CM.opPlace (ps[k]).op = x := by rw [hkid]; exact hx
                subst hAA
                cases x
                · have hr : r = 1 := by
                    rw [← HR3.out, if_neg]
                    intro hall
                    have := List.all_eq_true.1 hall ps[k] (List.getElem_mem hlt')
                    rw [hxk] at this
                    exact absurd this (by simp)
                  subst hr
                  clear HK hx hkid hxk hok hlt' HR3
                  go_wp2_with fail
                  refine (risPlace_b o' n' s' A' c' _ _ HX _).mono ?_
                  rintro e w2 ⟨rfl, hb2⟩
                  have HB2 : Hid (Below w.heap.size w w2) := HB.out.trans (hb2.mono HB.out.size)
                  clear hb2 c0 c1 c2 c3 HB
                  go_wp2_with fail
                  go_ret
                  exact ⟨rfl, HB2.out⟩
                · have HK1 : Hid ((ps.take (k + 1)).all (fun e => CM.opPlace e.op) = true) := by
                    show _ = _
                    rw [ET.take_one ps k hlt', List.all_append, HK.out]
                    simp [hxk]
                  clear HK hx hkid hxk hok hlt'
                  go_wp2_with fail
                  refine (risPlace_b o' n' s' A' c' _ _ HX _).mono ?_
                  rintro e w2 ⟨rfl, hb2⟩
                  have HB2 : Hid (Below w.heap.size w w2) := HB.out.trans (hb2.mono HB.out.size)
                  clear hb2 c0 c1 c2 c3 HB
                  go_wp2_with fail
                  go_roundw
                  case rel => exact ⟨k + 1, by omega, by go_num, HK1, HB2⟩
                  case measure => simp [intOf]; omega
              · have hke : k = lp := by omega
                have hr : r = 0 := by
                  have h := HK.out
                  rw [hke, ← HLP.out, List.take_length] at h
                  rw [← HR3.out, if_pos h]
                subst hr
                clear HR3 HK
                go_wp2_with fail
                go_ret
                exact ⟨rfl, HB.out⟩
  · obtain rfl : 3 = q := by rw [← HQ.out, hc]
    have hr : r = 3 := by rw [← H.out]; unfold CM.args; rw [if_neg (by omega)]
    subst hr
    clear hc H
    go_enter Try.func41, Try.ntmps41
    go_wp2_with fail
    refine (rcheckC_b C 3 HQ _).mono ?_
    rintro e w1 ⟨rfl, hb1⟩
    have HB1 := Lib.hid ((boxC_below w C).trans (hb1.mono (boxC_below w C).size))
    clear hb1
    go_wp2_with fail
    go_ret
    exact ⟨rfl, HB1.out⟩
end Go.Proofs.Ythlhicegchkjjaa
