/-
  The walks over the reference's Has, Equal, Subset and Put.
-/
import Derived.Test.YtpapbpekihgnlaaDoorBsV
namespace Go.Proofs.YtpapbpekihgnlaaDoor
open Go.RowKit

set_option maxHeartbeats 1000000 in
theorem rhas_b (n : Int) (A : Option Addr) (l c : Nat) (ws : List Nat) (i : Int) (b : Bool) (H : Hid (hasR n ws i = b)) (w : World) (hw : Wd w A l c ws) :
    Calls Tryd.prog 25 #[.agg #[.int .i64 n, .slice A l c], .int .i64 i] w fun e w' => e = .returned (.bool b) ∧ Below w.heap.size w w' := by
  have HW0 := Lib.hid hw
  clear hw
  obtain ⟨v, hv⟩ : ∃ v, Bs.vld n ws = v := ⟨_, rfl⟩
  have HV := Lib.hid hv
  go_enter Tryd.func25, Tryd.ntmps25
  go_wp2_with fail
  go_at_call 19
  refine (rvalid_b n A l c ws v HV _ (HW0.out.below (boxS_below w n A l c))).mono ?_
  rintro e w2 ⟨rfl, hb⟩
  have HC := Lib.hid ((boxS_cs w n A l c).next hb)
  have HB := Lib.hid ((boxS_below w n A l c).trans (hb.mono (by simp [boxS])))
  have HW2 := Lib.hid (HW0.out.below HB.out)
  clear hb HV
  have c0 := HC.out.at 0 _ rfl
  have c1 := HC.out.at 1 _ rfl
  cases v with
  | false =>
    have hb : b = false := by rw [← H.out]; unfold hasR; rw [hv]; rfl
    subst hb
    clear H hv
    go_wp2_with fail
    go_ret
    exact ⟨rfl, HB.out⟩
  | true =>
    by_cases h0 : i < 0
    · have hb : b = false := by rw [← H.out]; unfold hasR; rw [decide_eq_false (show ¬ 0 ≤ i by omega)]; simp
      subst hb
      have hd : decide (0 ≤ i) = false := decide_eq_false (by omega)
      clear H hv
      go_wp2_with fail
      go_ret
      exact ⟨rfl, HB.out⟩
    obtain ⟨k, rfl⟩ : ∃ k : Nat, i = k := ⟨i.toNat, by omega⟩
    by_cases h1 : n ≤ k
    · have hb : b = false := by rw [← H.out]; unfold hasR; rw [decide_eq_false (show ¬ (k : Int) < n by omega)]; simp
      subst hb
      have hd : decide ((k : Int) < n) = false := decide_eq_false (by omega)
      clear H hv
      go_wp2_with fail
      go_ret
      exact ⟨rfl, HB.out⟩
    · obtain ⟨m, rfl⟩ : ∃ m : Nat, n = m := ⟨n.toNat, by omega⟩
      have hn := Bs.vld_le hv
      have hkm : (k : Int) < (m : Int) := by omega
      have hd : decide ((k : Int) < (m : Int)) = true := decide_eq_true hkm
      have hb : Bs.bit ws k = b := by
        rw [← H.out]; unfold hasR
        rw [hv, decide_eq_true (show (0 : Int) ≤ (k : Int) by omega), hd, Int.toNat_natCast]
        rfl
      have HBT := Lib.hid hb
      have hk6 : k ≤ 1000000 := by omega
      clear H hv h0 h1 hb
      go_wp2_with fail
      go_at_call 50
      refine (bit_b A l c ws k hk6 b HBT _ HW2.out).mono ?_
      rintro e w3 ⟨rfl, q, rfl⟩
      go_wp2_with fail
      go_ret
      exact ⟨rfl, below_drewN HB.out _⟩

set_option maxHeartbeats 1000000 in
theorem requal_b (n : Int) (A : Option Addr) (l c : Nat) (ws : List Nat) (n' : Int) (A' : Option Addr) (l' c' : Nat) (ws' : List Nat) (b : Bool) (H : Hid (eqR n ws n' ws' = b)) (w : World) (hw : Wd w A l c ws) (hw' : Wd w A' l' c' ws') :
    Calls Tryd.prog 27 #[.agg #[.int .i64 n, .slice A l c], .agg #[.int .i64 n', .slice A' l' c']] w fun e w' => e = .returned (.bool b) ∧ Below w.heap.size w w' := by
  have HW := Lib.hid hw
  have HW' := Lib.hid hw'
  clear hw hw'
  obtain ⟨v, hv⟩ : ∃ v, Bs.vld n ws = v := ⟨_, rfl⟩
  obtain ⟨v', hv'⟩ : ∃ v, Bs.vld n' ws' = v := ⟨_, rfl⟩
  have HV := Lib.hid hv
  have HV' := Lib.hid hv'
  have HT := Lib.hid (boxT_cs w n A l c n' A' l' c')
  have HTB := Lib.hid (boxT_below w n A l c n' A' l' c')
  go_enter Tryd.func27, Tryd.ntmps27
  go_wp2_with fail
  go_at_call 19
  refine (rvalid_b n A l c ws v HV _ (HW.out.below HTB.out)).mono ?_
  rintro e w2 ⟨rfl, hb⟩
  have HC := Lib.hid (HT.out.1.next hb)
  have HC' := Lib.hid (HT.out.2.next hb)
  have HB := Lib.hid (HTB.out.trans (hb.mono HTB.out.size))
  clear hb HV HT HTB
  have c0 := HC.out.at 0 _ rfl
  have c1 := HC.out.at 1 _ rfl
  have d0 := HC'.out.at 0 _ rfl
  have d1 := HC'.out.at 1 _ rfl
  cases v with
  | false =>
    have hr : b = false := by rw [← H.out]; unfold eqR pairR; rw [if_pos (.inl hv)]; rfl
    subst hr
    clear H hv hv' HV'
    go_wp2_with fail
    go_ret
    exact ⟨rfl, HB.out⟩
  | true =>
    have HVV := Lib.hid hv
    clear hv
    go_wp2_with fail
    go_at_call 19
    refine (rvalid_b n' A' l' c' ws' v' HV' _ (HW'.out.below HB.out)).mono ?_
    rintro e w3 ⟨rfl, hb3⟩
    have HD := Lib.hid (HC.out.next hb3)
    have HD' := Lib.hid (HC'.out.next hb3)
    have HB3 := Lib.hid (HB.out.trans (hb3.mono HB.out.size))
    clear hb3 HV' HC HC' HB c0 c1 d0 d1
    have c0 := HD.out.at 0 _ rfl
    have c1 := HD.out.at 1 _ rfl
    have d0 := HD'.out.at 0 _ rfl
    have d1 := HD'.out.at 1 _ rfl
    cases v' with
    | false =>
      have hr : b = false := by rw [← H.out]; unfold eqR pairR; rw [if_pos (.inr hv')]; rfl
      subst hr
      clear H hv'
      go_wp2_with fail
      go_ret
      exact ⟨rfl, HB3.out⟩
    | true =>
      by_cases hnn : n = n'
      · subst hnn
        have hbb : decide (ws = ws') = b := by rw [← H.out]; unfold eqR pairR; rw [if_neg (by rw [HVV.out, hv']; simp), if_pos rfl]; rfl
        have HBB := Lib.hid hbb
        have h1 := Bs.vld_iff.1 HVV.out
        have h2 := Bs.vld_iff.1 hv'
        obtain rfl : l = l' := by have := HW.out.len; have := HW'.out.len; omega
        have hl6 : l ≤ 1000000 := by have := HW.out.len; omega
        clear H hbb h1 h2 hv'
        go_wp2_with fail
        go_loopw [5] (fun v wr => ∃ k : Nat, k ≤ l ∧ v = .int .i64 k ∧ Hid (∀ j, j < k → ws.getD j 0 = ws'.getD j 0) ∧ Hid (Cs wr w.heap.size [.int .i64 n, .slice A l c]) ∧ Hid (Cs wr (w.heap.size + 1) [.int .i64 n, .slice A' l c']) ∧ Hid (Below w.heap.size w wr)) (fun v _ => l - (intOf v).toNat)
        case atStart => exact ⟨0, by omega, rfl, fun j hj => absurd hj (by omega), HD, HD', HB3⟩
        case round =>
          clear c0 c1 d0 d1
          obtain ⟨k, hk, rfl, HK, HC, HD, HB⟩ := hrel
          have c1 := HC.out.at 1 _ rfl
          have d1 := HD.out.at 1 _ rfl
          by_cases hlt : k < l
          · obtain ⟨g, f, hA, hg, hc⟩ := (HW.out.below HB.out).mem (by omega)
            subst hA
            obtain ⟨g', f', hA', hg', hc'⟩ := (HW'.out.below HB.out).mem (by omega)
            subst hA'
            have hcell := hc k hlt
            have hcell' := hc' k hlt
            obtain ⟨x, hx⟩ : ∃ x, ws.getD k 0 = x := ⟨_, rfl⟩
            obtain ⟨y, hy⟩ : ∃ y, ws'.getD k 0 = y := ⟨_, rfl⟩
            rw [hx] at hcell
            rw [hy] at hcell'
            have hlt' : (k : Int) < (l : Int) := by omega
            clear hc hc'
            by_cases hxy : x = y
            · have HK' : Hid (∀ j, j < k + 1 → ws.getD j 0 = ws'.getD j 0) := fun j hj => by
                by_cases hjk : j = k
                · rw [hjk, hx, hy, hxy]
                · exact HK.out j (by omega)
              have hd : ((x : Int) != (y : Int)) = false := by simp [hxy]
              clear HK hx hy hxy
              go_wp2_with fail
              go_region
              go_wp2_with fail
              go_roundw
              case rel => exact ⟨k + 1, by omega, by go_num, HK', HC.out.drew, HD.out.drew, HB.out.drew⟩
              case measure => simp [intOf]; omega
            · have hb : b = false := by rw [← HBB.out, decide_eq_false_iff_not]; intro e; apply hxy; rw [← hx, ← hy, e]
              subst hb
              have hd : ((x : Int) != (y : Int)) = true := by simp; omega
              clear HK hx hy hxy HBB
              go_wp2_with fail
              go_region
              go_wp2_with fail
              go_ret
              exact ⟨rfl, HB.out.drew⟩
          · have hb : b = true := by
              rw [← HBB.out, decide_eq_true_iff]
              refine List.ext_getElem (by rw [HW.out.len, HW'.out.len]) fun j h1 h2 => ?_
              have := HK.out j (by have := HW.out.len; omega)
              simpa [List.getD_eq_getElem?_getD, h1, h2] using this
            subst hb
            clear HK HBB
            go_wp2_with fail
            go_ret
            exact ⟨rfl, HB.out⟩
      · have hb : b = false := by rw [← H.out]; unfold eqR pairR; rw [if_neg (by rw [HVV.out, hv']; simp), if_neg hnn]; rfl
        subst hb
        have hd : (n != n') = true := by simp [hnn]
        clear H hv'
        go_wp2_with fail
        go_ret
        exact ⟨rfl, HB3.out⟩

set_option maxHeartbeats 1000000 in
theorem rsubset_b (n : Int) (A : Option Addr) (l c : Nat) (ws : List Nat) (n' : Int) (A' : Option Addr) (l' c' : Nat) (ws' : List Nat) (b : Bool) (H : Hid (subR n ws n' ws' = b)) (w : World) (hw : Wd w A l c ws) (hw' : Wd w A' l' c' ws') :
    Calls Tryd.prog 29 #[.agg #[.int .i64 n, .slice A l c], .agg #[.int .i64 n', .slice A' l' c']] w fun e w' => e = .returned (.bool b) ∧ Below w.heap.size w w' := by
  have HW := Lib.hid hw
  have HW' := Lib.hid hw'
  clear hw hw'
  obtain ⟨v, hv⟩ : ∃ v, Bs.vld n ws = v := ⟨_, rfl⟩
  obtain ⟨v', hv'⟩ : ∃ v, Bs.vld n' ws' = v := ⟨_, rfl⟩
  have HV := Lib.hid hv
  have HV' := Lib.hid hv'
  have HT := Lib.hid (boxT_cs w n A l c n' A' l' c')
  have HTB := Lib.hid (boxT_below w n A l c n' A' l' c')
  go_enter Tryd.func29, Tryd.ntmps29
  go_wp2_with fail
  go_at_call 19
  refine (rvalid_b n A l c ws v HV _ (HW.out.below HTB.out)).mono ?_
  rintro e w2 ⟨rfl, hb⟩
  have HC := Lib.hid (HT.out.1.next hb)
  have HC' := Lib.hid (HT.out.2.next hb)
  have HB := Lib.hid (HTB.out.trans (hb.mono HTB.out.size))
  clear hb HT HTB HV
  have c0 := HC.out.at 0 _ rfl
  have c1 := HC.out.at 1 _ rfl
  have d0 := HC'.out.at 0 _ rfl
  have d1 := HC'.out.at 1 _ rfl
  cases v with
  | false =>
    have hr : b = false := by rw [← H.out]; unfold subR pairR; rw [if_pos (.inl hv)]; rfl
    subst hr
    clear H hv hv' HV'
    go_wp2_with fail
    go_ret
    exact ⟨rfl, HB.out⟩
  | true =>
    have HVV := Lib.hid hv
    clear hv
    go_wp2_with fail
    go_at_call 19
    refine (rvalid_b n' A' l' c' ws' v' HV' _ (HW'.out.below HB.out)).mono ?_
    rintro e w3 ⟨rfl, hb3⟩
    have HD := Lib.hid (HC.out.next hb3)
    have HD' := Lib.hid (HC'.out.next hb3)
    have HB3 := Lib.hid (HB.out.trans (hb3.mono HB.out.size))
    clear hb3 HV' HC HC' HB c0 c1 d0 d1
    have c0 := HD.out.at 0 _ rfl
    have c1 := HD.out.at 1 _ rfl
    have d0 := HD'.out.at 0 _ rfl
    have d1 := HD'.out.at 1 _ rfl
    cases v' with
    | false =>
      have hr : b = false := by rw [← H.out]; unfold subR pairR; rw [if_pos (.inr hv')]; rfl
      subst hr
      clear H hv'
      go_wp2_with fail
      go_ret
      exact ⟨rfl, HB3.out⟩
    | true =>
      by_cases hnn : n = n'
      · subst hnn
        obtain ⟨m, rfl⟩ : ∃ m : Nat, n = m := ⟨n.toNat, by have := (Bs.vld_iff.1 hv').1; omega⟩
        have hbb : ((List.range m).all fun i => !Bs.bit ws i || Bs.bit ws' i) = b := by rw [← H.out]; unfold subR pairR; rw [if_neg (by rw [HVV.out, hv']; simp), if_pos rfl, Int.toNat_natCast]; rfl
        have HBB := Lib.hid hbb
        have hm6 : m ≤ 4096 := Bs.vld_le hv'
        clear H hbb hv'
        go_wp2_with fail
        go_loopw [5] (fun v wr => ∃ k : Nat, k ≤ m ∧ v = .int .i64 k ∧ Hid (∀ j, j < k → Bs.bit ws j = true → Bs.bit ws' j = true) ∧ Hid (Cs wr w.heap.size [.int .i64 m, .slice A l c]) ∧ Hid (Cs wr (w.heap.size + 1) [.int .i64 m, .slice A' l' c']) ∧ Hid (Below w.heap.size w wr)) (fun v _ => m - (intOf v).toNat)
        case atStart => exact ⟨0, by omega, rfl, fun j hj => absurd hj (by omega), HD, HD', HB3⟩
        case round =>
          clear c0 c1 d0 d1
          obtain ⟨k, hk, rfl, HK, HC, HD, HB⟩ := hrel
          have c0 := HC.out.at 0 _ rfl
          have c1 := HC.out.at 1 _ rfl
          have d1 := HD.out.at 1 _ rfl
          by_cases hlt : k < m
          · obtain ⟨x, hx⟩ : ∃ x, Bs.bit ws k = x := ⟨_, rfl⟩
            obtain ⟨y, hy⟩ : ∃ y, Bs.bit ws' k = y := ⟨_, rfl⟩
            have HX := Lib.hid hx
            have HY := Lib.hid hy
            have hk6 : k ≤ 1000000 := by omega
            have hlt' : (k : Int) < (m : Int) := by omega
            clear hx hy
            go_wp2_with fail
            go_at_call 50
            refine (bit_b A l c ws k hk6 x HX _ (HW.out.below HB.out)).mono ?_
            rintro e w4 ⟨rfl, q, rfl⟩
            have HC4 := Lib.hid (HC.out.drewN q)
            have HD4 := Lib.hid (HD.out.drewN q)
            have HB4 := Lib.hid (below_drewN HB.out q)
            clear c0 c1 d1
            have c0 := HC4.out.at 0 _ rfl
            have c1 := HC4.out.at 1 _ rfl
            have d1 := HD4.out.at 1 _ rfl
            cases x with
            | false =>
              have HK' : Hid (∀ j, j < k + 1 → Bs.bit ws j = true → Bs.bit ws' j = true) := fun j hj hbj => by
                by_cases hjk : j = k
                · rw [hjk, HX.out] at hbj; cases hbj
                · exact HK.out j (by omega) hbj
              clear HK
              go_wp2_with fail
              go_roundw
              case rel => exact ⟨k + 1, by omega, by go_num, HK', HC4, HD4, HB4⟩
              case measure => simp [intOf]; omega
            | true =>
              go_wp2_with fail
              go_at_call 50
              refine (bit_b A' l' c' ws' k hk6 y HY _ (HW'.out.below HB4.out)).mono ?_
              rintro e w5 ⟨rfl, q5, rfl⟩
              cases y with
              | true =>
                have HK' : Hid (∀ j, j < k + 1 → Bs.bit ws j = true → Bs.bit ws' j = true) := fun j hj hbj => by
                  by_cases hjk : j = k
                  · rw [hjk, HY.out]
                  · exact HK.out j (by omega) hbj
                clear HK
                go_wp2_with fail
                go_roundw
                case rel => exact ⟨k + 1, by omega, by go_num, HK', HC.out.drewN _, HD.out.drewN _, below_drewN HB.out _⟩
                case measure => simp [intOf]; omega
              | false =>
                have hb : b = false := by
                  rw [← HBB.out, Bool.eq_false_iff]
                  intro e
                  have := List.all_eq_true.1 e _ (List.mem_range.2 hlt)
                  rw [HX.out, HY.out] at this
                  cases this
                subst hb
                clear HK HBB
                go_wp2_with fail
                go_ret
                exact ⟨rfl, below_drewN HB.out _⟩
          · have hb : b = true := by
              rw [← HBB.out, List.all_eq_true]
              intro i hi
              have h2 := HK.out i (by have := List.mem_range.1 hi; omega)
              cases hbi : Bs.bit ws i
              · rfl
              · simp [h2 hbi]
            subst hb
            clear HK HBB
            go_wp2_with fail
            go_ret
            exact ⟨rfl, HB.out⟩
      · have hb : b = false := by rw [← H.out]; unfold subR pairR; rw [if_neg (by rw [HVV.out, hv']; simp), if_neg hnn]; rfl
        subst hb
        have hd : (n != n') = true := by simp [hnn]
        clear H hv'
        go_wp2_with fail
        go_ret
        exact ⟨rfl, HB3.out⟩
end Go.Proofs.YtpapbpekihgnlaaDoor
