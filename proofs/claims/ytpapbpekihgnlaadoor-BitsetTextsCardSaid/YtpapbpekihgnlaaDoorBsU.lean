/-
  The walks over the reference's Same and Equal.
-/
import Derived.Test.YtpapbpekihgnlaaDoorBsT
namespace Go.Proofs.YtpapbpekihgnlaaDoor
open Go.RowKit

set_option maxHeartbeats 1000000 in
theorem same_b (n : Int) (A : Option Addr) (l c : Nat) (ws : List Nat) (n' : Int) (A' : Option Addr) (l' c' : Nat) (ws' : List Nat) (b : Bool) (H : Hid ((decide (n = n') && decide (ws = ws')) = b)) (hlm : l ≤ 1000000) (w : World) (hw : Wd w A l c ws) (hw' : Wd w A' l' c' ws') :
    Calls Tryd.prog 20 #[.agg #[.int .i64 n, .slice A l c], .agg #[.int .i64 n', .slice A' l' c']] w fun e w' => e = .returned (.bool b) ∧ Below w.heap.size w w' := by
  have HW := Lib.hid hw
  have HW' := Lib.hid hw'
  have hcl := hw.cap
  have hcl' := hw'.cap
  have hbig := hw'.big
  have hlm' : l' ≤ 9223372036854775807 := by unfold maxLen at hbig; omega
  clear hw hw' hbig
  by_cases hnn : n = n'
  · subst hnn
    by_cases hll : l = l'
    · subst hll
      go_enter Tryd.func20, Tryd.ntmps20
      go_wp2_with fail
      go_loopw [5] (fun v wr => ∃ k : Nat, k ≤ l ∧ v = .int .i64 k ∧ Hid (∀ j, j < k → ws.getD j 0 = ws'.getD j 0) ∧ Hid (Cs wr w.heap.size [.int .i64 n, .slice A l c]) ∧ Hid (Cs wr (w.heap.size + 1) [.int .i64 n, .slice A' l c']) ∧ Hid (Below w.heap.size w wr)) (fun v _ => l - (intOf v).toNat)
      case atStart => exact ⟨0, by omega, rfl, fun j hj => absurd hj (by omega), (boxT_cs w n A l c n A' l c').1, (boxT_cs w n A l c n A' l c').2, boxT_below w n A l c n A' l c'⟩
      case round =>
        obtain ⟨k, hk, rfl, HK, HC, HD, HB⟩ := hrel
        have c1 := HC.out.at 1 _ rfl
        have d1 := HD.out.at 1 _ rfl
        by_cases hlt : k < l
        · obtain ⟨g, f, hA, hg, hc⟩ := (HW.out.below HB.out).mem (by omega)
          subst hA
          obtain ⟨g', f', hA', hg', hc'⟩ := (HW'.out.below HB.out).mem (by omega)
          subst hA'
          have hcell := hc k hlt
          have hcell' := hc' k hlt
          obtain ⟨x, hx⟩ : ∃ x, ws.getD k 0 = x := ⟨_, rfl⟩
          obtain ⟨y, hy⟩ : ∃ y, ws'.getD k 0 = y := ⟨_, rfl⟩
          rw [hx] at hcell
          rw [hy] at hcell'
          have hlt' : (k : Int) < (l : Int) := by omega
          clear hc hc'
          by_cases hxy : x = y
          · have HK' : Hid (∀ j, j < k + 1 → ws.getD j 0 = ws'.getD j 0) := fun j hj => by
              by_cases hjk : j = k
              · rw [hjk, hx, hy, hxy]
              · exact HK.out j (by omega)
            have hd : ((x : Int) != (y : Int)) = false := by simp [hxy]
            clear HK hx hy hxy
            go_wp2_with fail
            go_region
            go_wp2_with fail
            go_roundw
            case rel => exact ⟨k + 1, by omega, by go_num, HK', HC.out.drew, HD.out.drew, HB.out.drew⟩
            case measure => simp [intOf]; omega
          · have hb : b = false := by rw [← H.out, Bool.and_eq_false_iff]; right; rw [decide_eq_false_iff_not]; intro e; apply hxy; rw [← hx, ← hy, e]
            subst hb
            have hd : ((x : Int) != (y : Int)) = true := by simp; omega
            clear HK hx hy hxy H
            go_wp2_with fail
            go_region
            go_wp2_with fail
            go_ret
            exact ⟨rfl, HB.out.drew⟩
        · have hb : b = true := by
            rw [← H.out, Bool.and_eq_true, decide_eq_true_iff, decide_eq_true_iff]
            refine ⟨trivial, List.ext_getElem (by rw [HW.out.len, HW'.out.len]) fun j h1 h2 => ?_⟩
            have := HK.out j (by have := HW.out.len; omega)
            simpa [List.getD_eq_getElem?_getD, h1, h2] using this
          subst hb
          clear HK H
          go_wp2_with fail
          go_ret
          exact ⟨rfl, HB.out⟩
    · have hb : b = false := by rw [← H.out, Bool.and_eq_false_iff]; right; rw [decide_eq_false_iff_not]; intro e; apply hll; rw [← HW.out.len, ← HW'.out.len, e]
      subst hb
      have hd : ((l : Int) != (l' : Int)) = true := by simp; omega
      have hd0 : (n != n) = false := by simp
      clear H
      go_enter Tryd.func20, Tryd.ntmps20
      go_wp2_with fail
      go_ret
      exact ⟨rfl, boxT_below w n A l c n A' l' c'⟩
  · have hb : b = false := by rw [← H.out, Bool.and_eq_false_iff]; left; rw [decide_eq_false_iff_not]; exact hnn
    subst hb
    have hd : (n != n') = true := by simp [hnn]
    clear H
    go_enter Tryd.func20, Tryd.ntmps20
    go_wp2_with fail
    go_ret
    exact ⟨rfl, boxT_below w n A l c n' A' l' c'⟩
end Go.Proofs.YtpapbpekihgnlaaDoor
