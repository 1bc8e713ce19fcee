/-
  The walks over Equal, Subset, Count, Next and Least.
-/
import Derived.Test.YtpapbpekihgnlaaDoorBsJ
namespace Go.Proofs.YtpapbpekihgnlaaDoor
open Go.RowKit

set_option maxHeartbeats 1000000 in
theorem equal64_b (A : Option Addr) (l c : Nat) (ws : List Nat) (A' : Option Addr) (l' c' : Nat) (ws' : List Nat) (b : Bool) (H : Hid (decide (ws = ws') = b)) (w : World) (hw : Wd w A l c ws) (hw' : Wd w A' l' c' ws') (hlm : l ≤ 1000000) :
    Calls Tryd.prog 54 #[.slice A l c, .slice A' l' c'] w fun e w' => e = .returned (.bool b) ∧ Below w.heap.size w w' := by
  have HW := Lib.hid hw
  have HW' := Lib.hid hw'
  clear hw hw'
  by_cases hll : l = l'
  · subst hll
    go_enter Tryd.func54, Tryd.ntmps54
    go_wp2_with fail
    go_loopw [13] (fun v wr => ∃ k : Nat, k ≤ l ∧ v = .int .i64 k ∧ Hid (∀ j, j < k → ws.getD j 0 = ws'.getD j 0) ∧ Hid (Below w.heap.size w wr)) (fun v _ => l - (intOf v).toNat)
    case atStart => exact ⟨0, by omega, rfl, fun j hj => absurd hj (by omega), Below.refl _ _⟩
    case round =>
      obtain ⟨k, hk, rfl, HK, HB⟩ := hrel
      by_cases hlt : k < l
      · obtain ⟨g, f, hA, hg, hc⟩ := (HW.out.below HB.out).mem (by omega)
        subst hA
        obtain ⟨g', f', hA', hg', hc'⟩ := (HW'.out.below HB.out).mem (by omega)
        subst hA'
        have hcell := hc k hlt
        have hcell' := hc' k hlt
        obtain ⟨x, hx⟩ : ∃ x, ws.getD k 0 = x := ⟨_, rfl⟩
        obtain ⟨y, hy⟩ : ∃ y, ws'.getD k 0 = y := ⟨_, rfl⟩
        rw [hx] at hcell
        rw [hy] at hcell'
        have hlt' : (k : Int) < (l : Int) := by omega
        clear hc hc'
        by_cases hxy : x = y
        · have HK' : Hid (∀ j, j < k + 1 → ws.getD j 0 = ws'.getD j 0) := fun j hj => by
            by_cases hjk : j = k
            · rw [hjk, hx, hy, hxy]
            · exact HK.out j (by omega)
          have hd : ((x : Int) != (y : Int)) = false := by simp [hxy]
          clear HK hx hy hxy
          go_wp2_with fail
          go_region
          go_wp2_with fail
          go_roundw
          case rel => exact ⟨k + 1, by omega, by go_num, HK', HB.out.drew⟩
          case measure => simp [intOf]; omega
        · have hb : b = false := by rw [← H.out, decide_eq_false_iff_not]; intro e; apply hxy; rw [← hx, ← hy, e]
          subst hb
          have hd : ((x : Int) != (y : Int)) = true := by simp; omega
          clear HK hx hy hxy H
          go_wp2_with fail
          go_region
          go_wp2_with fail
          go_ret
          exact ⟨rfl, HB.out.drew⟩
      · have hb : b = true := by
          rw [← H.out, decide_eq_true_iff]
          refine List.ext_getElem (by rw [HW.out.len, HW'.out.len]) fun j h1 h2 => ?_
          have := HK.out j (by have := HW.out.len; omega)
          simpa [List.getD_eq_getElem?_getD, h1, h2] using this
        subst hb
        clear HK H
        go_wp2_with fail
        go_ret
        exact ⟨rfl, HB.out⟩
  · have hb : b = false := by rw [← H.out, decide_eq_false_iff_not]; intro e; apply hll; rw [← HW.out.len, ← HW'.out.len, e]
    subst hb
    have hd : ((l : Int) != (l' : Int)) = true := by simp; omega
    clear H
    go_enter Tryd.func54, Tryd.ntmps54
    go_wp2_with fail
    go_ret
    exact ⟨rfl, Below.refl _ _⟩

/-- What Equal returns. -/
def eqR (n : Int) (ws : List Nat) (n' : Int) (ws' : List Nat) : Bool := decide (pairR n ws n' ws' = 0) && decide (ws = ws')

set_option maxHeartbeats 1000000 in
theorem equal_b (n : Int) (A : Option Addr) (l c : Nat) (ws : List Nat) (n' : Int) (A' : Option Addr) (l' c' : Nat) (ws' : List Nat) (b : Bool) (H : Hid (eqR n ws n' ws' = b)) (w : World) (hw : Wd w A l c ws) (hw' : Wd w A' l' c' ws') :
    Calls Tryd.prog 26 #[.agg #[.int .i64 n, .slice A l c], .agg #[.int .i64 n', .slice A' l' c']] w fun e w' => e = .returned (.bool b) ∧ Below w.heap.size w w' := by
  have HW := Lib.hid hw
  have HW' := Lib.hid hw'
  clear hw hw'
  obtain ⟨p, hp⟩ : ∃ p, pairR n ws n' ws' = p := ⟨_, rfl⟩
  have HP := Lib.hid hp
  have HT := Lib.hid (boxT_cs w n A l c n' A' l' c')
  have HTB := Lib.hid (boxT_below w n A l c n' A' l' c')
  go_enter Tryd.func26, Tryd.ntmps26
  go_wp2_with fail
  go_at_call 53
  refine (pair_b n A l c ws n' A' l' c' ws' p HP _ (HW.out.below HTB.out) (HW'.out.below HTB.out)).mono ?_
  rintro e w2 ⟨rfl, hb⟩
  have HC := Lib.hid (HT.out.1.next hb)
  have HC' := Lib.hid (HT.out.2.next hb)
  have HB := Lib.hid (HTB.out.trans (hb.mono HTB.out.size))
  clear hb HT HTB HP
  have c0 := HC.out.at 0 _ rfl
  have c1 := HC.out.at 1 _ rfl
  have d0 := HC'.out.at 0 _ rfl
  have d1 := HC'.out.at 1 _ rfl
  by_cases hp0 : p = 0
  · subst hp0
    have hbb : decide (ws = ws') = b := by rw [← H.out]; unfold eqR; rw [hp]; rfl
    have HBB := Lib.hid hbb
    have hl6 : l ≤ 1000000 := by
      obtain ⟨h1, _, _⟩ := pairR_zero hp
      have := (Bs.vld_iff.1 h1).2.1
      have := (Bs.vld_iff.1 h1).2.2.1
      have := HW.out.len
      omega
    clear H hp hbb
    go_wp2_with fail
    go_at_call 54
    refine (equal64_b A l c ws A' l' c' ws' b HBB _ (HW.out.below HB.out) (HW'.out.below HB.out) hl6).mono ?_
    rintro e w3 ⟨rfl, hb3⟩
    have HB3 := Lib.hid (HB.out.trans (hb3.mono HB.out.size))
    clear hb3
    go_wp2_with fail
    go_ret
    exact ⟨rfl, HB3.out⟩
  · have hb : b = false := by rw [← H.out]; unfold eqR; rw [hp, decide_eq_false hp0]; rfl
    subst hb
    have hd : (p == 0) = false := by simp [hp0]
    clear H hp
    go_wp2_with fail
    go_ret
    exact ⟨rfl, HB.out⟩
end Go.Proofs.YtpapbpekihgnlaaDoor
