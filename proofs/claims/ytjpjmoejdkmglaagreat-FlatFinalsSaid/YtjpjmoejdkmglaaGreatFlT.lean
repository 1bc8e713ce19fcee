/-
  The walks over rising and shaped.
-/
import Derived.Test.YtjpjmoejdkmglaaGreatFlO
namespace Go.Proofs.YtjpjmoejdkmglaaGreat
open Go.RowKit

/-- Is a list strictly rising? -/
def risB (zs : List Int) : Bool := (List.range (zs.length - 1)).all fun i => decide (zs.getD i 0 < zs.getD (i + 1) 0)
theorem ris_bad {zs : List Int} {i : Nat} (h : i + 1 < zs.length) (hb : ¬ zs.getD i 0 < zs.getD (i + 1) 0) : risB zs = false := by
  unfold risB
  rw [List.all_eq_false]
  exact ⟨i, List.mem_range.2 (by omega), by rw [decide_eq_false hb]; simp⟩
theorem ris_all {zs : List Int} (h : ∀ i, i + 1 < zs.length → zs.getD i 0 < zs.getD (i + 1) 0) : risB zs = true := by
  unfold risB
  rw [List.all_eq_true]
  exact fun i hi => decide_eq_true (h i (by have := List.mem_range.1 hi; omega))

set_option maxHeartbeats 2000000 in
theorem rising_b (zs : List Int) (b : Bool) (H : Hid (risB zs = b)) (A : Option Addr) (l c : Nat) (w : World) (hz : Zs w A l c zs) :
    Calls Tryz.prog 95 #[.slice A l c] w fun e w' => e = .returned (.bool b) ∧ Below w.heap.size w w' := by
  have HZ := Lib.hid hz
  have HL := Lib.hid hz.len
  have hlm : l ≤ 9223372036854775807 := by have h1 := hz.cap; have h2 := hz.big; unfold maxLen at h2; omega
  clear hz
  go_enter Tryz.func95, Tryz.ntmps95
  go_wp2_with fail
  go_loopw [6] (fun v wr => ∃ k : Nat, k ≤ l ∧ v = .int .i64 k ∧ Hid (∀ i, i + 1 < k → zs.getD i 0 < zs.getD (i + 1) 0) ∧ Hid (Below w.heap.size w wr)) (fun v _ => l - (intOf v).toNat)
  case atStart => exact ⟨0, by omega, rfl, Lib.hid (fun i h => absurd h (by omega)), Lib.hid (Below.refl _ _)⟩
  case round =>
    obtain ⟨k, hk, rfl, HK, HB⟩ := hrel
    by_cases hlt : k < l
    · obtain ⟨g, f, hA, hg, hc⟩ := (HZ.out.below HB.out).mem (by omega)
      subst hA
      have hlt' : (k : Int) < (l : Int) := by omega
      by_cases h0 : k = 0
      · subst h0
        have hd : decide ((0 : Int) < 0) = false := rfl
        clear hc
        go_upto_region 4 with fail
        go_quiet (fail)
        go_wp2_with fail
        go_roundw
        case rel => exact ⟨1, by omega, rfl, Lib.hid (fun i h => absurd h (by omega)), Lib.hid (below_drewN HB.out _)⟩
        case measure => simp [intOf]; omega
      · obtain ⟨j, hkj⟩ : ∃ j, k = j + 1 := ⟨k - 1, by omega⟩
        have ck := hc k hlt
        have cj := hc j (by omega)
        obtain ⟨x, hx⟩ : ∃ x, zs.getD k 0 = x := ⟨_, rfl⟩
        obtain ⟨y, hy⟩ : ∃ y, zs.getD j 0 = y := ⟨_, rfl⟩
        rw [hx] at ck
        rw [hy] at cj
        have HX := Lib.hid hx
        have HY := Lib.hid hy
        have hd : decide ((0 : Int) < (k : Int)) = true := decide_eq_true (by omega)
        have hd' : 0 < k := by omega
        have hd2 : decide (0 < k) = true := decide_eq_true hd'
        have hj : (j : Int) < (l : Int) := by omega
        have hwk : IntKind.i64.wrap ((k : Int) - 1) = (j : Int) := by rw [show (k : Int) - 1 = (j : Int) by omega]; exact IntWalk.i64_in _ (by omega)
        have HKJ := Lib.hid hkj
        clear hc hx hy hkj h0
        by_cases hxy : x ≤ y
        · have hb : b = false := by
            rw [← H.out]
            exact ris_bad (i := j) (by rw [HL.out]; have := HKJ.out; omega) (by rw [← HKJ.out, HX.out, HY.out]; omega)
          subst hb
          have he : decide (x ≤ y) = true := decide_eq_true hxy
          clear H HK
          go_upto_region 4 with fail
          go_quiet (fail)
          go_wp2_with fail
          go_ret
          exact ⟨rfl, below_drewN HB.out _⟩
        · have he : decide (x ≤ y) = false := decide_eq_false hxy
          have HK' : Hid (∀ i, i + 1 < k + 1 → zs.getD i 0 < zs.getD (i + 1) 0) := fun i hi => by
            by_cases hik : i = j
            · subst hik; rw [← HKJ.out, HX.out, HY.out]; omega
            · exact HK.out i (by have := HKJ.out; omega)
          clear HK H
          go_upto_region 4 with fail
          go_quiet (fail)
          go_wp2_with fail
          go_roundw
          case rel => exact ⟨k + 1, by omega, by go_num, HK', Lib.hid (below_drewN HB.out _)⟩
          case measure => simp [intOf]; omega
    · have hb : b = true := by
        rw [← H.out]
        exact ris_all fun i hi => HK.out i (by have := HL.out; omega)
      subst hb
      clear HK H
      go_wp2_with fail
      go_ret
      exact ⟨rfl, HB.out⟩
end Go.Proofs.YtjpjmoejdkmglaaGreat
