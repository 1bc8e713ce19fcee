/-
  The walks over the small functions on words.
-/
import Derived.Test.YtpapbpekihgnlaaDoorProg
import Derived.Test.YtpapbpekihgnlaaDoorBs
import Derived.WalkSpells
import Derived.WalkLawsBesides
import Derived.BigQuiet
import Derived.Deep.QuietTactic
import Derived.Outline
namespace Go.Proofs.YtpapbpekihgnlaaDoor
open Go.RowKit

theorem ret_bool {a b : Bool} (h : a = b) : Ending.returned (.bool a) = .returned (.bool b) := by rw [h]
theorem ret_int {k : IntKind} {a b : Int} (h : a = b) : Ending.returned (.int k a) = .returned (.int k b) := by rw [h]

set_option maxHeartbeats 400000 in
theorem wordsFor_b (n r : Int) (h0 : 0 ≤ n) (h1 : n ≤ 1000000) (H : Hid ((n + 63) / 64 = r)) (w : World) :
    Calls Tryd.prog 47 #[.int .i64 n] w fun e w' => e = .returned (.int .i64 r) ∧ w = w' := by
  have hr : (n + 64 - 1) / 64 = r := by rw [← H.out]; congr 1; omega
  clear H
  subst hr
  go_enter Tryd.func47, Tryd.ntmps47
  go_wp2_with fail
  go_ret
  exact ⟨rfl, rfl⟩

set_option maxHeartbeats 400000 in
theorem power_b (i : Nat) (hi : i ≤ 63) (p : Nat) (H : Hid (2 ^ i = p)) (w : World) :
    Calls Tryd.prog 68 #[.int .i64 i] w fun e w' => e = .returned (.int .u64 p) ∧ w = w' := by
  go_enter Tryd.func68, Tryd.ntmps68
  go_wp2_with fail
  go_loop [3, 4] (fun u v => ∃ k q : Nat, k ≤ i ∧ u = .int .u64 q ∧ v = .int .i64 k ∧ Hid (2 ^ k = q)) (fun _ v => i - (intOf v).toNat)
  case atStart => exact ⟨0, 1, by omega, rfl, rfl, rfl⟩
  case round =>
    obtain ⟨k, q, hk, rfl, rfl, HQ⟩ := hrel
    by_cases hlt : k < i
    · have hq : q < 9223372036854775808 := by
        rw [← HQ.out]
        exact Nat.lt_of_le_of_lt (Nat.pow_le_pow_right (by omega) (show k ≤ 62 by omega)) (by decide)
      have HS : Hid (2 ^ (k + 1) = q * 2) := by show _ = _; rw [Nat.pow_succ, HQ.out]
      clear HQ
      go_wp2_with fail
      go_round
      case rel => exact ⟨k + 1, q * 2, by omega, by go_num, by go_num, HS⟩
      case measure => simp [intOf]; omega
    · obtain rfl : i = k := by omega
      have hp : p = q := by rw [← H.out, HQ.out]
      subst hp
      clear H HQ
      go_wp2_with fail
      go_ret
      exact ⟨rfl, rfl⟩

/-- A list of words in memory. -/
structure Wd (W : World) (A : Option Addr) (l c : Nat) (ws : List Nat) : Prop where
  len : ws.length = l
  cap : l ≤ c
  big : c ≤ maxLen
  fits : Bs.fits ws
  mem : 0 < l → ∃ g f, A = some ⟨g, f, none⟩ ∧ g < W.heap.size ∧ ∀ j, j < l → W.cell? ⟨g, f + j, none⟩ = some (.int .u64 (ws.getD j 0 : Nat))
theorem Wd.below {W W' : World} {A : Option Addr} {l c : Nat} {ws : List Nat} (h : Wd W A l c ws) (hb : Below W.heap.size W W') : Wd W' A l c ws :=
  ⟨h.len, h.cap, h.big, h.fits, fun h0 => by
    obtain ⟨g, f, h1, h2, h3⟩ := h.mem h0
    exact ⟨g, f, h1, Nat.lt_of_lt_of_le h2 hb.size, fun j hj => (hb.cell (p := ⟨g, _, none⟩) h2).trans (h3 j hj)⟩⟩
theorem Wd.drewN {W : World} {A : Option Addr} {l c : Nat} {ws : List Nat} (h : Wd W A l c ws) (q : Nat) : Wd (W.drewN q) A l c ws := h.below ⟨rfl, rfl, rfl, Nat.le_refl _, fun _ _ => rfl⟩

set_option maxHeartbeats 1000000 in
theorem bit_b (A : Option Addr) (l c : Nat) (ws : List Nat) (i : Nat) (hi : i ≤ 1000000) (b : Bool) (H : Hid (Bs.bit ws i = b)) (w : World) (hw : Wd w A l c ws) :
    Calls Tryd.prog 50 #[.slice A l c, .int .i64 i] w fun e w' => e = .returned (.bool b) ∧ ∃ q, w' = w.drewN q := by
  have hlm : l ≤ 9223372036854775807 := by have h1 := hw.cap; have h2 := hw.big; unfold maxLen at h2; omega
  have HW := Lib.hid hw
  clear hw
  by_cases hlt : i / 64 < l
  · obtain ⟨g, f, hA, hg, hc⟩ := HW.out.mem (by omega)
    subst hA
    have hcell := hc (i / 64) hlt
    have hx := HW.out.fits (i / 64)
    obtain ⟨x, hxx⟩ : ∃ x, ws.getD (i / 64) 0 = x := ⟨_, rfl⟩
    rw [hxx] at hcell hx
    obtain ⟨p, hp⟩ : ∃ p, 2 ^ (i % 64) = p := ⟨_, rfl⟩
    have HP := Lib.hid hp
    have hp1 : 1 ≤ p := by rw [← hp]; exact Nat.one_le_two_pow
    have hb : decide (x / p % 2 = 1) = b := by rw [← H.out, Bs.bit_div, hxx, hp]
    have HB : Hid (((IntKind.u64.wrap ((x : Int) / (p : Int))).tmod 2 == 1) = b) := by
      show _ = _
      have h1 : x / p ≤ x := Nat.div_le_self x p
      obtain ⟨y, hy⟩ : ∃ y, x / p = y := ⟨_, rfl⟩
      have h2 : IntKind.u64.wrap ((x : Int) / (p : Int)) = (y : Int) := by
        rw [← Int.natCast_ediv, hy]; exact IntWalk.u64_in _ (by omega)
      rw [h2, ← hb, hy, Int.tmod_eq_emod_of_nonneg (by omega), Bool.eq_iff_iff]
      simp
      omega
    have hd : decide ((i : Int) / 64 < (l : Int)) = true := by rw [decide_eq_true_iff]; omega
    have hi0 : (0 : Int) ≤ (i : Int) / 64 := by omega
    have hm0 : (i % 64) ≤ 63 := by omega
    clear hc hxx hp hb H
    go_enter Tryd.func50, Tryd.ntmps50
    go_wp2_with fail
    go_quiet ((go_at_call 68; exact Calls.quiet_of_same ((power_b (i % 64) hm0 p HP _).mono fun _ _ h => ⟨h.1, h.2.symm⟩)))
    go_wp2_with fail
    go_ret
    exact ⟨ret_bool HB.out, _, rfl⟩
  · have hb : b = false := by
      rw [← H.out]; unfold Bs.bit
      rw [List.getD_eq_getElem?_getD, List.getElem?_eq_none (by rw [HW.out.len]; omega)]
      simp
    subst hb
    have hd : decide ((i : Int) / 64 < (l : Int)) = false := by rw [decide_eq_false_iff_not]; omega
    clear H
    go_enter Tryd.func50, Tryd.ntmps50
    go_wp2_with fail
    go_quiet (fail)
    go_wp2_with fail
    go_ret
    exact ⟨rfl, _, rfl⟩
end Go.Proofs.YtpapbpekihgnlaaDoor
