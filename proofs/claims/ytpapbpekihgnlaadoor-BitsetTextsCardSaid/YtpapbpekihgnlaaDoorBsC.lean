/-
  The walk over the program's Valid.
-/
import Derived.Test.YtpapbpekihgnlaaDoorBsB
namespace Go.Proofs.YtpapbpekihgnlaaDoor
open Go.RowKit

set_option maxHeartbeats 1000000 in
theorem valid_b (n : Int) (A : Option Addr) (l c : Nat) (ws : List Nat) (b : Bool) (H : Hid (Bs.vld n ws = b)) (w : World) (hw : Wd w A l c ws) :
    Calls Tryd.prog 18 #[.agg #[.int .i64 n, .slice A l c]] w fun e w' => e = .returned (.bool b) ∧ Below w.heap.size w w' := by
  have hlm : l ≤ 9223372036854775807 := by have h1 := hw.cap; have h2 := hw.big; unfold maxLen at h2; omega
  have hl := hw.len
  have HLN := Lib.hid hl
  by_cases h0 : n < 0
  · have hb : b = false := by rw [← H.out]; exact Bs.vld_not (.inl h0)
    subst hb
    clear H hw hl
    go_enter Tryd.func18, Tryd.ntmps18
    go_wp2_with fail
    go_quiet (fail)
    go_wp2_with fail
    go_ret
    exact ⟨rfl, below_drewN (boxS_below w n A l c) _⟩
  by_cases h1 : 4096 < n
  · have hb : b = false := by rw [← H.out]; exact Bs.vld_not (.inr (.inl h1))
    subst hb
    have h0' : 0 ≤ n := by omega
    have hd0 : decide (n < 0) = false := decide_eq_false h0
    clear H hw h0 hl
    go_enter Tryd.func18, Tryd.ntmps18
    go_wp2_with fail
    go_quiet (fail)
    go_wp2_with fail
    go_ret
    exact ⟨rfl, below_drewN (boxS_below w n A l c) _⟩
  obtain ⟨m, rfl⟩ : ∃ m : Nat, n = m := ⟨n.toNat, by omega⟩
  have hd0 : decide ((m : Int) < 0) = false := decide_eq_false h0
  have hd1 : decide ((4096 : Int) < (m : Int)) = false := decide_eq_false h1
  obtain ⟨p, hp⟩ : ∃ p : Nat, (m + 63) / 64 = p := ⟨_, rfl⟩
  have HP : Hid (((m : Int) + 63) / 64 = (p : Int)) := by show _ = _; omega
  have hm0 : (0 : Int) ≤ (m : Int) := by omega
  have hm1 : (m : Int) ≤ 1000000 := by omega
  by_cases h2 : l = p
  · have hm4 : m ≤ 4096 := by omega
    have hd : ((l : Int) != (p : Int)) = false := by simp; omega
    have hl6 : l ≤ 64 := by omega
    have HW := Lib.hid hw
    clear hl
    go_enter Tryd.func18, Tryd.ntmps18
    go_wp2_with fail
    go_quiet ((go_at_call 47; exact Calls.quiet_of_same ((wordsFor_b m p hm0 hm1 HP _).mono fun _ _ h => ⟨h.1, h.2.symm⟩)))
    have hv := Bs.vld_last hw.fits hm4 (by rw [HLN.out]; omega)
    rw [H.out, HLN.out] at hv
    clear H hw
    by_cases h64 : m % 64 = 0
    · have hb : b = true := by rw [hv]; simp [h64]
      subst hb
      clear hv HW
      go_wp2_with fail
      go_ret
      exact ⟨rfl, below_drewN (boxS_below w m A _ c) _⟩
    · obtain ⟨k, rfl⟩ : ∃ k, p = k + 1 := ⟨p - 1, by omega⟩
      obtain ⟨g, f, hA, hg, hc⟩ := HW.out.mem (by omega)
      subst hA
      have hcell := hc k (by omega)
      have hx := HW.out.fits k
      obtain ⟨x, hxx⟩ : ∃ x, ws.getD k 0 = x := ⟨_, rfl⟩
      rw [h2, show k + 1 - 1 = k by omega, hxx] at hv
      rw [hxx] at hcell hx
      have hd6 : ((m : Int).tmod 64 == 0) = false := by rw [Int.tmod_eq_emod_of_nonneg (by omega)]; simp; omega
      clear hc HW hxx
      go_wp2_with fail
      go_ret
      refine ⟨ret_bool ?_, below_drewN (boxS_below w m _ _ c) _⟩
      have hpw : ((2 : Int) ^ (m % 64)) = ((2 ^ (m % 64) : Nat) : Int) := by rw [Int.natCast_pow]; rfl
      have e1 : ((m : Int) % 64 == 0) = decide (m % 64 = 0) := by rw [Bool.eq_iff_iff]; simp; omega
      have e2 : ((x : Int) / 2 ^ (m % 64) == 0) = decide (x / 2 ^ (m % 64) = 0) := by
        rw [hpw, ← Int.natCast_ediv]; generalize x / 2 ^ (m % 64) = y; rw [Bool.eq_iff_iff, beq_iff_eq, decide_eq_true_iff]; omega
      rw [hv, e1, e2]
  · have hb : b = false := by rw [← H.out]; exact Bs.vld_not (.inr (.inr (by rw [hl]; omega)))
    subst hb
    have hd : ((l : Int) != (p : Int)) = true := by simp; omega
    clear H hw hl h0 h1 h2 hp
    go_enter Tryd.func18, Tryd.ntmps18
    go_wp2_with fail
    go_quiet ((go_at_call 47; exact Calls.quiet_of_same ((wordsFor_b m p hm0 hm1 HP _).mono fun _ _ h => ⟨h.1, h.2.symm⟩)))
    go_wp2_with fail
    go_ret
    exact ⟨rfl, below_drewN (boxS_below w m A l c) _⟩
end Go.Proofs.YtpapbpekihgnlaaDoor
