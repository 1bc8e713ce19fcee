/-
  Plain laws of what the functions return.
-/
import Derived.Test.YtpapbpekihgnlaaDoorBsZb
import Derived.Test.YtpapbpekihgnlaaDoorBsO
namespace Go.Proofs.YtpapbpekihgnlaaDoor
open Go.RowKit

theorem same_ints (zs : List Int) : decide (zs = zs) = true := by simp
theorem chR_len (n : Int) (ws : List Nat) (i : Int) (b : Bool) : (chR n ws i b).2.1.length ≤ 64 := by
  unfold chR
  split
  · simp
  · next h =>
    split
    · simp
    · have h1 : Bs.vld n ws = true := by cases e : Bs.vld n ws; exact absurd e h; rfl
      have h2 := (Bs.vld_iff.1 h1).2.1
      simp only [Bs.mk_len]; omega
theorem comR_len (o : Bool → Bool → Bool) (n : Int) (ws : List Nat) (n' : Int) (ws' : List Nat) : (comR o n ws n' ws').2.1.length ≤ 64 := by
  unfold comR
  split
  · next h =>
    have h2 := (Bs.vld_iff.1 (pairR_zero h).1).2.1
    simp only [Bs.mk_len]; omega
  · simp
theorem compR_len (n : Int) (ws : List Nat) : (compR n ws).2.1.length ≤ 64 := by
  unfold compR
  split
  · simp
  · next h =>
    have h1 : Bs.vld n ws = true := by cases e : Bs.vld n ws; exact absurd e h; rfl
    have h2 := (Bs.vld_iff.1 h1).2.1
    simp only [Bs.mk_len]; omega
theorem eqR_self (n : Int) (ws : List Nat) : eqR n ws n ws = Bs.vld n ws := by
  unfold eqR pairR
  cases h : Bs.vld n ws
  · simp
  · simp
theorem membR_len (n : Int) (ws : List Nat) : (membR n ws).length ≤ 4096 := by
  unfold membR
  split
  · next h =>
    have h2 := (Bs.vld_iff.1 h).2.1
    have h3 : (Bs.upto ws n.toNat).length ≤ (List.range n.toNat).length := List.length_filter_le _ _
    rw [List.length_range] at h3
    omega
  · simp
end Go.Proofs.YtpapbpekihgnlaaDoor
