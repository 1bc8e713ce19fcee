/-
  The walks over math/bits.OnesCount64 and TrailingZeros64.
-/
import Derived.Test.YtpapbpekihgnlaaDoorBsI
import Derived.Lib.TrailingZeros
namespace Go.Proofs.YtpapbpekihgnlaaDoor
open Go.RowKit

theorem i64_and_nat (a b : Nat) (ha : a < 2 ^ 63) (hb : b < 2 ^ 63) : bits .and .i64 (a : Int) (b : Int) = ((a &&& b : Nat) : Int) := by
  have hx : a &&& b < 2 ^ 63 := Nat.and_lt_two_pow _ hb
  show IntKind.i64.wrap ((BitVec.ofInt 64 (a : Int) &&& BitVec.ofInt 64 (b : Int)).toNat : Int) = _
  rw [BitVec.toNat_and, ofInt_u64 a (by omega), ofInt_u64 b (by omega), IntKind.wrap_i64]
  omega

set_option maxHeartbeats 1000000 in
theorem ones_b (x : Nat) (hx : x < 2 ^ 64) (w : World) :
    Calls Tryd.prog 56 #[.int .u64 x] w fun e w' => e = .returned (.int .i64 (Bs.pc 64 x : Nat)) ∧ w' = w := by
  go_enter Tryd.func56, Tryd.ntmps56
  go_wp2_with fail
  obtain ⟨a, ha⟩ : ∃ a, Bs.S1 32 x = a := ⟨_, rfl⟩
  obtain ⟨b, hb⟩ : ∃ b, Bs.S2 16 x = b := ⟨_, rfl⟩
  obtain ⟨c, hc⟩ : ∃ c, Bs.S3 8 x = c := ⟨_, rfl⟩
  obtain ⟨d, hd⟩ : ∃ d, c + c / 256 = d := ⟨_, rfl⟩
  obtain ⟨e, he⟩ : ∃ e, d + d / 65536 = e := ⟨_, rfl⟩
  obtain ⟨f, hf⟩ : ∃ f, e + e / 4294967296 = f := ⟨_, rfl⟩
  have hal : 3 * a ≤ 2 * (4 ^ 32 - 1) := by rw [← ha]; exact Bs.s1_lt 32 x
  have hbl : 15 * b ≤ 4 * (16 ^ 16 - 1) := by rw [← hb]; exact Bs.s2_lt 16 x
  have h1 : IntKind.u64.wrap (bits .and .u64 ((x : Int) / 2) 6148914691236517205 + bits .and .u64 (x : Int) 6148914691236517205) = (a : Int) := by
    have := Bs.s1 32 x
    rw [Bs.rep_32, ha] at this
    rw [show ((x : Int) / 2) = ((x / 2 : Nat) : Int) by omega, show (6148914691236517205 : Int) = ((6148914691236517205 : Nat) : Int) from rfl, u64_and_nat _ _ (by omega) (by decide), u64_and_nat _ _ hx (by decide), ← Int.natCast_add, this]
    exact IntWalk.u64_in _ (by omega)
  have h2 : IntKind.u64.wrap (bits .and .u64 ((a : Int) / 4) 3689348814741910323 + bits .and .u64 (a : Int) 3689348814741910323) = (b : Int) := by
    have := Bs.s2 16 x
    rw [Bs.rep_16, ha, hb] at this
    rw [show ((a : Int) / 4) = ((a / 4 : Nat) : Int) by omega, show (3689348814741910323 : Int) = ((3689348814741910323 : Nat) : Int) from rfl, u64_and_nat _ _ (by omega) (by decide), u64_and_nat _ _ (by omega) (by decide), ← Int.natCast_add, this]
    exact IntWalk.u64_in _ (by omega)
  have h3 : bits .and .u64 (IntKind.u64.wrap ((b : Int) / 16 + (b : Int))) 1085102592571150095 = (c : Int) := by
    have := Bs.s3 8 x
    rw [Bs.rep_8, hb, hc] at this
    rw [show ((b : Int) / 16 + (b : Int)) = ((b / 16 + b : Nat) : Int) by omega, IntWalk.u64_in _ (by omega), show (1085102592571150095 : Int) = ((1085102592571150095 : Nat) : Int) from rfl, u64_and_nat _ _ (by omega) (by decide), this]
  obtain ⟨h7, hfl⟩ := Bs.s4 x c d e hc hd he
  rw [hf] at h7 hfl
  have h4 : IntKind.u64.wrap ((c : Int) + (c : Int) / 256) = (d : Int) := by
    rw [show ((c : Int) + (c : Int) / 256) = (d : Int) by omega]
    exact IntWalk.u64_in _ (by omega)
  have h5 : IntKind.u64.wrap ((d : Int) + (d : Int) / 65536) = (e : Int) := by
    rw [show ((d : Int) + (d : Int) / 65536) = (e : Int) by omega]
    exact IntWalk.u64_in _ (by omega)
  have h6 : IntKind.u64.wrap ((e : Int) + (e : Int) / 4294967296) = (f : Int) := by
    rw [show ((e : Int) + (e : Int) / 4294967296) = (f : Int) by omega]
    exact IntWalk.u64_in _ (by omega)
  rw [h1, h2, h3, h4, h5, h6]
  go_ret
  refine ⟨ret_int ?_, rfl⟩
  rw [IntWalk.wrap64_in _ (by omega), show (127 : Int) = ((127 : Nat) : Int) from rfl, i64_and_nat _ _ hfl (by decide), show 127 = 2 ^ 7 - 1 from rfl, Nat.and_two_pow_sub_one_eq_mod]
  rw [← h7]

/-- The table in memory. -/
structure Tb (w : World) : Prop where
  lt : 0 < w.heap.size
  cell : ∀ j, j < 64 → w.cell? ⟨0, j, none⟩ = some (.int .u8 (Lib.deBruijn64tab.getD j 0 : Nat))
theorem Tb.below {w w' : World} (h : Tb w) (hb : Below w.heap.size w w') : Tb w' := ⟨Nat.lt_of_lt_of_le h.lt hb.size, fun j hj => (hb.cell (p := ⟨0, j, none⟩) h.lt).trans (h.cell j hj)⟩

set_option maxHeartbeats 1000000 in
theorem tz_b (t m : Nat) (hx : 2 ^ t * (2 * m + 1) < 2 ^ 64) (x : Nat) (hxx : 2 ^ t * (2 * m + 1) = x) (w : World) (hT : Tb w) :
    Calls Tryd.prog 57 #[.int .u64 x] w fun e w' => e = .returned (.int .i64 t) ∧ w' = w := by
  have ht := Bs.odd_lt hx
  have hlow := Bs.and_neg t m hx
  have hx0 : x ≠ 0 := by rw [← hxx]; have := Nat.two_pow_pos t; exact Nat.ne_of_gt (Nat.mul_pos this (by omega))
  rw [hxx] at hx hlow
  obtain ⟨hi, htab⟩ := Lib.deBruijn64_at t ht
  have e1 : IntKind.u64.wrap (-(x : Int)) = ((2 ^ 64 - x : Nat) : Int) := by rw [IntKind.wrap_u64]; omega
  have key : IntKind.u64.wrap (bits BinOp.and IntKind.u64 (x : Int) (IntKind.u64.wrap (-(x : Int))) * 285870213051353865) / 288230376151711744 = ((2 ^ t * 285870213051353865 % 18446744073709551616 / 288230376151711744 : Nat) : Int) := by
    rw [e1, u64_and_nat x _ hx (by omega), hlow, IntKind.wrap_u64]
    generalize 2 ^ t = a
    omega
  have hcell := hT.cell _ hi
  rw [htab] at hcell
  obtain ⟨idx, hidx⟩ : ∃ idx, 2 ^ t * 285870213051353865 % 18446744073709551616 / 288230376151711744 = idx := ⟨_, rfl⟩
  rw [hidx] at key hi hcell
  have hx0' : ((x : Int) == 0) = false := by rw [beq_eq_false_iff_ne]; omega
  have hi' : (idx : Int) < 64 := by omega
  clear hlow e1 hidx htab hxx hT
  go_enter Tryd.func57, Tryd.ntmps57
  go_wp2_with fail
  go_ret
  exact ⟨rfl, rfl⟩
end Go.Proofs.YtpapbpekihgnlaaDoor
