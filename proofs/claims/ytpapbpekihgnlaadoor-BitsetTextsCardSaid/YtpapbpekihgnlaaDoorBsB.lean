/-
  The walks over Valid of the program and of the reference.
-/
import Derived.Test.YtpapbpekihgnlaaDoorBsA
import Derived.Test.YtpapbpekihgnlaaDoorBsQ
import Derived.Test.YtpapbpekihgnlaaDoorCs
namespace Go.Proofs.YtpapbpekihgnlaaDoor
open Go.RowKit

/-- The world behind the entry of a function that takes a set. -/
def boxS (w : World) (n : Int) (A : Option Addr) (l c : Nat) : World := w.alloc (.cells #[.int .i64 n, .slice A l c] 24)
theorem boxS_below (w : World) (n : Int) (A : Option Addr) (l c : Nat) : Below w.heap.size w (boxS w n A l c) := (Below.refl _ _).alloc (Nat.le_refl _) _
theorem boxS_cs (w : World) (n : Int) (A : Option Addr) (l c : Nat) : Cs (boxS w n A l c) w.heap.size [.int .i64 n, .slice A l c] := Cs.new _ _ _
theorem below_drewN {B : Nat} {a w : World} (h : Below B a w) (q : Nat) : Below B a (w.drewN q) := ⟨h.os, h.tape, h.output, h.size, h.block⟩
theorem Cs.drewN {W : World} {b : Nat} {vs : List Value} (h : Cs W b vs) (q : Nat) : Cs (W.drewN q) b vs := h.next (below_drewN (Below.refl _ _) q)

set_option maxHeartbeats 1000000 in
theorem rvalid_b (n : Int) (A : Option Addr) (l c : Nat) (ws : List Nat) (b : Bool) (H : Hid (Bs.vld n ws = b)) (w : World) (hw : Wd w A l c ws) :
    Calls Tryd.prog 19 #[.agg #[.int .i64 n, .slice A l c]] w fun e w' => e = .returned (.bool b) ∧ Below w.heap.size w w' := by
  have hlm : l ≤ 9223372036854775807 := by have h1 := hw.cap; have h2 := hw.big; unfold maxLen at h2; omega
  have hl := hw.len
  have HW : Hid (Wd (boxS w n A l c) A l c ws) := hw.below (boxS_below w n A l c)
  have HLN := Lib.hid hl
  by_cases h0 : n < 0
  · have hb : b = false := by rw [← H.out]; exact Bs.vld_not (.inl h0)
    subst hb
    clear H hw HW hl
    go_enter Tryd.func19, Tryd.ntmps19
    go_wp2_with fail
    go_ret
    exact ⟨rfl, boxS_below w n A l c⟩
  by_cases h1 : 4096 < n
  · have hb : b = false := by rw [← H.out]; exact Bs.vld_not (.inr (.inl h1))
    subst hb
    have h0' : 0 ≤ n := by omega
    clear H hw HW h0 hl
    go_enter Tryd.func19, Tryd.ntmps19
    go_wp2_with fail
    go_ret
    exact ⟨rfl, boxS_below w n A l c⟩
  obtain ⟨m, rfl⟩ : ∃ m : Nat, n = m := ⟨n.toNat, by omega⟩
  by_cases h2 : l = (m + 63) / 64
  · have hm4 : m ≤ 4096 := by omega
    have H2 := Lib.hid h2
    have hd : ((l : Int) != ((m : Int) + 63) / 64) = false := by simp; omega
    have hl6 : l ≤ 64 := by omega
    clear h0 h1 hl h2 HW
    have HW := Lib.hid hw
    clear hw
    go_enter Tryd.func19, Tryd.ntmps19
    go_wp2_with fail
    go_loopw [3] (fun v wr => ∃ k : Nat, m ≤ k ∧ k ≤ 64 * l ∧ v = .int .i64 k ∧ Hid (∀ i, m ≤ i → i < k → Bs.bit ws i = false) ∧ Hid (Cs wr w.heap.size [.int .i64 m, .slice A l c]) ∧ Hid (Below w.heap.size w wr)) (fun v _ => 64 * l - (intOf v).toNat)
    case atStart => exact ⟨m, by omega, by have := H2.out; omega, rfl, fun i _ _ => by omega, boxS_cs w m A l c, boxS_below w m A l c⟩
    case round =>
      obtain ⟨k, hk, hkl, rfl, HK, HC, HB⟩ := hrel
      have c0 := HC.out.at 0 _ rfl
      have c1 := HC.out.at 1 _ rfl
      by_cases hlt : k < 64 * l
      · obtain ⟨x, hx⟩ : ∃ x, Bs.bit ws k = x := ⟨_, rfl⟩
        have HX := Lib.hid hx
        clear hx
        have hk6 : k ≤ 1000000 := by omega
        have HW' := Lib.hid (HW.out.below HB.out)
        cases x
        · have HK' : Hid (∀ i, m ≤ i → i < k + 1 → Bs.bit ws i = false) := fun i h1 h2 => by
            by_cases hi : i = k
            · rw [hi]; exact HX.out
            · exact HK.out i h1 (by omega)
          clear HK
          go_wp2_with fail
          go_at_call 50
          refine (bit_b A l c ws k hk6 _ HX _ HW'.out).mono ?_
          rintro e w2 ⟨rfl, q, rfl⟩
          go_wp2_with fail
          go_roundw
          case rel => exact ⟨k + 1, by omega, by omega, by go_num, HK', HC.out.drewN _, below_drewN HB.out _⟩
          case measure => simp [intOf]; omega
        · have hb : b = false := by
            rw [← H.out, Bool.eq_false_iff]
            intro hv
            have := (Bs.vld_iff.1 hv).2.2.2 k (by omega)
            rw [HX.out] at this
            cases this
          subst hb
          clear HK H
          go_wp2_with fail
          go_at_call 50
          refine (bit_b A l c ws k hk6 _ HX _ HW'.out).mono ?_
          rintro e w2 ⟨rfl, q, rfl⟩
          go_wp2_with fail
          go_ret
          exact ⟨rfl, below_drewN HB.out _⟩
      · have hb : b = true := by
          rw [← H.out, Bs.vld_iff]
          have := H2.out
          refine ⟨by omega, by omega, by rw [HLN.out]; omega, fun i hi => ?_⟩
          by_cases hik : i < k
          · exact HK.out i (by omega) hik
          · exact Bs.bit_none (by rw [HLN.out]; omega)
        subst hb
        clear HK H
        go_wp2_with fail
        go_ret
        exact ⟨rfl, HB.out⟩
  · have hb : b = false := by rw [← H.out]; exact Bs.vld_not (.inr (.inr (by rw [hl]; omega)))
    subst hb
    have hd : ((l : Int) != ((m : Int) + 63) / 64) = true := by simp; omega
    clear H hw HW hl
    go_enter Tryd.func19, Tryd.ntmps19
    go_wp2_with fail
    go_ret
    exact ⟨rfl, boxS_below w m A l c⟩
end Go.Proofs.YtpapbpekihgnlaaDoor
