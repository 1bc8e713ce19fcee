/-
  Plain laws: the example of the chapter.
  The walk over the example of the chapter.
-/
import Derived.Test.YtjpjmoejdkmglaaGreatJH
import Derived.Test.YtjpjmoejdkmglaaGreatJF
import Derived.Test.YtjpjmoejdkmglaaGreatFlZ
import Derived.Laws.StructEq
import Derived.KernelRfl
namespace Go.Proofs.YtjpjmoejdkmglaaGreat
open Go.RowKit

def kx : ByteArray := ⟨#[120]⟩
def ky : ByteArray := ⟨#[121]⟩
def kvs : List Vr := [⟨⟨#[120]⟩, 1, 0, 3, 0⟩, ⟨⟨#[121]⟩, 0, 0, 2, 1⟩]
def kref (n : Int) : Tm := .mk 24 n []
def klit (n : Int) : Tm := .mk 0 n []
def kks : List Sp := [.mk 0 2 1 0 (.mk 8 0 [kref 0, klit 1]) [] [] [], .mk 1 1 0 0 (kref 1) [] [] [], .mk 2 5 0 0 (.mk 0 0 []) [] [] [], .mk 6 0 0 0 (.mk 0 0 []) [] [] [4, 10, 20]]
theorem k_vars : varsC kvs = 0 := by kernel_rfl
theorem k_check : checkP kvs [] kks = 0 := by kernel_rfl
theorem k_start : startC kvs [] kks ⟨[3], [], []⟩ = (0, [3, 1]) := by kernel_rfl
theorem k_end : endM kvs [] kks [3, 1] = ⟨[3, 2], [2], 10⟩ := by kernel_rfl
theorem k_bad : checkP [⟨⟨#[88]⟩, 0, 0, 0, 0⟩] [] [] = 7 := by kernel_rfl
theorem k_size : sizeL kks = 4 := by kernel_rfl
theorem k_equal : eqF kvs kvs [] [] kks kks = true := by kernel_rfl
def kV : List Value := [.string ⟨#[120]⟩, .int .i64 1, .int .i64 0, .int .i64 3, .int .i64 0, .string ⟨#[121]⟩, .int .i64 0, .int .i64 0, .int .i64 2, .int .i64 1]
def kK : List Value := [.int .i64 24, .int .i64 0, .slice none 0 0, .int .i64 0, .int .i64 1, .slice none 0 0]
def kZ : List Value := [.int .i64 4, .int .i64 10, .int .i64 20]
def kS (bK bZ : Nat) : List Value := [
  .int .i64 0, .int .i64 2, .int .i64 1, .int .i64 0, .int .i64 8, .int .i64 0, .slice (some ⟨bK, 0, none⟩) 2 2, .slice none 0 0, .slice none 0 0, .slice none 0 0,
  .int .i64 1, .int .i64 1, .int .i64 0, .int .i64 0, .int .i64 24, .int .i64 1, .slice none 0 0, .slice none 0 0, .slice none 0 0, .slice none 0 0,
  .int .i64 2, .int .i64 5, .int .i64 0, .int .i64 0, .int .i64 0, .int .i64 0, .slice none 0 0, .slice none 0 0, .slice none 0 0, .slice none 0 0,
  .int .i64 6, .int .i64 0, .int .i64 0, .int .i64 0, .int .i64 0, .int .i64 0, .slice none 0 0, .slice none 0 0, .slice none 0 0, .slice (some ⟨bZ, 0, none⟩) 3 3]
theorem HOk.nil (w : World) : HOk w none 0 0 [] := ⟨rfl, Nat.le_refl _, Nat.zero_le _, by simp, fun h => absurd h (by omega)⟩
theorem VOk.nil (w : World) : VOk w none 0 0 [] := ⟨rfl, Nat.le_refl _, Nat.zero_le _, by simp, fun h => absurd h (by omega)⟩
theorem kVOk {W : World} {b : Nat} (h : Cs W b kV) : VOk W (some ⟨b, 0, none⟩) 2 2 kvs := by
  refine ⟨rfl, Nat.le_refl _, by decide, ?_, fun _ => ⟨b, 0, rfl, h.lt, ?_⟩⟩
  · intro v hv
    simp only [kvs, List.mem_cons, List.not_mem_nil, or_false] at hv
    rcases hv with rfl | rfl <;> decide
  · intro j hj
    match j, hj with
    | 0, _ => exact ⟨h.at 0 _ rfl, h.at 1 _ rfl, h.at 2 _ rfl, h.at 3 _ rfl, h.at 4 _ rfl⟩
    | 1, _ => exact ⟨h.at 5 _ rfl, h.at 6 _ rfl, h.at 7 _ rfl, h.at 8 _ rfl, h.at 9 _ rfl⟩
theorem kVOk1 {W : World} {b : Nat} (h : Cs W b [.string ⟨#[88]⟩, .int .i64 0, .int .i64 0, .int .i64 0, .int .i64 0]) : VOk W (some ⟨b, 0, none⟩) 1 1 [⟨⟨#[88]⟩, 0, 0, 0, 0⟩] := by
  refine ⟨rfl, Nat.le_refl _, by decide, ?_, fun _ => ⟨b, 0, rfl, h.lt, ?_⟩⟩
  · intro v hv
    simp only [List.mem_singleton] at hv
    subst hv; decide
  · intro j hj
    match j, hj with
    | 0, _ => exact ⟨h.at 0 _ rfl, h.at 1 _ rfl, h.at 2 _ rfl, h.at 3 _ rfl, h.at 4 _ rfl⟩
theorem kTOk {W : World} {b : Nat} (h : Cs W b kK) : TOk W (some ⟨b, 0, none⟩) 2 [kref 0, klit 1] := by
  refine ⟨by decide, by decide, ?_⟩
  simp only [Td, TdE, kref, klit]
  exact ⟨⟨b, 0, none, 0, rfl, h.lt, by simp, by decide, h.at 0 _ rfl, h.at 1 _ rfl, h.at 2 _ rfl, trivial⟩, ⟨b, 0, none, 0, rfl, h.lt, by simp, by decide, h.at 3 _ rfl, h.at 4 _ rfl, h.at 5 _ rfl, trivial⟩, trivial⟩
theorem Zs.of_cs {W : World} {b : Nat} {zs : List Int} (h : Cs W b (iv zs)) (hl : zs.length ≤ maxLen) : Zs W (some ⟨b, 0, none⟩) zs.length zs.length zs :=
  ⟨rfl, Nat.le_refl _, hl, fun _ => ⟨b, 0, rfl, h.lt, fun j hj => by rw [Nat.zero_add]; exact h.at j _ (iv_get zs j hj)⟩⟩
theorem kSOk {W : World} {b bK bZ : Nat} (h : Cs W b (kS bK bZ)) (hK : Cs W bK kK) (hZ : Cs W bZ kZ) : SOk W (some ⟨b, 0, none⟩) 4 kks := by
  have hz : Zs W (some ⟨bZ, 0, none⟩) 3 3 [4, 10, 20] := Zs.of_cs (zs := [4, 10, 20]) hZ (by decide)
  refine ⟨by decide, by decide, ?_⟩
  simp only [Sd, SdE, kks, kref, klit]
  refine ⟨⟨b, 0, some ⟨bK, 0, none⟩, 2, none, 0, none, 0, none, 0, rfl, h.lt, ⟨h.at 0 _ rfl, h.at 1 _ rfl, h.at 2 _ rfl, h.at 3 _ rfl, h.at 4 _ rfl, h.at 5 _ rfl, h.at 6 _ rfl, h.at 7 _ rfl, h.at 8 _ rfl, h.at 9 _ rfl⟩, kTOk hK, ⟨by simp, by decide, trivial⟩, ⟨by simp, by decide, trivial⟩, Zs.nil W⟩,
    ⟨b, 0, none, 0, none, 0, none, 0, none, 0, rfl, h.lt, ⟨h.at 10 _ rfl, h.at 11 _ rfl, h.at 12 _ rfl, h.at 13 _ rfl, h.at 14 _ rfl, h.at 15 _ rfl, h.at 16 _ rfl, h.at 17 _ rfl, h.at 18 _ rfl, h.at 19 _ rfl⟩, TOk.nil W, ⟨by simp, by decide, trivial⟩, ⟨by simp, by decide, trivial⟩, Zs.nil W⟩,
    ⟨b, 0, none, 0, none, 0, none, 0, none, 0, rfl, h.lt, ⟨h.at 20 _ rfl, h.at 21 _ rfl, h.at 22 _ rfl, h.at 23 _ rfl, h.at 24 _ rfl, h.at 25 _ rfl, h.at 26 _ rfl, h.at 27 _ rfl, h.at 28 _ rfl, h.at 29 _ rfl⟩, TOk.nil W, ⟨by simp, by decide, trivial⟩, ⟨by simp, by decide, trivial⟩, Zs.nil W⟩,
    ⟨b, 0, none, 0, none, 0, none, 0, some ⟨bZ, 0, none⟩, 3, rfl, h.lt, ⟨h.at 30 _ rfl, h.at 31 _ rfl, h.at 32 _ rfl, h.at 33 _ rfl, h.at 34 _ rfl, h.at 35 _ rfl, h.at 36 _ rfl, h.at 37 _ rfl, h.at 38 _ rfl, h.at 39 _ rfl⟩, TOk.nil W, ⟨by simp, by decide, trivial⟩, ⟨by simp, by decide, trivial⟩, hz⟩, trivial⟩

theorem ref_b (n : Int) (w : World) : Calls Tryz.prog 13 #[.int .i64 n] w fun e w' => e = .returned (.agg #[.int .i64 24, .int .i64 n, .slice none 0 0]) ∧ Below w.heap.size w w' := by
  have HF := Cs.new w #[.int .i64 24, .int .i64 n, .slice none 0 0] 53
  have hb := (Below.refl w.heap.size w).alloc (Nat.le_refl _) (.cells #[.int .i64 24, .int .i64 n, .slice none 0 0] 53)
  have z0 := HF.at 0 _ rfl
  have z1 := HF.at 1 _ rfl
  have z2 := HF.at 2 _ rfl
  have HB := Lib.hid hb
  clear hb HF
  go_enter Tryz.func13, Tryz.ntmps13
  go_wp2_with fail
  refine bodyPost_ret (v := .agg #[.int .i64 24, .int .i64 n, .slice none 0 0]) (by simp [results, Tryz.results13, go_sem]) rfl ?_
  exact ⟨rfl, HB.out⟩

theorem lit_b (n : Int) (w : World) : Calls Tryz.prog 14 #[.int .i64 n] w fun e w' => e = .returned (.agg #[.int .i64 0, .int .i64 n, .slice none 0 0]) ∧ Below w.heap.size w w' := by
  have HF := Cs.new w #[.int .i64 0, .int .i64 n, .slice none 0 0] 53
  have hb := (Below.refl w.heap.size w).alloc (Nat.le_refl _) (.cells #[.int .i64 0, .int .i64 n, .slice none 0 0] 53)
  have z0 := HF.at 0 _ rfl
  have z1 := HF.at 1 _ rfl
  have z2 := HF.at 2 _ rfl
  have HB := Lib.hid hb
  clear hb HF
  go_enter Tryz.func14, Tryz.ntmps14
  go_wp2_with fail
  refine bodyPost_ret (v := .agg #[.int .i64 0, .int .i64 n, .slice none 0 0]) (by simp [results, Tryz.results14, go_sem]) rfl ?_
  exact ⟨rfl, HB.out⟩

set_option maxRecDepth 100000 in
set_option maxHeartbeats 8000000 in
theorem known_b (w : World) : Calls Tryz.prog 5 #[] w fun e w' => e = .returned (.bool true) ∧ Below w.heap.size w w' := by
  have hb1 := (Below.refl w.heap.size w).alloc (Nat.le_refl _) (.cells #[.string ⟨#[120]⟩, .int .i64 1, .int .i64 0, .int .i64 3, .int .i64 0, .string ⟨#[121]⟩, .int .i64 0, .int .i64 0, .int .i64 2, .int .i64 1] 48)
  have HB := Lib.hid hb1
  have HV := Lib.hid (Cs.new w #[.string ⟨#[120]⟩, .int .i64 1, .int .i64 0, .int .i64 3, .int .i64 0, .string ⟨#[121]⟩, .int .i64 0, .int .i64 0, .int .i64 2, .int .i64 1] 48)
  clear hb1
  go_enter Tryz.func5, Tryz.ntmps5
  go_wp2_with fail
  go_at_call 13
  refine (ref_b 0 _).mono ?_
  rintro e w2 ⟨rfl, hb⟩
  have HBx := Lib.hid (HB.out.trans (hb.mono HB.out.size))
  have HVx := Lib.hid (HV.out.next hb)
  clear hb HB HV
  have HB := HBx
  have HV := HVx
  clear HBx HVx
  go_wp2_with fail
  go_at_call 14
  refine (lit_b 1 _).mono ?_
  rintro e w3 ⟨rfl, hb⟩
  have HBx := Lib.hid (HB.out.trans (hb.mono HB.out.size))
  have HVx := Lib.hid (HV.out.next hb)
  clear hb HB HV
  have HB := HBx
  have HV := HVx
  clear HBx HVx
  have hba := (Below.refl w3.heap.size w3).alloc (Nat.le_refl _) (.cells #[.int .i64 24, .int .i64 0, .slice none 0 0, .int .i64 0, .int .i64 1, .slice none 0 0] 53)
  have HK := Lib.hid (Cs.new w3 #[.int .i64 24, .int .i64 0, .slice none 0 0, .int .i64 0, .int .i64 1, .slice none 0 0] 53)
  have HBx := Lib.hid (HB.out.trans (hba.mono HB.out.size))
  have HVx := Lib.hid (HV.out.next hba)
  clear hba HB HV
  have HB := HBx
  have HV := HVx
  clear HBx HVx
  go_wp2_with fail
  go_at_call 13
  refine (ref_b 1 _).mono ?_
  rintro e w4 ⟨rfl, hb⟩
  have HBx := Lib.hid (HB.out.trans (hb.mono HB.out.size))
  have HVx := Lib.hid (HV.out.next hb)
  have HKx := Lib.hid (HK.out.next hb)
  clear hb HB HV HK
  have HB := HBx
  have HV := HVx
  have HK := HKx
  clear HBx HVx HKx
  obtain ⟨bV, hbV⟩ : ∃ b, w.heap.size = b := ⟨_, rfl⟩
  obtain ⟨bK, hbK⟩ : ∃ b, w3.heap.size = b := ⟨_, rfl⟩
  rw [hbV] at HV
  rw [hbK] at HK
  rw [hbV, hbK]
  clear hbV hbK
  have hz1 := (Below.refl w4.heap.size w4).alloc (Nat.le_refl _) (.cells #[.int .i64 4, .int .i64 10, .int .i64 20] 3)
  have hz2 := hz1.alloc hz1.size (.cells #[.int .i64 0, .int .i64 2, .int .i64 1, .int .i64 0, .int .i64 8, .int .i64 0, .slice (some ⟨bK, 0, none⟩) 2 2, .slice none 0 0, .slice none 0 0, .slice none 0 0, .int .i64 1, .int .i64 1, .int .i64 0, .int .i64 0, .int .i64 24, .int .i64 1, .slice none 0 0, .slice none 0 0, .slice none 0 0, .slice none 0 0, .int .i64 2, .int .i64 5, .int .i64 0, .int .i64 0, .int .i64 0, .int .i64 0, .slice none 0 0, .slice none 0 0, .slice none 0 0, .slice none 0 0, .int .i64 6, .int .i64 0, .int .i64 0, .int .i64 0, .int .i64 0, .int .i64 0, .slice none 0 0, .slice none 0 0, .slice none 0 0, .slice (some ⟨w4.heap.size, 0, none⟩) 3 3] 56)
  have hz3 := hz2.alloc hz2.size (.cells #[.slice (some ⟨bV, 0, none⟩) 2 2, .slice none 0 0, .slice (some ⟨w4.heap.size + 1, 0, none⟩) 4 4] 26)
  have HZ := Lib.hid (((Cs.new w4 #[.int .i64 4, .int .i64 10, .int .i64 20] 3).alloc (.cells #[.int .i64 0, .int .i64 2, .int .i64 1, .int .i64 0, .int .i64 8, .int .i64 0, .slice (some ⟨bK, 0, none⟩) 2 2, .slice none 0 0, .slice none 0 0, .slice none 0 0, .int .i64 1, .int .i64 1, .int .i64 0, .int .i64 0, .int .i64 24, .int .i64 1, .slice none 0 0, .slice none 0 0, .slice none 0 0, .slice none 0 0, .int .i64 2, .int .i64 5, .int .i64 0, .int .i64 0, .int .i64 0, .int .i64 0, .slice none 0 0, .slice none 0 0, .slice none 0 0, .slice none 0 0, .int .i64 6, .int .i64 0, .int .i64 0, .int .i64 0, .int .i64 0, .int .i64 0, .slice none 0 0, .slice none 0 0, .slice none 0 0, .slice (some ⟨w4.heap.size, 0, none⟩) 3 3] 56)).alloc (.cells #[.slice (some ⟨bV, 0, none⟩) 2 2, .slice none 0 0, .slice (some ⟨w4.heap.size + 1, 0, none⟩) 4 4] 26))
  have HS := Lib.hid ((Cs.new1 w4 (.cells #[.int .i64 4, .int .i64 10, .int .i64 20] 3) #[.int .i64 0, .int .i64 2, .int .i64 1, .int .i64 0, .int .i64 8, .int .i64 0, .slice (some ⟨bK, 0, none⟩) 2 2, .slice none 0 0, .slice none 0 0, .slice none 0 0, .int .i64 1, .int .i64 1, .int .i64 0, .int .i64 0, .int .i64 24, .int .i64 1, .slice none 0 0, .slice none 0 0, .slice none 0 0, .slice none 0 0, .int .i64 2, .int .i64 5, .int .i64 0, .int .i64 0, .int .i64 0, .int .i64 0, .slice none 0 0, .slice none 0 0, .slice none 0 0, .slice none 0 0, .int .i64 6, .int .i64 0, .int .i64 0, .int .i64 0, .int .i64 0, .int .i64 0, .slice none 0 0, .slice none 0 0, .slice none 0 0, .slice (some ⟨w4.heap.size, 0, none⟩) 3 3] 56).alloc (.cells #[.slice (some ⟨bV, 0, none⟩) 2 2, .slice none 0 0, .slice (some ⟨w4.heap.size + 1, 0, none⟩) 4 4] 26))
  have HF : Hid (Cs (((w4.alloc (.cells #[.int .i64 4, .int .i64 10, .int .i64 20] 3)).alloc (.cells #[.int .i64 0, .int .i64 2, .int .i64 1, .int .i64 0, .int .i64 8, .int .i64 0, .slice (some ⟨bK, 0, none⟩) 2 2, .slice none 0 0, .slice none 0 0, .slice none 0 0, .int .i64 1, .int .i64 1, .int .i64 0, .int .i64 0, .int .i64 24, .int .i64 1, .slice none 0 0, .slice none 0 0, .slice none 0 0, .slice none 0 0, .int .i64 2, .int .i64 5, .int .i64 0, .int .i64 0, .int .i64 0, .int .i64 0, .slice none 0 0, .slice none 0 0, .slice none 0 0, .slice none 0 0, .int .i64 6, .int .i64 0, .int .i64 0, .int .i64 0, .int .i64 0, .int .i64 0, .slice none 0 0, .slice none 0 0, .slice none 0 0, .slice (some ⟨w4.heap.size, 0, none⟩) 3 3] 56)).alloc (.cells #[.slice (some ⟨bV, 0, none⟩) 2 2, .slice none 0 0, .slice (some ⟨w4.heap.size + 1, 0, none⟩) 4 4] 26)) (w4.heap.size + 1 + 1) [.slice (some ⟨bV, 0, none⟩) 2 2, .slice none 0 0, .slice (some ⟨w4.heap.size + 1, 0, none⟩) 4 4]) := by
    have h := Cs.new ((w4.alloc (.cells #[.int .i64 4, .int .i64 10, .int .i64 20] 3)).alloc (.cells #[.int .i64 0, .int .i64 2, .int .i64 1, .int .i64 0, .int .i64 8, .int .i64 0, .slice (some ⟨bK, 0, none⟩) 2 2, .slice none 0 0, .slice none 0 0, .slice none 0 0, .int .i64 1, .int .i64 1, .int .i64 0, .int .i64 0, .int .i64 24, .int .i64 1, .slice none 0 0, .slice none 0 0, .slice none 0 0, .slice none 0 0, .int .i64 2, .int .i64 5, .int .i64 0, .int .i64 0, .int .i64 0, .int .i64 0, .slice none 0 0, .slice none 0 0, .slice none 0 0, .slice none 0 0, .int .i64 6, .int .i64 0, .int .i64 0, .int .i64 0, .int .i64 0, .int .i64 0, .slice none 0 0, .slice none 0 0, .slice none 0 0, .slice (some ⟨w4.heap.size, 0, none⟩) 3 3] 56)) #[.slice (some ⟨bV, 0, none⟩) 2 2, .slice none 0 0, .slice (some ⟨w4.heap.size + 1, 0, none⟩) 4 4] 26
    simp only [World.size_alloc] at h
    exact h
  have HBx := Lib.hid (HB.out.trans (hz3.mono HB.out.size))
  have HVx := Lib.hid (HV.out.next hz3)
  have HKx := Lib.hid (HK.out.next hz3)
  clear hz3 HB HV HK
  have HB := HBx
  have HV := HVx
  have HK := HKx
  clear HBx HVx HKx
  clear hz1 hz2
  go_upto_region 2 with fail
  obtain ⟨w5, hw5⟩ : ∃ w5, ((w4.alloc (.cells #[.int .i64 4, .int .i64 10, .int .i64 20] 3)).alloc (.cells #[.int .i64 0, .int .i64 2, .int .i64 1, .int .i64 0, .int .i64 8, .int .i64 0, .slice (some ⟨bK, 0, none⟩) 2 2, .slice none 0 0, .slice none 0 0, .slice none 0 0, .int .i64 1, .int .i64 1, .int .i64 0, .int .i64 0, .int .i64 24, .int .i64 1, .slice none 0 0, .slice none 0 0, .slice none 0 0, .slice none 0 0, .int .i64 2, .int .i64 5, .int .i64 0, .int .i64 0, .int .i64 0, .int .i64 0, .slice none 0 0, .slice none 0 0, .slice none 0 0, .slice none 0 0, .int .i64 6, .int .i64 0, .int .i64 0, .int .i64 0, .int .i64 0, .int .i64 0, .slice none 0 0, .slice none 0 0, .slice none 0 0, .slice (some ⟨w4.heap.size, 0, none⟩) 3 3] 56)).alloc (.cells #[.slice (some ⟨bV, 0, none⟩) 2 2, .slice none 0 0, .slice (some ⟨w4.heap.size + 1, 0, none⟩) 4 4] 26) = w5 := ⟨_, rfl⟩
  rw [hw5] at HB HV HK HZ HS HF
  rw [hw5]
  obtain ⟨bS, hbS⟩ : ∃ b, w4.heap.size + 1 = b := ⟨_, rfl⟩
  obtain ⟨bZ, hbZ⟩ : ∃ b, w4.heap.size = b := ⟨_, rfl⟩
  rw [hbS, hbZ] at HS
  rw [hbZ] at HZ
  rw [hbS] at HF
  rw [hbS]
  obtain ⟨p, hp⟩ : ∃ p, bS + 1 = p := ⟨_, rfl⟩
  rw [hp] at HF
  rw [hp]
  clear hw5 hbS hbZ hp
  have KV := Lib.hid (kVOk HV.out)
  have KS := Lib.hid (kSOk HS.out HK.out HZ.out)
  clear HV HK HZ HS
  have f0 := HF.out.at 0 _ rfl
  have f1 := HF.out.at 1 _ rfl
  have f2 := HF.out.at 2 _ rfl
  have hba := (Below.refl w5.heap.size w5).alloc (Nat.le_refl _) (.cells #[.int .i64 3] 3)
  have HI := Lib.hid (Zs.of_cs (zs := [3]) (Cs.new w5 #[.int .i64 3] 3) (by decide))
  have HBx := Lib.hid (HB.out.trans (hba.mono HB.out.size))
  have HFx := Lib.hid (HF.out.next hba)
  have KVx := Lib.hid (KV.out.below hba)
  have KSx := Lib.hid (KS.out.below hba)
  clear hba HB HF KV KS
  have HB := HBx
  have HF := HFx
  have KV := KVx
  have KS := KSx
  clear HBx HFx KVx KSx
  go_wp2_with fail
  clear f0 f1 f2
  go_at_call 7
  refine (Run_b kvs [] kks (some ⟨bV, 0, none⟩) 2 2 none 0 0 (some ⟨bS, 0, none⟩) 4 4 [3] [] [] (some ⟨w5.heap.size, 0, none⟩) 1 1 none 0 0 none 0 0 _ KV.out (HOk.nil _) rfl KS.out (by decide) (by decide) HI.out (Zs.nil _) (Zs.nil _) 0 ⟨[3, 2], [2], 10⟩ [3, 1] k_start k_end).mono ?_
  rintro e w6 ⟨hb, hor⟩
  have HBx := Lib.hid (HB.out.trans (hb.mono HB.out.size))
  have HFx := Lib.hid (HF.out.next hb)
  have KVx := Lib.hid (KV.out.below hb)
  have KSx := Lib.hid (KS.out.below hb)
  clear hb HB HF KV KS
  have HB := HBx
  have HF := HFx
  have KV := KVx
  have KS := KSx
  clear HBx HFx KVx KSx
  rcases hor with ⟨h, _⟩ | ⟨_, Ao, co, rfl, hzo⟩
  · exact absurd rfl h
  obtain ⟨go, fo, hAo, hgo, hco⟩ := hzo.mem (by decide)
  subst hAo
  have HO := Lib.hid hzo
  have hba := (Below.refl w6.heap.size w6).alloc (Nat.le_refl _) (.cells #[.slice (some ⟨go, fo, none⟩) 1 co, .int .i64 10] 33)
  have HP := Lib.hid (Cs.new w6 #[.slice (some ⟨go, fo, none⟩) 1 co, .int .i64 10] 33)
  have HOx := Lib.hid (HO.out.below hba)
  have HBx := Lib.hid (HB.out.trans (hba.mono HB.out.size))
  have HFx := Lib.hid (HF.out.next hba)
  have KVx := Lib.hid (KV.out.below hba)
  have KSx := Lib.hid (KS.out.below hba)
  clear hba HB HF KV KS
  have HB := HBx
  have HF := HFx
  have KV := KVx
  have KS := KSx
  clear HBx HFx KVx KSx
  go_upto_region 3 with fail
  clear hco hgo hzo HO
  have HO := HOx
  clear HOx
  obtain ⟨w7, hw7⟩ : ∃ w7, w6.alloc (.cells #[.slice (some ⟨go, fo, none⟩) 1 co, .int .i64 10] 33) = w7 := ⟨_, rfl⟩
  obtain ⟨q, hq⟩ : ∃ q, w6.heap.size = q := ⟨_, rfl⟩
  simp only [List.length_singleton] at HP HO ⊢
  rw [hw7] at HB HF KV KS HP HO
  rw [hq] at HP
  rw [hw7, hq]
  clear hw7 hq
  have f0 := HF.out.at 0 _ rfl
  have f1 := HF.out.at 1 _ rfl
  have f2 := HF.out.at 2 _ rfl
  go_wp2_with fail
  clear f0 f1 f2
  go_at_call 15
  refine (check_b kvs [] kks (some ⟨bV, 0, none⟩) 2 2 none 0 0 (some ⟨bS, 0, none⟩) 4 4 _ KV.out (HOk.nil _) rfl KS.out (by decide) (by decide) 0 k_check).mono ?_
  rintro e w8 ⟨rfl, hb⟩
  have HBx := Lib.hid (HB.out.trans (hb.mono HB.out.size))
  have HFx := Lib.hid (HF.out.next hb)
  have KVx := Lib.hid (KV.out.below hb)
  have KSx := Lib.hid (KS.out.below hb)
  have HPx := Lib.hid (HP.out.next hb)
  have HOx := Lib.hid (HO.out.below hb)
  clear hb HB HF KV KS HP HO
  have HB := HBx
  have HF := HFx
  have KV := KVx
  have KS := KSx
  have HP := HPx
  have HO := HOx
  clear HBx HFx KVx KSx HPx HOx
  have hba := (Below.refl w8.heap.size w8).alloc (Nat.le_refl _) (.cells #[.string ⟨#[88]⟩, .int .i64 0, .int .i64 0, .int .i64 0, .int .i64 0] 48)
  have HX := Lib.hid (kVOk1 (Cs.new w8 #[.string ⟨#[88]⟩, .int .i64 0, .int .i64 0, .int .i64 0, .int .i64 0] 48))
  have HBx := Lib.hid (HB.out.trans (hba.mono HB.out.size))
  have HFx := Lib.hid (HF.out.next hba)
  have KVx := Lib.hid (KV.out.below hba)
  have KSx := Lib.hid (KS.out.below hba)
  have HPx := Lib.hid (HP.out.next hba)
  have HOx := Lib.hid (HO.out.below hba)
  clear hba HB HF KV KS HP HO
  have HB := HBx
  have HF := HFx
  have KV := KVx
  have KS := KSx
  have HP := HPx
  have HO := HOx
  clear HBx HFx KVx KSx HPx HOx
  go_wp2_with fail
  go_at_call 15
  refine (check_b [⟨⟨#[88]⟩, 0, 0, 0, 0⟩] [] [] (some ⟨w8.heap.size, 0, none⟩) 1 1 none 0 0 none 0 0 _ HX.out (HOk.nil _) rfl (SOk.nil _) (by decide) (by decide) 7 k_bad).mono ?_
  rintro e w9 ⟨rfl, hb⟩
  have HBx := Lib.hid (HB.out.trans (hb.mono HB.out.size))
  have HFx := Lib.hid (HF.out.next hb)
  have KVx := Lib.hid (KV.out.below hb)
  have KSx := Lib.hid (KS.out.below hb)
  have HPx := Lib.hid (HP.out.next hb)
  have HOx := Lib.hid (HO.out.below hb)
  clear hb HB HF KV KS HP HO
  have HB := HBx
  have HF := HFx
  have KV := KVx
  have KS := KSx
  have HP := HPx
  have HO := HOx
  clear HBx HFx KVx KSx HPx HOx
  clear HX
  have f0 := HF.out.at 0 _ rfl
  have f1 := HF.out.at 1 _ rfl
  have f2 := HF.out.at 2 _ rfl
  have q0 := HP.out.at 0 _ rfl
  have q1 := HP.out.at 1 _ rfl
  obtain ⟨go', fo', hAo, hgo, hco⟩ := HO.out.mem (by decide)
  obtain ⟨rfl, rfl⟩ : go = go' ∧ fo = fo' := by injection hAo with h; injection h with h1 h2; exact ⟨h1, h2⟩
  have k0 := hco 0 (by decide)
  simp only [List.getD_cons_zero, Nat.add_zero] at k0
  clear hco hAo
  go_wp2_with fail
  go_at_call 16
  refine (Size_b (some ⟨bV, 0, none⟩) 2 2 none 0 0 (some ⟨bS, 0, none⟩) 4 4 kks _ rfl (by decide) KS.out 4 k_size).mono ?_
  rintro e w10 ⟨rfl, hb⟩
  clear f0 f1 f2 q0 q1 k0 HP HO hgo
  have HBx := Lib.hid (HB.out.trans (hb.mono HB.out.size))
  have HFx := Lib.hid (HF.out.next hb)
  have KVx := Lib.hid (KV.out.below hb)
  have KSx := Lib.hid (KS.out.below hb)
  clear hb HB HF KV KS
  have HB := HBx
  have HF := HFx
  have KV := KVx
  have KS := KSx
  clear HBx HFx KVx KSx
  have f0 := HF.out.at 0 _ rfl
  have f1 := HF.out.at 1 _ rfl
  have f2 := HF.out.at 2 _ rfl
  go_wp2_with fail
  go_at_call 17
  refine (Equal_b kvs kvs [] [] kks kks (some ⟨bV, 0, none⟩) 2 2 none 0 0 (some ⟨bS, 0, none⟩) 4 4 (some ⟨bV, 0, none⟩) 2 2 none 0 0 (some ⟨bS, 0, none⟩) 4 4 _ KV.out (HOk.nil _) rfl KS.out KV.out (HOk.nil _) rfl KS.out true k_equal).mono ?_
  rintro e w11 ⟨rfl, hb⟩
  have HB6 := Lib.hid (HB.out.trans (hb.mono HB.out.size))
  clear hb
  go_wp2_with fail
  go_ret
  exact ⟨rfl, HB6.out⟩
end Go.Proofs.YtjpjmoejdkmglaaGreat
