/-
  Plain laws: the example of the chapter.
-/
import Derived.Test.YtjpjmoejdkmglaaFlMh
import Derived.Test.YtjpjmoejdkmglaaFlMj
import Derived.Test.YtjpjmoejdkmglaaFlMf
import Derived.Test.YtjpjmoejdkmglaaFlSp
import Derived.Laws.StructEq
import Derived.KernelRfl
namespace Go.Proofs.Ytjpjmoejdkmglaa
open Go.RowKit

def kx : ByteArray := ⟨#[120]⟩
def ky : ByteArray := ⟨#[121]⟩
def kvs : List Vr := [⟨⟨#[120]⟩, 1, 0, 3, 0⟩, ⟨⟨#[121]⟩, 0, 0, 2, 1⟩]
def kref (n : Int) : Tm := .mk 24 n []
def klit (n : Int) : Tm := .mk 0 n []
def kks : List Sp := [.mk 0 2 1 0 (.mk 8 0 [kref 0, klit 1]) [] [] [], .mk 1 1 0 0 (kref 1) [] [] [], .mk 2 5 0 0 (.mk 0 0 []) [] [] [], .mk 6 0 0 0 (.mk 0 0 []) [] [] [4, 10, 20]]
theorem k_vars : varsC kvs = 0 := by kernel_rfl
theorem k_check : checkP kvs [] kks = 0 := by kernel_rfl
theorem k_start : startC kvs [] kks ⟨[3], [], []⟩ = (0, [3, 1]) := by kernel_rfl
theorem k_end : endM kvs [] kks [3, 1] = ⟨[3, 2], [2], 10⟩ := by kernel_rfl
theorem k_bad : checkP [⟨⟨#[88]⟩, 0, 0, 0, 0⟩] [] [] = 7 := by kernel_rfl
theorem k_size : sizeL kks = 4 := by kernel_rfl
theorem k_equal : eqF kvs kvs [] [] kks kks = true := by kernel_rfl
def kV : List Value := [.string ⟨#[120]⟩, .int .i64 1, .int .i64 0, .int .i64 3, .int .i64 0, .string ⟨#[121]⟩, .int .i64 0, .int .i64 0, .int .i64 2, .int .i64 1]
def kK : List Value := [.int .i64 24, .int .i64 0, .slice none 0 0, .int .i64 0, .int .i64 1, .slice none 0 0]
def kZ : List Value := [.int .i64 4, .int .i64 10, .int .i64 20]
def kS (bK bZ : Nat) : List Value := [
  .int .i64 0, .int .i64 2, .int .i64 1, .int .i64 0, .int .i64 8, .int .i64 0, .slice (some ⟨bK, 0, none⟩) 2 2, .slice none 0 0, .slice none 0 0, .slice none 0 0,
  .int .i64 1, .int .i64 1, .int .i64 0, .int .i64 0, .int .i64 24, .int .i64 1, .slice none 0 0, .slice none 0 0, .slice none 0 0, .slice none 0 0,
  .int .i64 2, .int .i64 5, .int .i64 0, .int .i64 0, .int .i64 0, .int .i64 0, .slice none 0 0, .slice none 0 0, .slice none 0 0, .slice none 0 0,
  .int .i64 6, .int .i64 0, .int .i64 0, .int .i64 0, .int .i64 0, .int .i64 0, .slice none 0 0, .slice none 0 0, .slice none 0 0, .slice (some ⟨bZ, 0, none⟩) 3 3]
theorem HOk.nil (w : World) : HOk w none 0 0 [] := ⟨rfl, Nat.le_refl _, Nat.zero_le _, by simp, fun h => absurd h (by omega)⟩
theorem VOk.nil (w : World) : VOk w none 0 0 [] := ⟨rfl, Nat.le_refl _, Nat.zero_le _, by simp, fun h => absurd h (by omega)⟩
theorem kVOk {W : World} {b : Nat} (h : Cs W b kV) : VOk W (some ⟨b, 0, none⟩) 2 2 kvs := by
  refine ⟨rfl, Nat.le_refl _, by decide, ?_, fun _ => ⟨b, 0, rfl, h.lt, ?_⟩⟩
  · intro v hv
    simp only [kvs, List.mem_cons, List.not_mem_nil, or_false] at hv
    rcases hv with rfl | rfl <;> decide
  · intro j hj
    match j, hj with
    | 0, _ => exact ⟨h.at 0 _ rfl, h.at 1 _ rfl, h.at 2 _ rfl, h.at 3 _ rfl, h.at 4 _ rfl⟩
    | 1, _ => exact ⟨h.at 5 _ rfl, h.at 6 _ rfl, h.at 7 _ rfl, h.at 8 _ rfl, h.at 9 _ rfl⟩
theorem kVOk1 {W : World} {b : Nat} (h : Cs W b [.string ⟨#[88]⟩, .int .i64 0, .int .i64 0, .int .i64 0, .int .i64 0]) : VOk W (some ⟨b, 0, none⟩) 1 1 [⟨⟨#[88]⟩, 0, 0, 0, 0⟩] := by
  refine ⟨rfl, Nat.le_refl _, by decide, ?_, fun _ => ⟨b, 0, rfl, h.lt, ?_⟩⟩
  · intro v hv
    simp only [List.mem_singleton] at hv
    subst hv; decide
  · intro j hj
    match j, hj with
    | 0, _ => exact ⟨h.at 0 _ rfl, h.at 1 _ rfl, h.at 2 _ rfl, h.at 3 _ rfl, h.at 4 _ rfl⟩
theorem kTOk {W : World} {b : Nat} (h : Cs W b kK) : TOk W (some ⟨b, 0, none⟩) 2 [kref 0, klit 1] := by
  refine ⟨by decide, by decide, ?_⟩
  simp only [Td, TdE, kref, klit]
  exact ⟨⟨b, 0, none, 0, rfl, h.lt, by simp, by decide, h.at 0 _ rfl, h.at 1 _ rfl, h.at 2 _ rfl, trivial⟩, ⟨b, 0, none, 0, rfl, h.lt, by simp, by decide, h.at 3 _ rfl, h.at 4 _ rfl, h.at 5 _ rfl, trivial⟩, trivial⟩
theorem Zs.of_cs {W : World} {b : Nat} {zs : List Int} (h : Cs W b (iv zs)) (hl : zs.length ≤ maxLen) : Zs W (some ⟨b, 0, none⟩) zs.length zs.length zs :=
  ⟨rfl, Nat.le_refl _, hl, fun _ => ⟨b, 0, rfl, h.lt, fun j hj => by rw [Nat.zero_add]; exact h.at j _ (iv_get zs j hj)⟩⟩
theorem kSOk {W : World} {b bK bZ : Nat} (h : Cs W b (kS bK bZ)) (hK : Cs W bK kK) (hZ : Cs W bZ kZ) : SOk W (some ⟨b, 0, none⟩) 4 kks := by
  have hz : Zs W (some ⟨bZ, 0, none⟩) 3 3 [4, 10, 20] := Zs.of_cs (zs := [4, 10, 20]) hZ (by decide)
  refine ⟨by decide, by decide, ?_⟩
  simp only [Sd, SdE, kks, kref, klit]
  refine ⟨⟨b, 0, some ⟨bK, 0, none⟩, 2, none, 0, none, 0, none, 0, rfl, h.lt, ⟨h.at 0 _ rfl, h.at 1 _ rfl, h.at 2 _ rfl, h.at 3 _ rfl, h.at 4 _ rfl, h.at 5 _ rfl, h.at 6 _ rfl, h.at 7 _ rfl, h.at 8 _ rfl, h.at 9 _ rfl⟩, kTOk hK, ⟨by simp, by decide, trivial⟩, ⟨by simp, by decide, trivial⟩, Zs.nil W⟩,
    ⟨b, 0, none, 0, none, 0, none, 0, none, 0, rfl, h.lt, ⟨h.at 10 _ rfl, h.at 11 _ rfl, h.at 12 _ rfl, h.at 13 _ rfl, h.at 14 _ rfl, h.at 15 _ rfl, h.at 16 _ rfl, h.at 17 _ rfl, h.at 18 _ rfl, h.at 19 _ rfl⟩, TOk.nil W, ⟨by simp, by decide, trivial⟩, ⟨by simp, by decide, trivial⟩, Zs.nil W⟩,
    ⟨b, 0, none, 0, none, 0, none, 0, none, 0, rfl, h.lt, ⟨h.at 20 _ rfl, h.at 21 _ rfl, h.at 22 _ rfl, h.at 23 _ rfl, h.at 24 _ rfl, h.at 25 _ rfl, h.at 26 _ rfl, h.at 27 _ rfl, h.at 28 _ rfl, h.at 29 _ rfl⟩, TOk.nil W, ⟨by simp, by decide, trivial⟩, ⟨by simp, by decide, trivial⟩, Zs.nil W⟩,
    ⟨b, 0, none, 0, none, 0, none, 0, some ⟨bZ, 0, none⟩, 3, rfl, h.lt, ⟨h.at 30 _ rfl, h.at 31 _ rfl, h.at 32 _ rfl, h.at 33 _ rfl, h.at 34 _ rfl, h.at 35 _ rfl, h.at 36 _ rfl, h.at 37 _ rfl, h.at 38 _ rfl, h.at 39 _ rfl⟩, TOk.nil W, ⟨by simp, by decide, trivial⟩, ⟨by simp, by decide, trivial⟩, hz⟩, trivial⟩
end Go.Proofs.Ytjpjmoejdkmglaa
