/-
  The walk over the law's few.
-/
import Derived.Test.YthlhicegchkjjaaEtK
namespace Go.Proofs.Ythlhicegchkjjaa
open Go.RowKit

set_option maxHeartbeats 400000 in
theorem few_b (o n : Int) (s : ByteArray) (ks : List ET) (A : Option Addr) (c l : Nat) (b : Bool) (hl : ks.length = l) (H : Hid (decide (0 ≤ ET.left (.mk o n s ks) 300) = b)) (w : World) (hE : EOk w s A c ks) :
    Calls Try.prog 10 #[.agg #[.int .i64 o, .int .i64 n, .string s, .slice A l c]] w fun e w' => e = .returned (.bool b) ∧ Below w.heap.size w w' := by
  have HE := Lib.hid hE
  have HL := Lib.hid hl
  clear hE hl
  go_enter Try.func10, Try.ntmps10
  go_wp2_with fail
  refine (fewExpr_b o n s ks A c l b HL.out H _ (HE.out.below (by (repeat' (first | exact Below.refl _ _ | refine Below.drew ?_ | refine below_drewN ?_ _ | refine Below.alloc ?_ (by simp; try omega) _ | refine Below.setCell ?_ (by simp; try omega) _))))).mono ?_
  rintro e w2 ⟨rfl, hb2⟩
  have HB : Hid (Below w.heap.size w w2) := Below.trans (by (repeat' (first | exact Below.refl _ _ | refine Below.drew ?_ | refine below_drewN ?_ _ | refine Below.alloc ?_ (by simp; try omega) _ | refine Below.setCell ?_ (by simp; try omega) _))) (hb2.mono (by simp))
  clear hb2
  go_wp2_with fail
  go_ret
  exact ⟨rfl, HB.out⟩
end Go.Proofs.Ythlhicegchkjjaa
