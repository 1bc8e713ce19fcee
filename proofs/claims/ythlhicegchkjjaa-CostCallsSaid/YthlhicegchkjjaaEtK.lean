/-
  The walks over FewExpr and the law's few.
-/
import Derived.Test.YthlhicegchkjjaaEtJ
namespace Go.Proofs.Ythlhicegchkjjaa
open Go.RowKit

set_option maxHeartbeats 400000 in
theorem fewExpr_b (o n : Int) (s : ByteArray) (ks : List ET) (A : Option Addr) (c l : Nat) (b : Bool) (hl : ks.length = l) (H : Hid (decide (0 ≤ ET.left (.mk o n s ks) 300) = b)) (w : World) (hE : EOk w s A c ks) :
    Calls Try.prog 38 #[.agg #[.int .i64 o, .int .i64 n, .string s, .slice A l c], .int .i64 300] w fun e w' => e = .returned (.bool b) ∧ Below w.heap.size w w' := by
  subst hl
  obtain ⟨q, hq⟩ : ∃ q, ET.left (.mk o n s ks) 300 = q := ⟨_, rfl⟩
  have HQ := Lib.hid hq
  have HE := Lib.hid hE
  have hb := H.out
  rw [hq] at hb
  clear H hE hq
  have HBB := Lib.hid hb
  clear hb
  go_enter Try.func38, Try.ntmps38
  go_wp2_with fail
  refine (left_any _ o n s ks A c 300 _ q (Nat.le_refl _) (HE.out.below (by (repeat' (first | exact Below.refl _ _ | refine Below.drew ?_ | refine below_drewN ?_ _ | refine Below.alloc ?_ (by simp; try omega) _ | refine Below.setCell ?_ (by simp; try omega) _)))) (by omega) (by omega) HQ).mono ?_
  rintro e w2 ⟨rfl, hb2⟩
  have HB : Hid (Below w.heap.size w w2) := Below.trans (by (repeat' (first | exact Below.refl _ _ | refine Below.drew ?_ | refine below_drewN ?_ _ | refine Below.alloc ?_ (by simp; try omega) _ | refine Below.setCell ?_ (by simp; try omega) _))) (hb2.mono (by simp))
  clear hb2
  go_wp2_with fail
  go_ret
  exact ⟨ret_bool HBB.out, HB.out⟩
end Go.Proofs.Ythlhicegchkjjaa
