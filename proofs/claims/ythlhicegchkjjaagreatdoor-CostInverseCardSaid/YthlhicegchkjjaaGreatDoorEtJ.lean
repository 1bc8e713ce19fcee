/-
  The walk over the program's CheckExpr.
-/
import Derived.Test.YthlhicegchkjjaaGreatDoorEtI
namespace Go.Proofs.YthlhicegchkjjaaGreatDoor
open Go.RowKit
set_option maxHeartbeats 2000000 in
theorem scheck_b (o n : Int) (s : ByteArray) (ks : List ET) (A : Option Addr) (c l r : Nat) (hl : ks.length = l) (hr : ET.check (.mk o n s ks) = r) (h1 : ET.cnt (.mk o n s ks) ≤ 1000000) (h2 : ET.dep (.mk o n s ks) ≤ 1000000) (w : World) (hm : ML w) (hE : EOk w s A c ks) :
    Calls Tryz.prog 56 #[.agg #[.int .i64 o, .int .i64 n, .string s, .slice A l c]] w fun e w' => e = .returned (.int .i64 r) ∧ Below w.heap.size w w' := by
  obtain ⟨e, he⟩ : ∃ e, ET.mk o n s ks = e := ⟨_, rfl⟩
  rw [he] at hr h1 h2
  have HV : Hid (vcode (ET.cnt e) (ET.dep e) (!!ET.formB e) (!!ET.namesB e) (!!ET.numsB e) = r) := by
    show _ = _
    rw [Bool.not_not, Bool.not_not, Bool.not_not, vcode_check, hr]
  have HE := Lib.hid hE
  have HL := Lib.hid hl
  have HX := Lib.hid he
  have HMM := Lib.hid hm
  clear hE hl he hr hm
  go_enter Tryz.func56, Tryz.ntmps56
  go_wp2_with fail
  refine (expr_any _ o n s ks A c l w _ (w.heap.size + 1) 0 0 1 (ET.cnt e) (ET.dep e) false false false (!ET.formB e) (!ET.namesB e) (!ET.numsB e) HL.out (Nat.le_refl _) HE.out HMM.out ?_ (by omega) (by omega) (by omega) (by omega) (by omega) (by omega) (by rw [HX.out]; show _ = _; omega) (by rw [HX.out]; show _ = _; omega) (by rw [HX.out]; rfl) (by rw [HX.out]; rfl) (by rw [HX.out]; rfl) ?_).mono ?_
  · (repeat' (first | exact Below.refl _ _ | refine Below.drew ?_ | refine below_drewN ?_ _ | refine Below.alloc ?_ (by simp; try omega) _ | refine Below.setCell ?_ (by simp; try omega) _))
  · refine ⟨by go_simp, ?_, ?_, ?_, ?_, ?_, ?_, ?_, ?_, ?_, ?_⟩ <;> go_simp
  rintro e' w2 ⟨rfl, ho, hrp⟩
  have HB : Hid (Below w.heap.size w w2) := Below.trans (by (repeat' (first | exact Below.refl _ _ | refine Below.drew ?_ | refine below_drewN ?_ _ | refine Below.alloc ?_ (by simp; try omega) _ | refine Below.setCell ?_ (by simp; try omega) _))) (ho.below (by omega) (by simp; omega))
  clear ho
  go_wp2_with fail
  refine (code_b _ _ _ r _ _ _ HV _ hrp).mono ?_
  rintro e' w3 ⟨rfl, rfl⟩
  go_wp2_with fail
  go_ret
  exact ⟨rfl, HB.out⟩
end Go.Proofs.YthlhicegchkjjaaGreatDoor
