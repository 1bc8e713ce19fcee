/-
  The walk over the machine's set.
-/
import Derived.Test.YtjpjmoejdkmglaaFlMm
import Derived.StillTailTactics
namespace Go.Proofs.Ytjpjmoejdkmglaa
open Go.RowKit

set_option maxRecDepth 100000 in
set_option maxHeartbeats 2000000 in
theorem set_b (vs : List Vr) (Av : Option Addr) (lv cv : Nat) (b c V H O : Value) (hats : List Int) (B p : Nat) (w : World) (s : Ms) (hm : Mk 3 B p (.slice Av lv cv) b c V H hats w O s) (hv : VOk w Av lv cv vs) (v n : Int) (h0 : 0 ≤ v) (h1 : v < (lv : Int)) (hl : s.v.length = lv) :
    Calls Try.prog 98 #[.pointer (some ⟨p, 0, none⟩), .int .i64 v, .int .i64 n] w fun e w' => e = .returned (.tuple #[]) ∧ Went 3 B p (.slice Av lv cv) b c V H hats w O w' O ⟨setV vs s.v v n, s.o, s.t⟩ := by
  obtain ⟨j, hj⟩ : ∃ j : Nat, v = j := ⟨v.toNat, by omega⟩
  subst hj
  have hjl : j < lv := by omega
  obtain ⟨q, cp, hV⟩ := Joins.ownsRow_form hm.v (by omega)
  subst hV
  obtain ⟨nm, kd, lo, hi, ii, g, f, hx, hsz, hA, hg, k0, k1, k2, k3, k4⟩ := hv.at j hjl
  subst hA
  obtain ⟨r, hr⟩ : ∃ r, clampP n lo hi = r := ⟨_, rfl⟩
  have HR := Lib.hid hr
  have HS : Hid (setV vs s.v j n = s.v.set j r) := by show _ = _; rw [setV, ← hr]; simp [hx]
  have hlj : (j : Int) < (s.v.length : Int) := by omega
  have hq : w.cell? ⟨q, j, none⟩ = some (.int .i64 (s.v.getD j 0)) := by rw [hm.v.cellAt j (by omega), iv_get _ _ (by omega)]
  have hqf : w.frozen? ⟨q, j, none⟩ = false := hm.v.frozenAt j
  have HW := Lib.hid hm
  have p0 := hm.cs.at 0 _ rfl
  have p3 := hm.cs.at 3 _ rfl
  clear hv hx hsz hr k0 k1 k4 hm
  go_enter Try.func98, Try.ntmps98
  refine wp_region_still_tail 26 (by kernel_rfl) (by kernel_rfl) ?_
  simp only [List.take_succ_cons, List.take_zero, List.drop_succ_cons, List.drop_zero]
  repeat still_step
  still_call ((clamp_b n lo hi r HR w.drew).mono fun _ _ h => ⟨h.1, h.2.symm⟩)
  repeat still_step
  refine wpStill_nil ?_
  change wpList _ _ _ _ _ w.drew
  go_wp2_with fail
  go_returns
  refine ⟨rfl, ?_⟩
  rw [HS.out]
  exact (HW.out.val j r).below (Below.refl _ _).drew
end Go.Proofs.Ytjpjmoejdkmglaa
