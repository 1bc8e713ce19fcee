/-
  The walk over the lattice's bounds.
-/
import Derived.Test.YtnipigninbeplaaDoorPoQ
import Derived.Test.YtnipigninbeplaaDoorPC
import Derived.Deep.AppendLies
import Derived.Deep.CutRange
import Derived.BigRegion
namespace Go.Proofs.YtnipigninbeplaaDoor
open Go.RowKit

theorem make_ints (n : Nat) (hn : n ≤ 12) (w : World) : (Instr.makeSlice 41 (.int .i64 n) (.int .i64 n)).run Tryd.prog w = .ok (.slice (some ⟨w.heap.size, 0, none⟩) n n) (w.alloc (.cells (List.replicate n (Value.int .i64 0)).toArray 3)) := by
  obtain ⟨i, hi, hz0, hz1, hz2⟩ := info_parts (P := Tryd.prog) (e := 3) (z := .int .i64 0) (size := 1) (bytes := 8) (by kernel_rfl)
  have h := run_make (P := Tryd.prog) w 41 3 i (.int .i64 0) Tryd.underlying41 hi hz0 .i64 .i64 (n : Int) (n : Int) (by omega) (by omega) (by rw [hz2]; omega) (by omega)
  rw [h, hz1, Int.toNat_natCast, made_rep _ rfl]
def jfM (n : Nat) (M : Mx) (a b : Nat) : Nat := (bdM n (upM M) a b).getD 0
def kfM (n : Nat) (M : Mx) (a b : Nat) : Nat := (bdM n (dnM M) a b).getD 0
theorem Bo.zero {w : World} {b0 q n : Nat} {rb : Nat → Nat} {M : Mx} {A0 A1 : Value} {E : TypeId} {jf kf : Nat → Nat → Nat} (T : TypeId) (hc : Cs w b0 [A0, A1, .slice (some ⟨q, 0, none⟩) n n, .slice none 0 0, .slice none 0 0]) (hm : Mem w q n n rb M) (hq : b0 ≠ q) (hr : ∀ i, i < n → b0 ≠ rb i) :
    Bo w b0 q n rb M A0 A1 E jf kf (w.alloc (.cells #[.pointer (some ⟨b0, 0, none⟩)] T)) 0 (.slice none 0 0) (.slice none 0 0) (fun _ => 0) (fun _ => 0) :=
  ⟨(Fr.refl _ _).alloc _, (Cs.new w _ T).at 0 _ rfl, by simp, hc.alloc _, hm.alloc _, ⟨World.ownsRow_nil _ _ _ _, fun i hi => absurd hi (by omega), fun i hi => absurd hi (by omega), fun i hi => absurd hi (by omega)⟩,
    ⟨World.ownsRow_nil _ _ _ _, fun i hi => absurd hi (by omega), fun i hi => absurd hi (by omega), fun i hi => absurd hi (by omega)⟩, .inl rfl, fun i hi => absurd hi (by omega), fun i hi => absurd hi (by omega), hc.lt, hm.out.lt, fun i hi => (hm.row i hi).lt, hq, hr⟩
/-- All bounds of the first a levels exist. -/
def BdsTo (n : Nat) (M : Mx) (a : Nat) : Prop := ∀ i b, i < a → b < n → (bdM n (upM M) i b).isSome = true ∧ (bdM n (dnM M) i b).isSome = true

set_option maxRecDepth 100000 in
set_option maxHeartbeats 4000000 in
theorem bounds_b (n b0 q cn : Nat) (An : Option Addr) (v1 : Value) (rb : Nat → Nat) (M : Mx) (hn : n ≤ 12) (r : Bool) (H : Hid (boundsM n M ↔ r = true)) (w : World) (hc : Cs w b0 [.slice An n cn, v1, .slice (some ⟨q, 0, none⟩) n n, .slice none 0 0, .slice none 0 0]) (hm : Mem w q n n rb M) (hq : b0 ≠ q) (hr : ∀ i, i < n → b0 ≠ rb i) :
    Calls Tryd.prog 47 #[.pointer (some ⟨b0, 0, none⟩)] w fun e w' => e = .returned (.bool r) ∧ Fr (· = b0) w w' ∧ (r = true → ∃ (JV KV : Value) (jb kb : Nat → Nat), Bo w b0 q n rb M (.slice An n cn) v1 41 (jfM n M) (kfM n M) w' n JV KV jb kb) := by
  have HB0 := Lib.hid (Bo.zero (E := 41) (jf := jfM n M) (kf := kfM n M) 52 hc hm hq hr)
  have hmk := make_ints n hn
  have c0 := hc.at 0 _ rfl
  have hb := hc.lt
  clear hc hm hq hr
  go_enter Tryd.func47, Tryd.ntmps47
  go_wp2_with fail
  go_loopw [22] (fun v wr => ∃ (a : Nat) (JV KV : Value) (jb kb : Nat → Nat), a ≤ n ∧ v = .int .i64 a ∧ Hid (Bo w b0 q n rb M (.slice An n cn) v1 41 (jfM n M) (kfM n M) wr a JV KV jb kb) ∧ Hid (BdsTo n M a)) (fun v _ => n - (intOf v).toNat)
  case atStart => exact ⟨0, _, _, _, _, Nat.zero_le _, rfl, HB0, Lib.hid (fun i b hi => absurd hi (by omega))⟩
  case round =>
    obtain ⟨a, JV, KV, jb, kb, ha, rfl, HB, HT⟩ := hrel
    clear HB0 c0
    by_cases hat : a < n
    · have hat' : (a : Int) < (n : Int) := by omega
      have ha0 : (0 : Int) ≤ (a : Int) := by omega
      go_upto_region 7 with fail
      go_cut [7, 8] from 25 to 84 (fun s7 s8 wx => ∃ gj gm : Nat, s7 = .slice (some ⟨gj, 0, none⟩) n n ∧ s8 = .slice (some ⟨gm, 0, none⟩) n n ∧ Hid (Jo w b0 q n rb M (.slice An n cn) v1 41 (jfM n M) (kfM n M) wx a JV KV jb kb 0 gj gm))
      case first =>
        go_region
        all_goals
          go_wp2_with fail
          go_meet
          case rel => first | exact ⟨_, _, rfl, rfl, Lib.hid (Jo.start _ HB.out (.inl ⟨rfl, rfl⟩))⟩ | exact ⟨_, _, rfl, rfl, Lib.hid (Jo.start _ HB.out (.inr ⟨rfl, rfl⟩))⟩
      case rest =>
        obtain ⟨gj, gm, rfl, rfl, HJ⟩ := hcut
        clear HB
        have HS0 : Hid (∀ k : Nat, k < 0 → (bdM n (upM M) a k).isSome = true ∧ (bdM n (dnM M) a k).isSome = true) := Lib.hid (fun k hk => absurd hk (by omega))
        rename World => wo
        go_wp2_with fail
        go_loopw [30] (fun v wr => ∃ b : Nat, b ≤ n ∧ v = .int .i64 b ∧ Hid (Jo w b0 q n rb M (.slice An n cn) v1 41 (jfM n M) (kfM n M) wr a JV KV jb kb b gj gm) ∧ Hid (∀ k : Nat, k < b → (bdM n (upM M) a k).isSome = true ∧ (bdM n (dnM M) a k).isSome = true)) (fun v _ => n - (intOf v).toNat)
        case atStart => exact ⟨0, Nat.zero_le _, rfl, HJ, HS0⟩
        case round =>
          obtain ⟨b, hbn, rfl, HJ2, HS⟩ := hrel
          clear HJ HS0
          by_cases hbt : b < n
          · have hbt' : (b : Int) < (n : Int) := by omega
            have hb0' : (0 : Int) ≤ (b : Int) := by omega
            obtain ⟨o1, ho1⟩ : ∃ o1, bdM n (upM M) a b = o1 := ⟨_, rfl⟩
            obtain ⟨o2, ho2⟩ : ∃ o2, bdM n (dnM M) a b = o2 := ⟨_, rfl⟩
            have HO1 := Lib.hid ho1
            have HO2 := Lib.hid ho2
            clear ho1 ho2
            have ct := HJ2.out.bo.t
            have c0 := HJ2.out.bo.cs.at 0 _ rfl
            have kj := HJ2.out.cj.at b _ (List.getElem?_eq_getElem (by rw [partV_len]; exact hbt))
            have km := HJ2.out.cm.at b _ (List.getElem?_eq_getElem (by rw [partV_len]; exact hbt))
            have fj := HJ2.out.cj.free b
            have fm := HJ2.out.cm.free b
            generalize (partV (jfM n M a) b n)[b]'(by rw [partV_len]; exact hbt) = x1 at kj
            generalize (partV (kfM n M a) b n)[b]'(by rw [partV_len]; exact hbt) = x2 at km
            have hne := HJ2.out.ne
            have hne2 := hne.symm
            have G1 : True := trivial
            cases o1 with
            | none =>
              have hr : r = false := by
                cases r with
                | false => rfl
                | true => have := (H.out.2 rfl a b hat hbt).1; rw [HO1.out] at this; cases this
              subst hr
              clear H
              go_wp2_with (first | (go_at_call 69; first | (clear G1; refine (bound_up w.heap.size b0 q n rb M An cn a b hat hbt none HO1 _ HJ2.out.bo.up c0 hn).mono ?_; rintro e wy ⟨rfl, rfl⟩) | (refine (bound_dn w.heap.size b0 q n rb M An cn a b hat hbt o2 HO2 _ HJ2.out.bo.up c0 hn).mono ?_; rintro e wy ⟨rfl, rfl⟩)) | fail)
              go_ret
              exact ⟨rfl, HJ2.out.bo.fr, fun h => by cases h⟩
            | some j =>
              cases o2 with
              | none =>
                have hr : r = false := by
                  cases r with
                  | false => rfl
                  | true => have := (H.out.2 rfl a b hat hbt).2; rw [HO2.out] at this; cases this
                subst hr
                clear H
                go_wp2_with (first | (go_at_call 69; first | (clear G1; refine (bound_up w.heap.size b0 q n rb M An cn a b hat hbt (some j) HO1 _ HJ2.out.bo.up c0 hn).mono ?_; rintro e wy ⟨rfl, rfl⟩) | (refine (bound_dn w.heap.size b0 q n rb M An cn a b hat hbt none HO2 _ HJ2.out.bo.up c0 hn).mono ?_; rintro e wy ⟨rfl, rfl⟩)) | fail)
                go_ret
                exact ⟨rfl, HJ2.out.bo.fr, fun h => by cases h⟩
              | some m =>
                have HJ3 : Hid (Jo w b0 q n rb M (.slice An n cn) v1 41 (jfM n M) (kfM n M) ((wr.setCell ⟨gj, b, none⟩ (.int .i64 (j : Nat))).setCell ⟨gm, b, none⟩ (.int .i64 (m : Nat))) a JV KV jb kb (b + 1) gj gm) := by
                  have h := HJ2.out.put hbt
                  have e1 : jfM n M a b = j := by unfold jfM; rw [HO1.out]; rfl
                  have e2 : kfM n M a b = m := by unfold kfM; rw [HO2.out]; rfl
                  rw [e1, e2] at h
                  exact Lib.hid h
                have HS2 : Hid (∀ k : Nat, k < b + 1 → (bdM n (upM M) a k).isSome = true ∧ (bdM n (dnM M) a k).isSome = true) := by
                  refine Lib.hid fun k hk => ?_
                  by_cases e : k = b
                  · subst e; rw [HO1.out, HO2.out]; exact ⟨rfl, rfl⟩
                  · exact HS.out k (by omega)
                clear HS
                go_wp2_with (first | (go_at_call 69; first | (clear G1; refine (bound_up w.heap.size b0 q n rb M An cn a b hat hbt (some j) HO1 _ HJ2.out.bo.up c0 hn).mono ?_; rintro e wy ⟨rfl, rfl⟩) | (refine (bound_dn w.heap.size b0 q n rb M An cn a b hat hbt (some m) HO2 _ HJ2.out.bo.up c0 hn).mono ?_; rintro e wy ⟨rfl, rfl⟩)) | fail)
                go_roundw
                case rel => exact ⟨b + 1, by omega, by go_num, HJ3, HS2⟩
                case measure => simp [intOf]; omega
          · have hge : ¬ ((b : Int) < (n : Int)) := by omega
            obtain rfl : b = n := by omega
            clear hbt
            go_upto_region 17 with fail
            obtain ⟨wd, hwd⟩ : ∃ wd, wr.drew = wd := ⟨_, rfl⟩
            have HJ3 : Hid (Jo w b0 q b rb M (.slice An b cn) v1 41 (jfM b M) (kfM b M) wd a JV KV jb kb b gj gm) := Lib.hid (hwd ▸ HJ2.out.next (Below.refl _ _).drew)
            have HSS : Hid (BdsTo b M (a + 1)) := by
              refine Lib.hid fun i k hi hk => ?_
              by_cases e : i = a
              · subst e; exact HS.out k hk
              · exact HT.out i k (by omega) hk
            clear HJ2 HS HT ha
            have hjk : ∀ x, JV.ownBlock = some x → KV.ownBlock ≠ some x := fun x h1 h2 => by
              rcases HJ3.out.bo.jk with h | h
              · rw [h] at h1; cases h1
              · exact h (by rw [h1, h2])
            have HJK := Lib.hid hjk
            have hlo : ∀ x, JV.ownBlock = some x ∨ KV.ownBlock = some x → w.heap.size < x ∧ x < wd.heap.size := fun x hx => by
              rcases hx with hx | hx
              · have := HJ3.out.bo.j.own.lt x hx; omega
              · have := HJ3.out.bo.k.own.lt x hx; omega
            have HLO := Lib.hid hlo
            have HFS : Hid (∀ W, Fr (fun x => JV.ownBlock = some x ∨ KV.ownBlock = some x) wd W → (W.cell? ⟨w.heap.size, 0, none⟩ = some (.pointer (some ⟨b0, 0, none⟩)) ∧ W.cell? ⟨b0, 3, none⟩ = some JV ∧ W.cell? ⟨b0, 4, none⟩ = some KV) ∧ W.frozen? ⟨b0, 3, none⟩ = false ∧ W.frozen? ⟨b0, 4, none⟩ = false ∧ w.heap.size < W.heap.size ∧ b0 < W.heap.size) := by
              refine Lib.hid fun W hf => ?_
              have hn1 : ¬ (JV.ownBlock = some b0 ∨ KV.ownBlock = some b0) := fun h => by have := (HLO.out b0 h).1; have := HJ3.out.bo.lt; omega
              have hn2 : ¬ (JV.ownBlock = some w.heap.size ∨ KV.ownBlock = some w.heap.size) := fun h => by have := (HLO.out _ h).1; omega
              have hc := HJ3.out.bo.cs.fr hf hn1
              exact ⟨⟨(hf.cell (p := ⟨w.heap.size, 0, none⟩) HJ3.out.bo.tl hn2).trans HJ3.out.bo.t, hc.at 3 _ rfl, hc.at 4 _ rfl⟩, hc.free 3, hc.free 4, Nat.lt_of_lt_of_le HJ3.out.bo.tl hf.size, hc.lt⟩
            have HF0 : Hid (Fr (fun x => JV.ownBlock = some x ∨ KV.ownBlock = some x) wd wd) := Lib.hid (Fr.refl _ _)
            have HOJ0 := Lib.hid HJ3.out.bo.j.own
            have HOK0 := Lib.hid HJ3.out.bo.k.own
            have HWS := Lib.hid (Nat.le_of_lt HJ3.out.bo.tl)
            have hbt0 := HJ3.out.bo.lt
            have hb0w : w.heap.size ≠ b0 := by omega
            have hb0w2 : b0 ≠ w.heap.size := by omega
            obtain ⟨i0, hi0, hz0, hz1, hz2⟩ := info_parts (P := Tryd.prog) (e := 41) (z := .slice none 0 0) (size := 1) (bytes := 24) (by kernel_rfl)
            have HIN := Lib.hid (And.intro hi0 (And.intro hz0 (And.intro hz1 hz2)))
            clear hjk hlo hi0 hz0 hz1 hz2 hmk
            refine wp_region_x (fun W => W.cell? ⟨w.heap.size, 0, none⟩ = some (.pointer (some ⟨b0, 0, none⟩))) 22 (by kernel_rfl) ?_
            rw [hwd]
            clear hwd
            have HSX := (HFS.out _ HF0.out).1
            refine wpAnyX_takeT 1 (oi := ⟨some 65, _, _, _, _, _⟩) (v := ?v1) rfl (by kernel_rfl) (by kernel_rfl) (by kernel_rfl) (by kernel_rfl) (fun _ _ _ h => h) HSX.1 (Or.inl ⟨by rfl, ?y1⟩) ?r1
            case y1 =>
              intro wq hSq
              have s1 := hSq
              go_simp
              try with_reducible rfl
            try simp only [Act.put, List.setIfInBounds_toArray, List.set_cons_succ, List.set_cons_zero]
            refine x_of_z (S := (fun W => W.cell? ⟨w.heap.size, 0, none⟩ = some (.pointer (some ⟨b0, 0, none⟩)) ∧ W.cell? ⟨b0, 3, none⟩ = some JV ∧ W.cell? ⟨b0, 4, none⟩ = some KV)) (R := (fun W => W.cell? ⟨w.heap.size, 0, none⟩ = some (.pointer (some ⟨b0, 0, none⟩)))) (n := 16) _ _ _ _ ?_
            refine wpAnyZ_take 0 (oi := ⟨some 64, _, _, _, _, _⟩) (v := ?v0) rfl (by kernel_rfl) (by kernel_rfl) (by kernel_rfl) (by kernel_rfl) (fun _ _ _ h => h) HSX HSX.1 (Or.inl ⟨by rfl, ?y0⟩) ?r0
            case y0 =>
              intro wq hSq
              obtain ⟨s1, s2, s3⟩ := hSq
              go_simp
              try with_reducible rfl
            try simp only [Act.put, List.setIfInBounds_toArray, List.set_cons_succ, List.set_cons_zero]
            refine wpAnyZ_take 2 (oi := ⟨some 66, _, _, _, _, _⟩) (v := ?v2) rfl (by kernel_rfl) (by kernel_rfl) (by kernel_rfl) (by kernel_rfl) (fun _ _ _ h => h) HSX HSX.1 (Or.inl ⟨by rfl, ?y2⟩) ?r2
            case y2 =>
              intro wq hSq
              obtain ⟨s1, s2, s3⟩ := hSq
              go_simp
              try with_reducible rfl
            try simp only [Act.put, List.setIfInBounds_toArray, List.set_cons_succ, List.set_cons_zero]
            refine wpAnyZ_take 3 (oi := ⟨some 67, _, _, _, _, _⟩) (v := ?v3) rfl (by kernel_rfl) (by kernel_rfl) (by kernel_rfl) (by kernel_rfl) (fun _ _ _ h => h) HSX HSX.1 (Or.inl ⟨by rfl, ?y3⟩) ?r3
            case y3 =>
              intro wq hSq
              obtain ⟨s1, s2, s3⟩ := hSq
              go_simp
              try with_reducible rfl
            try simp only [Act.put, List.setIfInBounds_toArray, List.set_cons_succ, List.set_cons_zero]
            refine wpAnyZ_take 4 (oi := ⟨some 68, _, _, _, _, _⟩) (v := ?v4) rfl (by kernel_rfl) (by kernel_rfl) (by kernel_rfl) (by kernel_rfl) (fun _ _ _ h => h) HSX HSX.1 (Or.inl ⟨by rfl, ?y4⟩) ?r4
            case y4 =>
              intro wq hSq
              obtain ⟨s1, s2, s3⟩ := hSq
              go_simp
              try with_reducible rfl
            try simp only [Act.put, List.setIfInBounds_toArray, List.set_cons_succ, List.set_cons_zero]
            refine wpAnyZ_take 5 (oi := ⟨some 69, _, _, _, _, _⟩) (v := ?v5) rfl (by kernel_rfl) (by kernel_rfl) (by kernel_rfl) (by kernel_rfl) (fun _ _ _ h => h) HSX HSX.1 (Or.inl ⟨by rfl, ?y5⟩) ?r5
            case y5 =>
              intro wq hSq
              obtain ⟨s1, s2, s3⟩ := hSq
              go_simp
              try with_reducible rfl
            try simp only [Act.put, List.setIfInBounds_toArray, List.set_cons_succ, List.set_cons_zero]
            refine wpAnyZ_take 6 (oi := ⟨some 70, _, _, _, _, _⟩) (v := ?v6) rfl (by kernel_rfl) (by kernel_rfl) (by kernel_rfl) (by kernel_rfl) (fun _ _ _ h => h) HSX HSX.1 (Or.inl ⟨by rfl, ?y6⟩) ?r6
            case y6 =>
              intro wq hSq
              obtain ⟨s1, s2, s3⟩ := hSq
              go_simp
              try with_reducible rfl
            try simp only [Act.put, List.setIfInBounds_toArray, List.set_cons_succ, List.set_cons_zero]
            refine wpAnyZ_take 9 (oi := ⟨some 73, _, _, _, _, _⟩) (v := ?v9) rfl (by kernel_rfl) (by kernel_rfl) (by kernel_rfl) (by kernel_rfl) (fun _ _ _ h => h) HSX HSX.1 (Or.inl ⟨by rfl, ?y9⟩) ?r9
            case y9 =>
              intro wq hSq
              obtain ⟨s1, s2, s3⟩ := hSq
              go_simp
              try with_reducible rfl
            try simp only [Act.put, List.setIfInBounds_toArray, List.set_cons_succ, List.set_cons_zero]
            refine wpAnyZ_take 10 (oi := ⟨some 74, _, _, _, _, _⟩) (v := ?v10) rfl (by kernel_rfl) (by kernel_rfl) (by kernel_rfl) (by kernel_rfl) (fun _ _ _ h => h) HSX HSX.1 (Or.inl ⟨by rfl, ?y10⟩) ?r10
            case y10 =>
              intro wq hSq
              obtain ⟨s1, s2, s3⟩ := hSq
              go_simp
              try with_reducible rfl
            try simp only [Act.put, List.setIfInBounds_toArray, List.set_cons_succ, List.set_cons_zero]
            refine wpAnyZ_take 11 (oi := ⟨some 75, _, _, _, _, _⟩) (v := ?v11) rfl (by kernel_rfl) (by kernel_rfl) (by kernel_rfl) (by kernel_rfl) (fun _ _ _ h => h) HSX HSX.1 (Or.inl ⟨by rfl, ?y11⟩) ?r11
            case y11 =>
              intro wq hSq
              obtain ⟨s1, s2, s3⟩ := hSq
              go_simp
              try with_reducible rfl
            try simp only [Act.put, List.setIfInBounds_toArray, List.set_cons_succ, List.set_cons_zero]
            refine wpAnyZ_take 12 (oi := ⟨some 76, _, _, _, _, _⟩) (v := ?v12) rfl (by kernel_rfl) (by kernel_rfl) (by kernel_rfl) (by kernel_rfl) (fun _ _ _ h => h) HSX HSX.1 (Or.inl ⟨by rfl, ?y12⟩) ?r12
            case y12 =>
              intro wq hSq
              obtain ⟨s1, s2, s3⟩ := hSq
              go_simp
              try with_reducible rfl
            try simp only [Act.put, List.setIfInBounds_toArray, List.set_cons_succ, List.set_cons_zero]
            refine wpAnyZ_take 13 (oi := ⟨some 77, _, _, _, _, _⟩) (v := ?v13) rfl (by kernel_rfl) (by kernel_rfl) (by kernel_rfl) (by kernel_rfl) (fun _ _ _ h => h) HSX HSX.1 (Or.inl ⟨by rfl, ?y13⟩) ?r13
            case y13 =>
              intro wq hSq
              obtain ⟨s1, s2, s3⟩ := hSq
              go_simp
              try with_reducible rfl
            try simp only [Act.put, List.setIfInBounds_toArray, List.set_cons_succ, List.set_cons_zero]
            refine wpAnyZ_two 7 14 (by kernel_rfl) rfl rfl ?_ ?_
            · intro K hK
              go_simp
              obtain ⟨W1, hW1⟩ : ∃ z, wd.alloc (.cells #[.slice (some ⟨gj, 0, none⟩) b b] 41) = z := ⟨_, rfl⟩
              obtain ⟨xA1, hxA1⟩ : ∃ z, wd.heap.size = z := ⟨_, rfl⟩
              have HX1 : Hid (W1.cell? ⟨xA1, 0, none⟩ = some (.slice (some ⟨gj, 0, none⟩) b b) ∧ xA1 < W1.heap.size ∧ wd.heap.size ≤ xA1) := Lib.hid ⟨by rw [← hW1, ← hxA1]; exact (Cs.new wd #[.slice (some ⟨gj, 0, none⟩) b b] 41).at 0 _ rfl, by rw [← hW1, ← hxA1]; simp, by rw [← hxA1]; exact HF0.out.size⟩
              have HB1 : Hid (Below wd.heap.size wd W1) := Lib.hid (by rw [← hW1]; exact (Below.refl _ _).alloc (Nat.le_refl _) _)
              rw [hW1, hxA1]
              clear hW1 hxA1
              have HF1 : Hid (Fr (fun x => JV.ownBlock = some x ∨ KV.ownBlock = some x) wd W1) := Lib.hid (HF0.out.next HB1.out)
              have HOJ1 := Lib.hid (own_fr HOJ0.out (Fr.of (S := fun _ => False) HB1.out) (fun _ _ h => h))
              have HOK1 := Lib.hid (own_fr HOK0.out (Fr.of (S := fun _ => False) HB1.out) (fun _ _ h => h))
              have HSY := HFS.out _ HF1.out
              refine hK _ _ (fun _ => HSY.1) HSY.1.1 ?_
              clear hK K
              try simp only [Act.put, List.setIfInBounds_toArray, List.set_cons_succ, List.set_cons_zero]
              refine wpAnyZ_two 8 14 (by kernel_rfl) rfl rfl ?_ ?_
              · intro K hK
                have hnew : ∀ (j : Nat) u, [Value.slice (some ⟨gj, 0, none⟩) b b][j]? = some u → W1.cell? ((⟨xA1, 0, none⟩ : Addr).add j) = some u := by
                  intro j u hj
                  match j, hj with
                  | 0, hj => simp at hj; subst hj; exact HX1.out.1
                  | j + 1, hj => simp at hj
                have HNEW := Lib.hid hnew
                clear hnew
                refine step_append_lies W1 rfl (.tmp 69) (.tmp 71) 95 rfl (w.heap.size + 1) 41 i0 (.slice none 0 0) 1 24 Tryd.underlying95 HIN.out.1 HIN.out.2.1 HIN.out.2.2.1 HIN.out.2.2.2 rfl (by decide) JV a (rowsV jb a b) rfl HOJ1.out ⟨xA1, 0, none⟩ 1 1 [.slice (some ⟨gj, 0, none⟩) b b] rfl rfl HNEW.out (by simp [Value.oneCell']) (by decide) (by unfold maxLen; omega) (by omega) (by have := HF1.out.size; have := HJ3.out.bo.tl; omega) W1.heap.size rfl ?_
                intro g1 c1 W2 hown hgrow hat hglt
                have HOW1 := Lib.hid hown
                have HGR1 := Lib.hid (Fr.grew hgrow)
                have HAT1 : Hid (JV.ownBlock = some g1 ∨ wd.heap.size ≤ g1) := Lib.hid (by rcases hat with h | h; exact .inl h; exact .inr (by rw [h]; exact HF1.out.size))
                have HNE1 : Hid (KV.ownBlock ≠ some g1) := Lib.hid (fun h => by
                  rcases HAT1.out with h1 | h1
                  · exact HJK.out g1 h1 h
                  · have := (HLO.out g1 (.inr h)).2; omega)
                have HG1L : Hid (g1 < W2.heap.size) := Lib.hid hglt
                clear hown hgrow hat hglt HNEW
                have HF2 : Hid (Fr (fun x => JV.ownBlock = some x ∨ KV.ownBlock = some x) wd W2) := Lib.hid (HF1.out.comp HGR1.out (fun i _ hs => .inl hs))
                have HOK2 := Lib.hid (own_fr HOK1.out HGR1.out (fun x h1 h2 => HJK.out x h2 h1))
                have HX2A1 : Hid (W2.cell? ⟨xA1, 0, none⟩ = some (.slice (some ⟨gj, 0, none⟩) b b) ∧ xA1 < W2.heap.size ∧ wd.heap.size ≤ xA1) := Lib.hid ⟨(HGR1.out.cell (p := ⟨xA1, 0, none⟩) HX1.out.2.1 (fun h => by have := (HLO.out xA1 (.inl h)).2; have := HX1.out.2.2; omega)).trans HX1.out.1, Nat.lt_of_lt_of_le HX1.out.2.1 HGR1.out.size, HX1.out.2.2⟩
                have HSY := HFS.out _ HF2.out
                refine hK _ _ (fun _ => HSY.1) HSY.1.1 ?_
                clear hK K
                try simp only [Act.put, List.setIfInBounds_toArray]
                refine wpAnyZ_one 14 (by kernel_rfl) rfl ?_
                intro K hK
                go_simp
                obtain ⟨W3, hW3⟩ : ∃ z, W2.alloc (.cells #[.slice (some ⟨gm, 0, none⟩) b b] 41) = z := ⟨_, rfl⟩
                obtain ⟨xA2, hxA2⟩ : ∃ z, W2.heap.size = z := ⟨_, rfl⟩
                have HX3 : Hid (W3.cell? ⟨xA2, 0, none⟩ = some (.slice (some ⟨gm, 0, none⟩) b b) ∧ xA2 < W3.heap.size ∧ wd.heap.size ≤ xA2) := Lib.hid ⟨by rw [← hW3, ← hxA2]; exact (Cs.new W2 #[.slice (some ⟨gm, 0, none⟩) b b] 41).at 0 _ rfl, by rw [← hW3, ← hxA2]; simp, by rw [← hxA2]; exact HF2.out.size⟩
                have HB3 : Hid (Below W2.heap.size W2 W3) := Lib.hid (by rw [← hW3]; exact (Below.refl _ _).alloc (Nat.le_refl _) _)
                rw [hW3, hxA2]
                clear hW3 hxA2
                have HF3 : Hid (Fr (fun x => JV.ownBlock = some x ∨ KV.ownBlock = some x) wd W3) := Lib.hid (HF2.out.next HB3.out)
                have HOJ3 := Lib.hid (own_fr HOW1.out (Fr.of (S := fun _ => False) HB3.out) (fun _ _ h => h))
                have HOK3 := Lib.hid (own_fr HOK2.out (Fr.of (S := fun _ => False) HB3.out) (fun _ _ h => h))
                have HX3A1 : Hid (W3.cell? ⟨xA1, 0, none⟩ = some (.slice (some ⟨gj, 0, none⟩) b b) ∧ xA1 < W3.heap.size ∧ wd.heap.size ≤ xA1) := Lib.hid ⟨(HB3.out.cell (p := ⟨xA1, 0, none⟩) HX2A1.out.2.1).trans HX2A1.out.1, Nat.lt_of_lt_of_le HX2A1.out.2.1 HB3.out.size, HX2A1.out.2.2⟩
                have HSY := HFS.out _ HF3.out
                refine hK _ _ (fun _ => HSY.1) HSY.1.1 ?_
                clear hK K
                try simp only [Act.put, List.setIfInBounds_toArray, List.set_cons_succ, List.set_cons_zero]
                refine wpAnyZ_one 15 (by kernel_rfl) rfl ?_
                have HG1B : Hid (g1 < W3.heap.size) := Lib.hid ((HOJ3.out.lt g1 rfl).2)
                intro K hK
                have hnew : ∀ (j : Nat) u, [Value.slice (some ⟨gm, 0, none⟩) b b][j]? = some u → W3.cell? ((⟨xA2, 0, none⟩ : Addr).add j) = some u := by
                  intro j u hj
                  match j, hj with
                  | 0, hj => simp at hj; subst hj; exact HX3.out.1
                  | j + 1, hj => simp at hj
                have HNEW := Lib.hid hnew
                clear hnew
                refine step_append_lies W3 rfl (.tmp 76) (.tmp 78) 95 rfl (w.heap.size + 1) 41 i0 (.slice none 0 0) 1 24 Tryd.underlying95 HIN.out.1 HIN.out.2.1 HIN.out.2.2.1 HIN.out.2.2.2 rfl (by decide) KV a (rowsV kb a b) rfl HOK3.out ⟨xA2, 0, none⟩ 1 1 [.slice (some ⟨gm, 0, none⟩) b b] rfl rfl HNEW.out (by simp [Value.oneCell']) (by decide) (by unfold maxLen; omega) (by omega) (by have := HF3.out.size; have := HJ3.out.bo.tl; omega) W3.heap.size rfl ?_
                intro g2 c2 W4 hown hgrow hat hglt
                have HOW2 := Lib.hid hown
                have HGR2 := Lib.hid (Fr.grew hgrow)
                have HAT2 : Hid (KV.ownBlock = some g2 ∨ wd.heap.size ≤ g2) := Lib.hid (by rcases hat with h | h; exact .inl h; exact .inr (by rw [h]; exact HF3.out.size))
                have HNE2 : Hid (g1 ≠ g2) := Lib.hid (fun h => by
                  rcases hat with h1 | h1
                  · exact HNE1.out (by rw [h1, h])
                  · have := HG1B.out; omega)
                clear hown hgrow hat hglt HNEW
                have HF4 : Hid (Fr (fun x => JV.ownBlock = some x ∨ KV.ownBlock = some x) wd W4) := Lib.hid (HF3.out.comp HGR2.out (fun i _ hs => .inr hs))
                have HOJ4 := Lib.hid (own_fr HOJ3.out HGR2.out (fun x h1 h2 => HNE1.out (by simp only [Value.ownBlock, Option.some.injEq] at h1; rw [h1]; exact h2)))
                have HX4A1 : Hid (W4.cell? ⟨xA1, 0, none⟩ = some (.slice (some ⟨gj, 0, none⟩) b b) ∧ xA1 < W4.heap.size ∧ wd.heap.size ≤ xA1) := Lib.hid ⟨(HGR2.out.cell (p := ⟨xA1, 0, none⟩) HX3A1.out.2.1 (fun h => by have := (HLO.out xA1 (.inr h)).2; have := HX3A1.out.2.2; omega)).trans HX3A1.out.1, Nat.lt_of_lt_of_le HX3A1.out.2.1 HGR2.out.size, HX3A1.out.2.2⟩
                have HX4A2 : Hid (W4.cell? ⟨xA2, 0, none⟩ = some (.slice (some ⟨gm, 0, none⟩) b b) ∧ xA2 < W4.heap.size ∧ wd.heap.size ≤ xA2) := Lib.hid ⟨(HGR2.out.cell (p := ⟨xA2, 0, none⟩) HX3.out.2.1 (fun h => by have := (HLO.out xA2 (.inr h)).2; have := HX3.out.2.2; omega)).trans HX3.out.1, Nat.lt_of_lt_of_le HX3.out.2.1 HGR2.out.size, HX3.out.2.2⟩
                have HSY := HFS.out _ HF4.out
                refine hK _ _ (fun _ => HSY.1) HSY.1.1 ?_
                clear hK K
                try simp only [Act.put, List.setIfInBounds_toArray]
                have HSZ := HFS.out _ HF4.out
                obtain ⟨⟨t1, t2, t3⟩, t4, t5, t6, t7⟩ := HSZ
                refine wpAnyZ_one 16 (by kernel_rfl) rfl (fun K hK => ?_)
                go_simp
                refine hK _ _ (fun h => absurd h (by decide)) t1 ?_
                clear hK K
                try simp only [Act.put, List.setIfInBounds_toArray, List.set_cons_succ, List.set_cons_zero]
                refine wpAnyZ_one 17 (by kernel_rfl) rfl (fun K hK => ?_)
                go_simp
                refine hK _ _ (fun h => absurd h (by decide)) t1 ?_
                clear hK K
                try simp only [Act.put, List.setIfInBounds_toArray, List.set_cons_succ, List.set_cons_zero]
                refine wpAnyZ_one 18 (by kernel_rfl) rfl (fun K hK => ?_)
                go_simp
                refine hK _ _ (fun h => absurd h (by decide)) (by go_simp) ?_
                clear hK K
                try simp only [Act.put, List.setIfInBounds_toArray, List.set_cons_succ, List.set_cons_zero]
                refine wpAnyZ_one 19 (by kernel_rfl) rfl (fun K hK => ?_)
                go_simp
                refine hK _ _ (fun h => absurd h (by decide)) (by go_simp) ?_
                clear hK K
                try simp only [Act.put, List.setIfInBounds_toArray, List.set_cons_succ, List.set_cons_zero]
                refine wpAnyZ_one 20 (by kernel_rfl) rfl (fun K hK => ?_)
                go_simp
                refine hK _ _ (fun h => absurd h (by decide)) (by go_simp) ?_
                clear hK K
                try simp only [Act.put, List.setIfInBounds_toArray, List.set_cons_succ, List.set_cons_zero]
                refine wpAnyZ_one 21 (by kernel_rfl) rfl (fun K hK => ?_)
                go_simp
                refine hK _ _ (fun h => absurd h (by decide)) (by go_simp) ?_
                clear hK K
                refine wpAnyZ_done (by kernel_rfl) ?_ _
                have HBO := Lib.hid (HJ3.out.push HF4.out HOJ4.out HOW2.out HAT1.out HAT2.out HNE2.out)
                clear t1 t2 t3 t4 t5 t6 t7
                go_wp2_with fail
                go_roundw
                case rel => exact ⟨a + 1, _, _, _, _, by omega, by go_num, HBO, HSS⟩
                case measure => simp [intOf]; omega
              · intro K hK
                go_simp
                obtain ⟨W2, hW2⟩ : ∃ z, W1.alloc (.cells #[.slice (some ⟨gm, 0, none⟩) b b] 41) = z := ⟨_, rfl⟩
                obtain ⟨xA2, hxA2⟩ : ∃ z, W1.heap.size = z := ⟨_, rfl⟩
                have HX2 : Hid (W2.cell? ⟨xA2, 0, none⟩ = some (.slice (some ⟨gm, 0, none⟩) b b) ∧ xA2 < W2.heap.size ∧ wd.heap.size ≤ xA2) := Lib.hid ⟨by rw [← hW2, ← hxA2]; exact (Cs.new W1 #[.slice (some ⟨gm, 0, none⟩) b b] 41).at 0 _ rfl, by rw [← hW2, ← hxA2]; simp, by rw [← hxA2]; exact HF1.out.size⟩
                have HB2 : Hid (Below W1.heap.size W1 W2) := Lib.hid (by rw [← hW2]; exact (Below.refl _ _).alloc (Nat.le_refl _) _)
                rw [hW2, hxA2]
                clear hW2 hxA2
                have HF2 : Hid (Fr (fun x => JV.ownBlock = some x ∨ KV.ownBlock = some x) wd W2) := Lib.hid (HF1.out.next HB2.out)
                have HOJ2 := Lib.hid (own_fr HOJ1.out (Fr.of (S := fun _ => False) HB2.out) (fun _ _ h => h))
                have HOK2 := Lib.hid (own_fr HOK1.out (Fr.of (S := fun _ => False) HB2.out) (fun _ _ h => h))
                have HX2A1 : Hid (W2.cell? ⟨xA1, 0, none⟩ = some (.slice (some ⟨gj, 0, none⟩) b b) ∧ xA1 < W2.heap.size ∧ wd.heap.size ≤ xA1) := Lib.hid ⟨(HB2.out.cell (p := ⟨xA1, 0, none⟩) HX1.out.2.1).trans HX1.out.1, Nat.lt_of_lt_of_le HX1.out.2.1 HB2.out.size, HX1.out.2.2⟩
                have HSY := HFS.out _ HF2.out
                refine hK _ _ (fun _ => HSY.1) HSY.1.1 ?_
                clear hK K
                try simp only [Act.put, List.setIfInBounds_toArray, List.set_cons_succ, List.set_cons_zero]
                refine wpAnyZ_one 8 (by kernel_rfl) rfl ?_
                intro K hK
                have hnew : ∀ (j : Nat) u, [Value.slice (some ⟨gj, 0, none⟩) b b][j]? = some u → W2.cell? ((⟨xA1, 0, none⟩ : Addr).add j) = some u := by
                  intro j u hj
                  match j, hj with
                  | 0, hj => simp at hj; subst hj; exact HX2A1.out.1
                  | j + 1, hj => simp at hj
                have HNEW := Lib.hid hnew
                clear hnew
                refine step_append_lies W2 rfl (.tmp 69) (.tmp 71) 95 rfl (w.heap.size + 1) 41 i0 (.slice none 0 0) 1 24 Tryd.underlying95 HIN.out.1 HIN.out.2.1 HIN.out.2.2.1 HIN.out.2.2.2 rfl (by decide) JV a (rowsV jb a b) rfl HOJ2.out ⟨xA1, 0, none⟩ 1 1 [.slice (some ⟨gj, 0, none⟩) b b] rfl rfl HNEW.out (by simp [Value.oneCell']) (by decide) (by unfold maxLen; omega) (by omega) (by have := HF2.out.size; have := HJ3.out.bo.tl; omega) W2.heap.size rfl ?_
                intro g1 c1 W3 hown hgrow hat hglt
                have HOW1 := Lib.hid hown
                have HGR1 := Lib.hid (Fr.grew hgrow)
                have HAT1 : Hid (JV.ownBlock = some g1 ∨ wd.heap.size ≤ g1) := Lib.hid (by rcases hat with h | h; exact .inl h; exact .inr (by rw [h]; exact HF2.out.size))
                have HNE1 : Hid (KV.ownBlock ≠ some g1) := Lib.hid (fun h => by
                  rcases HAT1.out with h1 | h1
                  · exact HJK.out g1 h1 h
                  · have := (HLO.out g1 (.inr h)).2; omega)
                have HG1L : Hid (g1 < W3.heap.size) := Lib.hid hglt
                clear hown hgrow hat hglt HNEW
                have HF3 : Hid (Fr (fun x => JV.ownBlock = some x ∨ KV.ownBlock = some x) wd W3) := Lib.hid (HF2.out.comp HGR1.out (fun i _ hs => .inl hs))
                have HOK3 := Lib.hid (own_fr HOK2.out HGR1.out (fun x h1 h2 => HJK.out x h2 h1))
                have HX3A1 : Hid (W3.cell? ⟨xA1, 0, none⟩ = some (.slice (some ⟨gj, 0, none⟩) b b) ∧ xA1 < W3.heap.size ∧ wd.heap.size ≤ xA1) := Lib.hid ⟨(HGR1.out.cell (p := ⟨xA1, 0, none⟩) HX2A1.out.2.1 (fun h => by have := (HLO.out xA1 (.inl h)).2; have := HX2A1.out.2.2; omega)).trans HX2A1.out.1, Nat.lt_of_lt_of_le HX2A1.out.2.1 HGR1.out.size, HX2A1.out.2.2⟩
                have HX3A2 : Hid (W3.cell? ⟨xA2, 0, none⟩ = some (.slice (some ⟨gm, 0, none⟩) b b) ∧ xA2 < W3.heap.size ∧ wd.heap.size ≤ xA2) := Lib.hid ⟨(HGR1.out.cell (p := ⟨xA2, 0, none⟩) HX2.out.2.1 (fun h => by have := (HLO.out xA2 (.inl h)).2; have := HX2.out.2.2; omega)).trans HX2.out.1, Nat.lt_of_lt_of_le HX2.out.2.1 HGR1.out.size, HX2.out.2.2⟩
                have HSY := HFS.out _ HF3.out
                refine hK _ _ (fun _ => HSY.1) HSY.1.1 ?_
                clear hK K
                try simp only [Act.put, List.setIfInBounds_toArray]
                refine wpAnyZ_one 15 (by kernel_rfl) rfl ?_
                have HG1B : Hid (g1 < W3.heap.size) := Lib.hid ((HOW1.out.lt g1 rfl).2)
                intro K hK
                have hnew : ∀ (j : Nat) u, [Value.slice (some ⟨gm, 0, none⟩) b b][j]? = some u → W3.cell? ((⟨xA2, 0, none⟩ : Addr).add j) = some u := by
                  intro j u hj
                  match j, hj with
                  | 0, hj => simp at hj; subst hj; exact HX3A2.out.1
                  | j + 1, hj => simp at hj
                have HNEW := Lib.hid hnew
                clear hnew
                refine step_append_lies W3 rfl (.tmp 76) (.tmp 78) 95 rfl (w.heap.size + 1) 41 i0 (.slice none 0 0) 1 24 Tryd.underlying95 HIN.out.1 HIN.out.2.1 HIN.out.2.2.1 HIN.out.2.2.2 rfl (by decide) KV a (rowsV kb a b) rfl HOK3.out ⟨xA2, 0, none⟩ 1 1 [.slice (some ⟨gm, 0, none⟩) b b] rfl rfl HNEW.out (by simp [Value.oneCell']) (by decide) (by unfold maxLen; omega) (by omega) (by have := HF3.out.size; have := HJ3.out.bo.tl; omega) W3.heap.size rfl ?_
                intro g2 c2 W4 hown hgrow hat hglt
                have HOW2 := Lib.hid hown
                have HGR2 := Lib.hid (Fr.grew hgrow)
                have HAT2 : Hid (KV.ownBlock = some g2 ∨ wd.heap.size ≤ g2) := Lib.hid (by rcases hat with h | h; exact .inl h; exact .inr (by rw [h]; exact HF3.out.size))
                have HNE2 : Hid (g1 ≠ g2) := Lib.hid (fun h => by
                  rcases hat with h1 | h1
                  · exact HNE1.out (by rw [h1, h])
                  · have := HG1B.out; omega)
                clear hown hgrow hat hglt HNEW
                have HF4 : Hid (Fr (fun x => JV.ownBlock = some x ∨ KV.ownBlock = some x) wd W4) := Lib.hid (HF3.out.comp HGR2.out (fun i _ hs => .inr hs))
                have HOJ4 := Lib.hid (own_fr HOW1.out HGR2.out (fun x h1 h2 => HNE1.out (by simp only [Value.ownBlock, Option.some.injEq] at h1; rw [h1]; exact h2)))
                have HX4A1 : Hid (W4.cell? ⟨xA1, 0, none⟩ = some (.slice (some ⟨gj, 0, none⟩) b b) ∧ xA1 < W4.heap.size ∧ wd.heap.size ≤ xA1) := Lib.hid ⟨(HGR2.out.cell (p := ⟨xA1, 0, none⟩) HX3A1.out.2.1 (fun h => by have := (HLO.out xA1 (.inr h)).2; have := HX3A1.out.2.2; omega)).trans HX3A1.out.1, Nat.lt_of_lt_of_le HX3A1.out.2.1 HGR2.out.size, HX3A1.out.2.2⟩
                have HX4A2 : Hid (W4.cell? ⟨xA2, 0, none⟩ = some (.slice (some ⟨gm, 0, none⟩) b b) ∧ xA2 < W4.heap.size ∧ wd.heap.size ≤ xA2) := Lib.hid ⟨(HGR2.out.cell (p := ⟨xA2, 0, none⟩) HX3A2.out.2.1 (fun h => by have := (HLO.out xA2 (.inr h)).2; have := HX3A2.out.2.2; omega)).trans HX3A2.out.1, Nat.lt_of_lt_of_le HX3A2.out.2.1 HGR2.out.size, HX3A2.out.2.2⟩
                have HSY := HFS.out _ HF4.out
                refine hK _ _ (fun _ => HSY.1) HSY.1.1 ?_
                clear hK K
                try simp only [Act.put]
                have HSZ := HFS.out _ HF4.out
                obtain ⟨⟨t1, t2, t3⟩, t4, t5, t6, t7⟩ := HSZ
                refine wpAnyZ_one 16 (by kernel_rfl) rfl (fun K hK => ?_)
                go_simp
                refine hK _ _ (fun h => absurd h (by decide)) t1 ?_
                clear hK K
                try simp only [Act.put, List.setIfInBounds_toArray, List.set_cons_succ, List.set_cons_zero]
                refine wpAnyZ_one 17 (by kernel_rfl) rfl (fun K hK => ?_)
                go_simp
                refine hK _ _ (fun h => absurd h (by decide)) t1 ?_
                clear hK K
                try simp only [Act.put, List.setIfInBounds_toArray, List.set_cons_succ, List.set_cons_zero]
                refine wpAnyZ_one 18 (by kernel_rfl) rfl (fun K hK => ?_)
                go_simp
                refine hK _ _ (fun h => absurd h (by decide)) (by go_simp) ?_
                clear hK K
                try simp only [Act.put, List.setIfInBounds_toArray, List.set_cons_succ, List.set_cons_zero]
                refine wpAnyZ_one 19 (by kernel_rfl) rfl (fun K hK => ?_)
                go_simp
                refine hK _ _ (fun h => absurd h (by decide)) (by go_simp) ?_
                clear hK K
                try simp only [Act.put, List.setIfInBounds_toArray, List.set_cons_succ, List.set_cons_zero]
                refine wpAnyZ_one 20 (by kernel_rfl) rfl (fun K hK => ?_)
                go_simp
                refine hK _ _ (fun h => absurd h (by decide)) (by go_simp) ?_
                clear hK K
                try simp only [Act.put, List.setIfInBounds_toArray, List.set_cons_succ, List.set_cons_zero]
                refine wpAnyZ_one 21 (by kernel_rfl) rfl (fun K hK => ?_)
                go_simp
                refine hK _ _ (fun h => absurd h (by decide)) (by go_simp) ?_
                clear hK K
                refine wpAnyZ_done (by kernel_rfl) ?_ _
                have HBO := Lib.hid (HJ3.out.push HF4.out HOJ4.out HOW2.out HAT1.out HAT2.out HNE2.out)
                clear t1 t2 t3 t4 t5 t6 t7
                go_wp2_with fail
                go_roundw
                case rel => exact ⟨a + 1, _, _, _, _, by omega, by go_num, HBO, HSS⟩
                case measure => simp [intOf]; omega
            · intro K hK
              go_simp
              obtain ⟨W1, hW1⟩ : ∃ z, wd.alloc (.cells #[.slice (some ⟨gm, 0, none⟩) b b] 41) = z := ⟨_, rfl⟩
              obtain ⟨xA2, hxA2⟩ : ∃ z, wd.heap.size = z := ⟨_, rfl⟩
              have HX1 : Hid (W1.cell? ⟨xA2, 0, none⟩ = some (.slice (some ⟨gm, 0, none⟩) b b) ∧ xA2 < W1.heap.size ∧ wd.heap.size ≤ xA2) := Lib.hid ⟨by rw [← hW1, ← hxA2]; exact (Cs.new wd #[.slice (some ⟨gm, 0, none⟩) b b] 41).at 0 _ rfl, by rw [← hW1, ← hxA2]; simp, by rw [← hxA2]; exact HF0.out.size⟩
              have HB1 : Hid (Below wd.heap.size wd W1) := Lib.hid (by rw [← hW1]; exact (Below.refl _ _).alloc (Nat.le_refl _) _)
              rw [hW1, hxA2]
              clear hW1 hxA2
              have HF1 : Hid (Fr (fun x => JV.ownBlock = some x ∨ KV.ownBlock = some x) wd W1) := Lib.hid (HF0.out.next HB1.out)
              have HOJ1 := Lib.hid (own_fr HOJ0.out (Fr.of (S := fun _ => False) HB1.out) (fun _ _ h => h))
              have HOK1 := Lib.hid (own_fr HOK0.out (Fr.of (S := fun _ => False) HB1.out) (fun _ _ h => h))
              have HSY := HFS.out _ HF1.out
              refine hK _ _ (fun _ => HSY.1) HSY.1.1 ?_
              clear hK K
              try simp only [Act.put, List.setIfInBounds_toArray, List.set_cons_succ, List.set_cons_zero]
              refine wpAnyZ_one 7 (by kernel_rfl) rfl ?_
              intro K hK
              go_simp
              obtain ⟨W2, hW2⟩ : ∃ z, W1.alloc (.cells #[.slice (some ⟨gj, 0, none⟩) b b] 41) = z := ⟨_, rfl⟩
              obtain ⟨xA1, hxA1⟩ : ∃ z, W1.heap.size = z := ⟨_, rfl⟩
              have HX2 : Hid (W2.cell? ⟨xA1, 0, none⟩ = some (.slice (some ⟨gj, 0, none⟩) b b) ∧ xA1 < W2.heap.size ∧ wd.heap.size ≤ xA1) := Lib.hid ⟨by rw [← hW2, ← hxA1]; exact (Cs.new W1 #[.slice (some ⟨gj, 0, none⟩) b b] 41).at 0 _ rfl, by rw [← hW2, ← hxA1]; simp, by rw [← hxA1]; exact HF1.out.size⟩
              have HB2 : Hid (Below W1.heap.size W1 W2) := Lib.hid (by rw [← hW2]; exact (Below.refl _ _).alloc (Nat.le_refl _) _)
              rw [hW2, hxA1]
              clear hW2 hxA1
              have HF2 : Hid (Fr (fun x => JV.ownBlock = some x ∨ KV.ownBlock = some x) wd W2) := Lib.hid (HF1.out.next HB2.out)
              have HOJ2 := Lib.hid (own_fr HOJ1.out (Fr.of (S := fun _ => False) HB2.out) (fun _ _ h => h))
              have HOK2 := Lib.hid (own_fr HOK1.out (Fr.of (S := fun _ => False) HB2.out) (fun _ _ h => h))
              have HX2A2 : Hid (W2.cell? ⟨xA2, 0, none⟩ = some (.slice (some ⟨gm, 0, none⟩) b b) ∧ xA2 < W2.heap.size ∧ wd.heap.size ≤ xA2) := Lib.hid ⟨(HB2.out.cell (p := ⟨xA2, 0, none⟩) HX1.out.2.1).trans HX1.out.1, Nat.lt_of_lt_of_le HX1.out.2.1 HB2.out.size, HX1.out.2.2⟩
              have HSY := HFS.out _ HF2.out
              refine hK _ _ (fun _ => HSY.1) HSY.1.1 ?_
              clear hK K
              try simp only [Act.put, List.setIfInBounds_toArray, List.set_cons_succ, List.set_cons_zero]
              refine wpAnyZ_one 8 (by kernel_rfl) rfl ?_
              intro K hK
              have hnew : ∀ (j : Nat) u, [Value.slice (some ⟨gj, 0, none⟩) b b][j]? = some u → W2.cell? ((⟨xA1, 0, none⟩ : Addr).add j) = some u := by
                intro j u hj
                match j, hj with
                | 0, hj => simp at hj; subst hj; exact HX2.out.1
                | j + 1, hj => simp at hj
              have HNEW := Lib.hid hnew
              clear hnew
              refine step_append_lies W2 rfl (.tmp 69) (.tmp 71) 95 rfl (w.heap.size + 1) 41 i0 (.slice none 0 0) 1 24 Tryd.underlying95 HIN.out.1 HIN.out.2.1 HIN.out.2.2.1 HIN.out.2.2.2 rfl (by decide) JV a (rowsV jb a b) rfl HOJ2.out ⟨xA1, 0, none⟩ 1 1 [.slice (some ⟨gj, 0, none⟩) b b] rfl rfl HNEW.out (by simp [Value.oneCell']) (by decide) (by unfold maxLen; omega) (by omega) (by have := HF2.out.size; have := HJ3.out.bo.tl; omega) W2.heap.size rfl ?_
              intro g1 c1 W3 hown hgrow hat hglt
              have HOW1 := Lib.hid hown
              have HGR1 := Lib.hid (Fr.grew hgrow)
              have HAT1 : Hid (JV.ownBlock = some g1 ∨ wd.heap.size ≤ g1) := Lib.hid (by rcases hat with h | h; exact .inl h; exact .inr (by rw [h]; exact HF2.out.size))
              have HNE1 : Hid (KV.ownBlock ≠ some g1) := Lib.hid (fun h => by
                rcases HAT1.out with h1 | h1
                · exact HJK.out g1 h1 h
                · have := (HLO.out g1 (.inr h)).2; omega)
              have HG1L : Hid (g1 < W3.heap.size) := Lib.hid hglt
              clear hown hgrow hat hglt HNEW
              have HF3 : Hid (Fr (fun x => JV.ownBlock = some x ∨ KV.ownBlock = some x) wd W3) := Lib.hid (HF2.out.comp HGR1.out (fun i _ hs => .inl hs))
              have HOK3 := Lib.hid (own_fr HOK2.out HGR1.out (fun x h1 h2 => HJK.out x h2 h1))
              have HX3A2 : Hid (W3.cell? ⟨xA2, 0, none⟩ = some (.slice (some ⟨gm, 0, none⟩) b b) ∧ xA2 < W3.heap.size ∧ wd.heap.size ≤ xA2) := Lib.hid ⟨(HGR1.out.cell (p := ⟨xA2, 0, none⟩) HX2A2.out.2.1 (fun h => by have := (HLO.out xA2 (.inl h)).2; have := HX2A2.out.2.2; omega)).trans HX2A2.out.1, Nat.lt_of_lt_of_le HX2A2.out.2.1 HGR1.out.size, HX2A2.out.2.2⟩
              have HX3A1 : Hid (W3.cell? ⟨xA1, 0, none⟩ = some (.slice (some ⟨gj, 0, none⟩) b b) ∧ xA1 < W3.heap.size ∧ wd.heap.size ≤ xA1) := Lib.hid ⟨(HGR1.out.cell (p := ⟨xA1, 0, none⟩) HX2.out.2.1 (fun h => by have := (HLO.out xA1 (.inl h)).2; have := HX2.out.2.2; omega)).trans HX2.out.1, Nat.lt_of_lt_of_le HX2.out.2.1 HGR1.out.size, HX2.out.2.2⟩
              have HSY := HFS.out _ HF3.out
              refine hK _ _ (fun _ => HSY.1) HSY.1.1 ?_
              clear hK K
              try simp only [Act.put, List.setIfInBounds_toArray]
              refine wpAnyZ_one 15 (by kernel_rfl) rfl ?_
              have HG1B : Hid (g1 < W3.heap.size) := Lib.hid ((HOW1.out.lt g1 rfl).2)
              intro K hK
              have hnew : ∀ (j : Nat) u, [Value.slice (some ⟨gm, 0, none⟩) b b][j]? = some u → W3.cell? ((⟨xA2, 0, none⟩ : Addr).add j) = some u := by
                intro j u hj
                match j, hj with
                | 0, hj => simp at hj; subst hj; exact HX3A2.out.1
                | j + 1, hj => simp at hj
              have HNEW := Lib.hid hnew
              clear hnew
              refine step_append_lies W3 rfl (.tmp 76) (.tmp 78) 95 rfl (w.heap.size + 1) 41 i0 (.slice none 0 0) 1 24 Tryd.underlying95 HIN.out.1 HIN.out.2.1 HIN.out.2.2.1 HIN.out.2.2.2 rfl (by decide) KV a (rowsV kb a b) rfl HOK3.out ⟨xA2, 0, none⟩ 1 1 [.slice (some ⟨gm, 0, none⟩) b b] rfl rfl HNEW.out (by simp [Value.oneCell']) (by decide) (by unfold maxLen; omega) (by omega) (by have := HF3.out.size; have := HJ3.out.bo.tl; omega) W3.heap.size rfl ?_
              intro g2 c2 W4 hown hgrow hat hglt
              have HOW2 := Lib.hid hown
              have HGR2 := Lib.hid (Fr.grew hgrow)
              have HAT2 : Hid (KV.ownBlock = some g2 ∨ wd.heap.size ≤ g2) := Lib.hid (by rcases hat with h | h; exact .inl h; exact .inr (by rw [h]; exact HF3.out.size))
              have HNE2 : Hid (g1 ≠ g2) := Lib.hid (fun h => by
                rcases hat with h1 | h1
                · exact HNE1.out (by rw [h1, h])
                · have := HG1B.out; omega)
              clear hown hgrow hat hglt HNEW
              have HF4 : Hid (Fr (fun x => JV.ownBlock = some x ∨ KV.ownBlock = some x) wd W4) := Lib.hid (HF3.out.comp HGR2.out (fun i _ hs => .inr hs))
              have HOJ4 := Lib.hid (own_fr HOW1.out HGR2.out (fun x h1 h2 => HNE1.out (by simp only [Value.ownBlock, Option.some.injEq] at h1; rw [h1]; exact h2)))
              have HX4A2 : Hid (W4.cell? ⟨xA2, 0, none⟩ = some (.slice (some ⟨gm, 0, none⟩) b b) ∧ xA2 < W4.heap.size ∧ wd.heap.size ≤ xA2) := Lib.hid ⟨(HGR2.out.cell (p := ⟨xA2, 0, none⟩) HX3A2.out.2.1 (fun h => by have := (HLO.out xA2 (.inr h)).2; have := HX3A2.out.2.2; omega)).trans HX3A2.out.1, Nat.lt_of_lt_of_le HX3A2.out.2.1 HGR2.out.size, HX3A2.out.2.2⟩
              have HX4A1 : Hid (W4.cell? ⟨xA1, 0, none⟩ = some (.slice (some ⟨gj, 0, none⟩) b b) ∧ xA1 < W4.heap.size ∧ wd.heap.size ≤ xA1) := Lib.hid ⟨(HGR2.out.cell (p := ⟨xA1, 0, none⟩) HX3A1.out.2.1 (fun h => by have := (HLO.out xA1 (.inr h)).2; have := HX3A1.out.2.2; omega)).trans HX3A1.out.1, Nat.lt_of_lt_of_le HX3A1.out.2.1 HGR2.out.size, HX3A1.out.2.2⟩
              have HSY := HFS.out _ HF4.out
              refine hK _ _ (fun _ => HSY.1) HSY.1.1 ?_
              clear hK K
              try simp only [Act.put]
              have HSZ := HFS.out _ HF4.out
              obtain ⟨⟨t1, t2, t3⟩, t4, t5, t6, t7⟩ := HSZ
              refine wpAnyZ_one 16 (by kernel_rfl) rfl (fun K hK => ?_)
              go_simp
              refine hK _ _ (fun h => absurd h (by decide)) t1 ?_
              clear hK K
              try simp only [Act.put, List.setIfInBounds_toArray, List.set_cons_succ, List.set_cons_zero]
              refine wpAnyZ_one 17 (by kernel_rfl) rfl (fun K hK => ?_)
              go_simp
              refine hK _ _ (fun h => absurd h (by decide)) t1 ?_
              clear hK K
              try simp only [Act.put, List.setIfInBounds_toArray, List.set_cons_succ, List.set_cons_zero]
              refine wpAnyZ_one 18 (by kernel_rfl) rfl (fun K hK => ?_)
              go_simp
              refine hK _ _ (fun h => absurd h (by decide)) (by go_simp) ?_
              clear hK K
              try simp only [Act.put, List.setIfInBounds_toArray, List.set_cons_succ, List.set_cons_zero]
              refine wpAnyZ_one 19 (by kernel_rfl) rfl (fun K hK => ?_)
              go_simp
              refine hK _ _ (fun h => absurd h (by decide)) (by go_simp) ?_
              clear hK K
              try simp only [Act.put, List.setIfInBounds_toArray, List.set_cons_succ, List.set_cons_zero]
              refine wpAnyZ_one 20 (by kernel_rfl) rfl (fun K hK => ?_)
              go_simp
              refine hK _ _ (fun h => absurd h (by decide)) (by go_simp) ?_
              clear hK K
              try simp only [Act.put, List.setIfInBounds_toArray, List.set_cons_succ, List.set_cons_zero]
              refine wpAnyZ_one 21 (by kernel_rfl) rfl (fun K hK => ?_)
              go_simp
              refine hK _ _ (fun h => absurd h (by decide)) (by go_simp) ?_
              clear hK K
              refine wpAnyZ_done (by kernel_rfl) ?_ _
              have HBO := Lib.hid (HJ3.out.push HF4.out HOJ4.out HOW2.out HAT1.out HAT2.out HNE2.out)
              clear t1 t2 t3 t4 t5 t6 t7
              go_wp2_with fail
              go_roundw
              case rel => exact ⟨a + 1, _, _, _, _, by omega, by go_num, HBO, HSS⟩
              case measure => simp [intOf]; omega
    · have hge : ¬ ((a : Int) < (n : Int)) := by omega
      obtain rfl : a = n := by omega
      have hr : r = true := H.out.1 (fun i b hi hb => HT.out i b hi hb)
      subst hr
      clear H
      go_wp2_with fail
      go_ret
      exact ⟨rfl, HB.out.fr, JV, KV, jb, kb, HB.out⟩
end Go.Proofs.YtnipigninbeplaaDoor
