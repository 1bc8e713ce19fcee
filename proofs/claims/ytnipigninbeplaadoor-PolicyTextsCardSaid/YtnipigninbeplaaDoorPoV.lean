/-
  The walks over the reference's Join and Meet.
-/
import Derived.Test.YtnipigninbeplaaDoorPoU
namespace Go.Proofs.YtnipigninbeplaaDoor
open Go.RowKit

def obI (o : Option Nat) : Int := match o with | some c => c | none => -1

set_option maxRecDepth 100000 in
set_option maxHeartbeats 4000000 in
theorem rjoin_b (q n cn cq : Nat) (rb : Nat → Nat) (M : Mx) (An : Option Addr) (a b : Nat) (ha : a < n) (hb : b < n) (o : Option Nat) (r : Int) (H : Hid (bdM n (upM M) a b = o)) (HRR : Hid (obI o = r)) (w : World) (hm : Mem w q n n rb M) (hn : n ≤ 12) :
    Calls Tryd.prog 43 #[.agg #[.slice An n cn, .slice (some ⟨q, 0, none⟩) n cq], .int .i64 a, .int .i64 b] w fun e w' => e = .returned (.int .i64 r) ∧ Below w.heap.size w w' := by
  have HM0 := Lib.hid (hm.alloc (.cells #[.slice An n cn, .slice (some ⟨q, 0, none⟩) n cq] 58))
  have HC := Lib.hid (Cs.new w #[.slice An n cn, .slice (some ⟨q, 0, none⟩) n cq] 58)
  have HBE := Lib.hid ((Below.refl w.heap.size w).alloc (Nat.le_refl _) (.cells #[.slice An n cn, .slice (some ⟨q, 0, none⟩) n cq] 58))
  have HR0 : Hid (bdF n (upM M) a b (n - 0) = o) := H
  have hai : (a : Int) < (n : Int) := by omega
  have hbi : (b : Int) < (n : Int) := by omega
  have ha0 : (0 : Int) ≤ (a : Int) := by omega
  have hb0 : (0 : Int) ≤ (b : Int) := by omega
  clear H hm
  go_enter Tryd.func43, Tryd.ntmps43
  go_upto_region 1 with fail
  obtain ⟨w1, hw1⟩ : ∃ z, w.alloc (.cells #[.slice An n cn, .slice (some ⟨q, 0, none⟩) n cq] 58) = z := ⟨_, rfl⟩
  obtain ⟨p0, hp0⟩ : ∃ z, w.heap.size = z := ⟨_, rfl⟩
  rw [hw1] at HM0 HC HBE
  rw [hp0] at HC
  rw [hw1, hp0]
  have HM := HM0
  clear hw1 HM0
  have c0 := HC.out.at 0 _ rfl
  have c1 := HC.out.at 1 _ rfl
  go_wp2_with fail
  go_loopw [7] (fun v wr => ∃ c : Nat, c ≤ n ∧ v = .int .i64 c ∧ wr = w1 ∧ Hid (bdF n (upM M) a b (n - c) = o)) (fun v _ => n - (intOf v).toNat)
  case atStart => exact ⟨0, Nat.zero_le _, rfl, rfl, HR0⟩
  case round =>
    obtain ⟨c, hc, rfl, hwr, HR⟩ := hrel
    subst hwr
    rename World => w1
    clear HR0
    by_cases hct : c < n
    · have hct' : (c : Int) < (n : Int) := by omega
      have hc0 : (0 : Int) ≤ (c : Int) := by omega
      obtain ⟨x, hx⟩ : ∃ x, upM M a c = x := ⟨_, rfl⟩
      obtain ⟨y, hy⟩ : ∃ y, upM M b c = y := ⟨_, rfl⟩
      have Hx := Lib.hid hx
      have Hy := Lib.hid hy
      clear hx hy
      have or1 := HM.out.rowAt a (by omega)
      have ok0 : w1.cell? ⟨rb a, c, none⟩ = some (.bool x) := by rw [HM.out.at a c (by omega) (by omega)]; exact congrArg (fun z => some (Value.bool z)) Hx.out
      have or2 := HM.out.rowAt b (by omega)
      have ok1 : w1.cell? ⟨rb b, c, none⟩ = some (.bool y) := by rw [HM.out.at b c (by omega) (by omega)]; exact congrArg (fun z => some (Value.bool z)) Hy.out
      have HNO : (x && y) = false → Hid (bdF n (upM M) a b (n - (c + 1)) = o) := fun h => by
        have h2 := HR.out
        rw [bdF_no hct (by
          cases x with
          | false => exact isBd_a Hx.out
          | true => exact isBd_b (by rw [Hy.out]; simpa using h))] at h2
        exact Lib.hid h2
      cases x with
      | false =>
        have HR2 := HNO rfl
        clear HR HNO
        go_wp2_with fail
        go_roundw
        case rel => exact ⟨c + 1, by omega, by go_num, trivial, HR2⟩
        case measure => simp [intOf]; omega
      | true =>
        cases y with
        | false =>
          have HR2 := HNO rfl
          clear HR HNO
          go_wp2_with fail
          go_roundw
          case rel => exact ⟨c + 1, by omega, by go_num, trivial, HR2⟩
          case measure => simp [intOf]; omega
        | true =>
          clear HNO
          go_wp2_with fail
          go_loopw [8, 9] (fun u v wr => ∃ (d : Nat) (bl : Bool), d ≤ n ∧ u = .bool bl ∧ v = .int .i64 d ∧ wr = w1 ∧ Hid (bl = true ↔ ∀ e : Nat, e < d → upM M a e = true → upM M b e = true → upM M c e = true)) (fun _ v _ => n - (intOf v).toNat)
          case atStart => exact ⟨0, true, Nat.zero_le _, rfl, rfl, rfl, Lib.hid ⟨fun _ e he => absurd he (by omega), fun _ => rfl⟩⟩
          case round =>
            obtain ⟨d, bl, hd, rfl, rfl, hwr, HBL⟩ := hrel
            subst hwr
            rename World => w1
            by_cases hdt : d < n
            · have hdt' : (d : Int) < (n : Int) := by omega
              have hd0 : (0 : Int) ≤ (d : Int) := by omega
              obtain ⟨p, hp⟩ : ∃ x, upM M a d = x := ⟨_, rfl⟩
              obtain ⟨p2, hp2⟩ : ∃ x, upM M b d = x := ⟨_, rfl⟩
              obtain ⟨p3, hp3⟩ : ∃ x, upM M c d = x := ⟨_, rfl⟩
              have Hp := Lib.hid hp
              have Hp2 := Lib.hid hp2
              have Hp3 := Lib.hid hp3
              clear hp hp2 hp3
              have ir1 := HM.out.rowAt a (by omega)
              have ik0 : w1.cell? ⟨rb a, d, none⟩ = some (.bool p) := by rw [HM.out.at a d (by omega) (by omega)]; exact congrArg (fun z => some (Value.bool z)) Hp.out
              have ir2 := HM.out.rowAt b (by omega)
              have ik1 : w1.cell? ⟨rb b, d, none⟩ = some (.bool p2) := by rw [HM.out.at b d (by omega) (by omega)]; exact congrArg (fun z => some (Value.bool z)) Hp2.out
              have ir3 := HM.out.rowAt c (by omega)
              have ik2 : w1.cell? ⟨rb c, d, none⟩ = some (.bool p3) := by rw [HM.out.at c d (by omega) (by omega)]; exact congrArg (fun z => some (Value.bool z)) Hp3.out
              have HSAME : (p && (p2 && !p3)) = false → Hid (bl = true ↔ ∀ e : Nat, e < d + 1 → upM M a e = true → upM M b e = true → upM M c e = true) := fun h => by
                refine Lib.hid ⟨fun hb e he h1 h2 => ?_, fun hall => HBL.out.2 fun e he => hall e (by omega)⟩
                by_cases hed : e = d
                · subst hed
                  rw [Hp.out] at h1
                  rw [Hp2.out] at h2
                  rw [Hp3.out]
                  subst h1
                  subst h2
                  simpa using h
                · exact HBL.out.1 hb e (by omega) h1 h2
              have HBAD : p = true → p2 = true → p3 = false → Hid (false = true ↔ ∀ e : Nat, e < d + 1 → upM M a e = true → upM M b e = true → upM M c e = true) := fun h1 h2 h3 => by
                refine Lib.hid ⟨fun h => (by cases h), fun hall => ?_⟩
                have := hall d (by omega) (by rw [Hp.out, h1]) (by rw [Hp2.out, h2])
                rw [Hp3.out, h3] at this
                exact this
              cases p with
              | false =>
                have HB2 := HSAME rfl
                clear HSAME HBAD HBL
                go_wp2_with fail
                go_roundw
                case rel => exact ⟨d + 1, bl, by omega, rfl, by go_num, trivial, HB2⟩
                case measure => simp [intOf]; omega
              | true =>
                cases p2 with
                | false =>
                  have HB2 := HSAME rfl
                  clear HSAME HBAD HBL
                  go_wp2_with fail
                  go_roundw
                  case rel => exact ⟨d + 1, bl, by omega, rfl, by go_num, trivial, HB2⟩
                  case measure => simp [intOf]; omega
                | true =>
                  cases p3 with
                  | true =>
                    have HB2 := HSAME rfl
                    clear HSAME HBAD HBL
                    go_wp2_with fail
                    go_roundw
                    case rel => exact ⟨d + 1, bl, by omega, rfl, by go_num, trivial, HB2⟩
                    case measure => simp [intOf]; omega
                  | false =>
                    have HB2 := HBAD rfl rfl rfl
                    clear HSAME HBAD HBL
                    go_wp2_with fail
                    go_roundw
                    case rel => exact ⟨d + 1, false, by omega, rfl, by go_num, trivial, HB2⟩
                    case measure => simp [intOf]; omega
            · have hge : ¬ ((d : Int) < (n : Int)) := by omega
              obtain rfl : d = n := by omega
              cases bl with
              | true =>
                obtain rfl : o = some c := by rw [← HR.out, bdF_yes hct (isBd_yes Hx.out Hy.out (HBL.out.1 rfl))]
                have hr : r = c := HRR.out.symm
                subst hr
                clear HR HBL
                go_wp2_with fail
                go_ret
                exact ⟨rfl, hp0 ▸ HBE.out⟩
              | false =>
                have HR2 : Hid (bdF d (upM M) a b (d - (c + 1)) = o) := by
                  have h2 := HR.out
                  have hex : isBd d (upM M) a b c = false := by
                    unfold isBd
                    rw [decide_eq_false (fun h => by have := HBL.out.2 h; cases this), Bool.and_false]
                  rw [bdF_no hct hex] at h2
                  exact Lib.hid h2
                clear HR HBL
                go_wp2_with fail
                go_roundw
                case rel => exact ⟨c + 1, by omega, by go_num, trivial, HR2⟩
                case measure => simp [intOf]; omega
    · have hge : ¬ ((c : Int) < (n : Int)) := by omega
      obtain rfl : c = n := by omega
      obtain rfl : o = none := by rw [← HR.out, Nat.sub_self]; rfl
      have hr : r = -1 := HRR.out.symm
      subst hr
      clear HR hct
      go_wp2_with fail
      go_ret
      exact ⟨rfl, hp0 ▸ HBE.out⟩

set_option maxRecDepth 100000 in
set_option maxHeartbeats 4000000 in
theorem rmeet_b (q n cn cq : Nat) (rb : Nat → Nat) (M : Mx) (An : Option Addr) (a b : Nat) (ha : a < n) (hb : b < n) (o : Option Nat) (r : Int) (H : Hid (bdM n (dnM M) a b = o)) (HRR : Hid (obI o = r)) (w : World) (hm : Mem w q n n rb M) (hn : n ≤ 12) :
    Calls Tryd.prog 51 #[.agg #[.slice An n cn, .slice (some ⟨q, 0, none⟩) n cq], .int .i64 a, .int .i64 b] w fun e w' => e = .returned (.int .i64 r) ∧ Below w.heap.size w w' := by
  have HM0 := Lib.hid (hm.alloc (.cells #[.slice An n cn, .slice (some ⟨q, 0, none⟩) n cq] 58))
  have HC := Lib.hid (Cs.new w #[.slice An n cn, .slice (some ⟨q, 0, none⟩) n cq] 58)
  have HBE := Lib.hid ((Below.refl w.heap.size w).alloc (Nat.le_refl _) (.cells #[.slice An n cn, .slice (some ⟨q, 0, none⟩) n cq] 58))
  have HR0 : Hid (bdF n (dnM M) a b (n - 0) = o) := H
  have hai : (a : Int) < (n : Int) := by omega
  have hbi : (b : Int) < (n : Int) := by omega
  have ha0 : (0 : Int) ≤ (a : Int) := by omega
  have hb0 : (0 : Int) ≤ (b : Int) := by omega
  clear H hm
  go_enter Tryd.func51, Tryd.ntmps51
  go_upto_region 1 with fail
  obtain ⟨w1, hw1⟩ : ∃ z, w.alloc (.cells #[.slice An n cn, .slice (some ⟨q, 0, none⟩) n cq] 58) = z := ⟨_, rfl⟩
  obtain ⟨p0, hp0⟩ : ∃ z, w.heap.size = z := ⟨_, rfl⟩
  rw [hw1] at HM0 HC HBE
  rw [hp0] at HC
  rw [hw1, hp0]
  have HM := HM0
  clear hw1 HM0
  have c0 := HC.out.at 0 _ rfl
  have c1 := HC.out.at 1 _ rfl
  go_wp2_with fail
  go_loopw [7] (fun v wr => ∃ c : Nat, c ≤ n ∧ v = .int .i64 c ∧ wr = w1 ∧ Hid (bdF n (dnM M) a b (n - c) = o)) (fun v _ => n - (intOf v).toNat)
  case atStart => exact ⟨0, Nat.zero_le _, rfl, rfl, HR0⟩
  case round =>
    obtain ⟨c, hc, rfl, hwr, HR⟩ := hrel
    subst hwr
    rename World => w1
    clear HR0
    by_cases hct : c < n
    · have hct' : (c : Int) < (n : Int) := by omega
      have hc0 : (0 : Int) ≤ (c : Int) := by omega
      obtain ⟨x, hx⟩ : ∃ x, dnM M a c = x := ⟨_, rfl⟩
      obtain ⟨y, hy⟩ : ∃ y, dnM M b c = y := ⟨_, rfl⟩
      have Hx := Lib.hid hx
      have Hy := Lib.hid hy
      clear hx hy
      have or1 := HM.out.rowAt c (by omega)
      have ok0 : w1.cell? ⟨rb c, a, none⟩ = some (.bool x) := by rw [HM.out.at c a (by omega) (by omega)]; exact congrArg (fun z => some (Value.bool z)) Hx.out
      have ok1 : w1.cell? ⟨rb c, b, none⟩ = some (.bool y) := by rw [HM.out.at c b (by omega) (by omega)]; exact congrArg (fun z => some (Value.bool z)) Hy.out
      have HNO : (x && y) = false → Hid (bdF n (dnM M) a b (n - (c + 1)) = o) := fun h => by
        have h2 := HR.out
        rw [bdF_no hct (by
          cases x with
          | false => exact isBd_a Hx.out
          | true => exact isBd_b (by rw [Hy.out]; simpa using h))] at h2
        exact Lib.hid h2
      cases x with
      | false =>
        have HR2 := HNO rfl
        clear HR HNO
        go_wp2_with fail
        go_roundw
        case rel => exact ⟨c + 1, by omega, by go_num, trivial, HR2⟩
        case measure => simp [intOf]; omega
      | true =>
        cases y with
        | false =>
          have HR2 := HNO rfl
          clear HR HNO
          go_wp2_with fail
          go_roundw
          case rel => exact ⟨c + 1, by omega, by go_num, trivial, HR2⟩
          case measure => simp [intOf]; omega
        | true =>
          clear HNO
          go_wp2_with fail
          go_loopw [8, 9] (fun u v wr => ∃ (d : Nat) (bl : Bool), d ≤ n ∧ u = .bool bl ∧ v = .int .i64 d ∧ wr = w1 ∧ Hid (bl = true ↔ ∀ e : Nat, e < d → dnM M a e = true → dnM M b e = true → dnM M c e = true)) (fun _ v _ => n - (intOf v).toNat)
          case atStart => exact ⟨0, true, Nat.zero_le _, rfl, rfl, rfl, Lib.hid ⟨fun _ e he => absurd he (by omega), fun _ => rfl⟩⟩
          case round =>
            obtain ⟨d, bl, hd, rfl, rfl, hwr, HBL⟩ := hrel
            subst hwr
            rename World => w1
            by_cases hdt : d < n
            · have hdt' : (d : Int) < (n : Int) := by omega
              have hd0 : (0 : Int) ≤ (d : Int) := by omega
              obtain ⟨p, hp⟩ : ∃ x, dnM M a d = x := ⟨_, rfl⟩
              obtain ⟨p2, hp2⟩ : ∃ x, dnM M b d = x := ⟨_, rfl⟩
              obtain ⟨p3, hp3⟩ : ∃ x, dnM M c d = x := ⟨_, rfl⟩
              have Hp := Lib.hid hp
              have Hp2 := Lib.hid hp2
              have Hp3 := Lib.hid hp3
              clear hp hp2 hp3
              have ir1 := HM.out.rowAt d (by omega)
              have ik0 : w1.cell? ⟨rb d, a, none⟩ = some (.bool p) := by rw [HM.out.at d a (by omega) (by omega)]; exact congrArg (fun z => some (Value.bool z)) Hp.out
              have ik1 : w1.cell? ⟨rb d, b, none⟩ = some (.bool p2) := by rw [HM.out.at d b (by omega) (by omega)]; exact congrArg (fun z => some (Value.bool z)) Hp2.out
              have ik2 : w1.cell? ⟨rb d, c, none⟩ = some (.bool p3) := by rw [HM.out.at d c (by omega) (by omega)]; exact congrArg (fun z => some (Value.bool z)) Hp3.out
              have HSAME : (p && (p2 && !p3)) = false → Hid (bl = true ↔ ∀ e : Nat, e < d + 1 → dnM M a e = true → dnM M b e = true → dnM M c e = true) := fun h => by
                refine Lib.hid ⟨fun hb e he h1 h2 => ?_, fun hall => HBL.out.2 fun e he => hall e (by omega)⟩
                by_cases hed : e = d
                · subst hed
                  rw [Hp.out] at h1
                  rw [Hp2.out] at h2
                  rw [Hp3.out]
                  subst h1
                  subst h2
                  simpa using h
                · exact HBL.out.1 hb e (by omega) h1 h2
              have HBAD : p = true → p2 = true → p3 = false → Hid (false = true ↔ ∀ e : Nat, e < d + 1 → dnM M a e = true → dnM M b e = true → dnM M c e = true) := fun h1 h2 h3 => by
                refine Lib.hid ⟨fun h => (by cases h), fun hall => ?_⟩
                have := hall d (by omega) (by rw [Hp.out, h1]) (by rw [Hp2.out, h2])
                rw [Hp3.out, h3] at this
                exact this
              cases p with
              | false =>
                have HB2 := HSAME rfl
                clear HSAME HBAD HBL
                go_wp2_with fail
                go_roundw
                case rel => exact ⟨d + 1, bl, by omega, rfl, by go_num, trivial, HB2⟩
                case measure => simp [intOf]; omega
              | true =>
                cases p2 with
                | false =>
                  have HB2 := HSAME rfl
                  clear HSAME HBAD HBL
                  go_wp2_with fail
                  go_roundw
                  case rel => exact ⟨d + 1, bl, by omega, rfl, by go_num, trivial, HB2⟩
                  case measure => simp [intOf]; omega
                | true =>
                  cases p3 with
                  | true =>
                    have HB2 := HSAME rfl
                    clear HSAME HBAD HBL
                    go_wp2_with fail
                    go_roundw
                    case rel => exact ⟨d + 1, bl, by omega, rfl, by go_num, trivial, HB2⟩
                    case measure => simp [intOf]; omega
                  | false =>
                    have HB2 := HBAD rfl rfl rfl
                    clear HSAME HBAD HBL
                    go_wp2_with fail
                    go_roundw
                    case rel => exact ⟨d + 1, false, by omega, rfl, by go_num, trivial, HB2⟩
                    case measure => simp [intOf]; omega
            · have hge : ¬ ((d : Int) < (n : Int)) := by omega
              obtain rfl : d = n := by omega
              cases bl with
              | true =>
                obtain rfl : o = some c := by rw [← HR.out, bdF_yes hct (isBd_yes Hx.out Hy.out (HBL.out.1 rfl))]
                have hr : r = c := HRR.out.symm
                subst hr
                clear HR HBL
                go_wp2_with fail
                go_ret
                exact ⟨rfl, hp0 ▸ HBE.out⟩
              | false =>
                have HR2 : Hid (bdF d (dnM M) a b (d - (c + 1)) = o) := by
                  have h2 := HR.out
                  have hex : isBd d (dnM M) a b c = false := by
                    unfold isBd
                    rw [decide_eq_false (fun h => by have := HBL.out.2 h; cases this), Bool.and_false]
                  rw [bdF_no hct hex] at h2
                  exact Lib.hid h2
                clear HR HBL
                go_wp2_with fail
                go_roundw
                case rel => exact ⟨c + 1, by omega, by go_num, trivial, HR2⟩
                case measure => simp [intOf]; omega
    · have hge : ¬ ((c : Int) < (n : Int)) := by omega
      obtain rfl : c = n := by omega
      obtain rfl : o = none := by rw [← HR.out, Nat.sub_self]; rfl
      have hr : r = -1 := HRR.out.symm
      subst hr
      clear HR hct
      go_wp2_with fail
      go_ret
      exact ⟨rfl, hp0 ▸ HBE.out⟩
end Go.Proofs.YtnipigninbeplaaDoor
