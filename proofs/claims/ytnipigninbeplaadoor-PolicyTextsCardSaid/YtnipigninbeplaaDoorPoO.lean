/-
  The walks over the closures of the lattice's bounds and over bound.
-/
import Derived.Test.YtnipigninbeplaaDoorPoL
import Derived.Deep.LoopGhost
namespace Go.Proofs.YtnipigninbeplaaDoor
open Go.RowKit

/-- What a closure of bounds sees. -/
structure Up (w : World) (T b0 q n : Nat) (rb : Nat → Nat) (M : Mx) : Prop where
  t : w.cell? ⟨T, 0, none⟩ = some (.pointer (some ⟨b0, 0, none⟩))
  tl : T < w.heap.size
  c : w.cell? ⟨b0, 2, none⟩ = some (.slice (some ⟨q, 0, none⟩) n n)
  cl : b0 < w.heap.size
  m : Mem w q n n rb M
theorem Up.next {w w' : World} {T b0 q n : Nat} {rb : Nat → Nat} {M : Mx} (h : Up w T b0 q n rb M) (hb : Below w.heap.size w w') : Up w' T b0 q n rb M :=
  ⟨(hb.cell (p := ⟨T, 0, none⟩) h.tl).trans h.t, Nat.lt_of_lt_of_le h.tl hb.size, (hb.cell (p := ⟨b0, 2, none⟩) h.cl).trans h.c, Nat.lt_of_lt_of_le h.cl hb.size, h.m.next hb⟩
theorem isBd_yes {n : Nat} {f : Nat → Nat → Bool} {a b c : Nat} (h1 : f a c = true) (h2 : f b c = true) (h3 : ∀ d, d < n → f a d = true → f b d = true → f c d = true) : isBd n f a b c = true := by
  unfold isBd
  rw [h1, h2, decide_eq_true h3]
  rfl
theorem isBd_no {n : Nat} {f : Nat → Nat → Bool} {a b c d : Nat} (hd : d < n) (h1 : f a d = true) (h2 : f b d = true) (h3 : f c d = false) : isBd n f a b c = false := by
  unfold isBd
  rw [decide_eq_false (fun h => by have := h d hd h1 h2; rw [h3] at this; cases this), Bool.and_false]
theorem isBd_a {n : Nat} {f : Nat → Nat → Bool} {a b c : Nat} (h1 : f a c = false) : isBd n f a b c = false := by
  unfold isBd
  rw [h1]
  rfl
theorem isBd_b {n : Nat} {f : Nat → Nat → Bool} {a b c : Nat} (h1 : f b c = false) : isBd n f a b c = false := by
  unfold isBd
  rw [h1, Bool.and_false]
  rfl
theorem bdF_yes {n : Nat} {f : Nat → Nat → Bool} {a b c : Nat} (hc : c < n) (h : isBd n f a b c = true) : bdF n f a b (n - c) = some c := by
  have e : n - c = (n - (c + 1)) + 1 := by omega
  rw [e, bdF, show n - (n - (c + 1) + 1) = c by omega, if_pos h]
theorem bdF_no {n : Nat} {f : Nat → Nat → Bool} {a b c : Nat} (hc : c < n) (h : isBd n f a b c = false) : bdF n f a b (n - c) = bdF n f a b (n - (c + 1)) := by
  have e : n - c = (n - (c + 1)) + 1 := by omega
  rw [e, bdF, show n - (n - (c + 1) + 1) = c by omega, if_neg (by rw [h]; decide)]

set_option maxHeartbeats 1000000 in
theorem up_b (T b0 q n : Nat) (rb : Nat → Nat) (M : Mx) (x y : Nat) (hx : x < n) (hy : y < n) (b : Bool) (H : Hid (upM M x y = b)) (w : World) (h : Up w T b0 q n rb M) :
    Calls Tryd.prog 67 #[.int .i64 x, .int .i64 y, .pointer (some ⟨T, 0, none⟩)] w fun e w' => e = .returned (.bool b) ∧ w = w' := by
  have c0 := h.t
  have c1 := h.c
  have c2 := h.m.rowAt x hx
  have c3 : w.cell? ⟨rb x, y, none⟩ = some (.bool b) := by rw [h.m.at x y hx hy, ← H.out]; rfl
  have hx1 : (x : Int) < (n : Int) := by omega
  have hy1 : (y : Int) < (n : Int) := by omega
  have hx0 : (0 : Int) ≤ (x : Int) := by omega
  have hy0 : (0 : Int) ≤ (y : Int) := by omega
  clear H h
  go_enter Tryd.func67, Tryd.ntmps67
  go_wp2_with fail
  go_ret
  exact ⟨rfl, rfl⟩

set_option maxRecDepth 100000 in
set_option maxHeartbeats 4000000 in
theorem bound_up (T b0 q n : Nat) (rb : Nat → Nat) (M : Mx) (An : Option Addr) (cn : Nat) (a b : Nat) (ha : a < n) (hb : b < n) (o : Option Nat) (H : Hid (bdM n (upM M) a b = o)) (w : World) (h : Up w T b0 q n rb M) (h0 : w.cell? ⟨b0, 0, none⟩ = some (.slice An n cn)) (hn : n ≤ 12) :
    Calls Tryd.prog 69 #[.pointer (some ⟨b0, 0, none⟩), .int .i64 a, .int .i64 b, .func (Fn.func 67) #[] #[.pointer (some ⟨T, 0, none⟩)]] w fun e w' => e = .returned (.tuple #[.int .i64 (o.getD 0 : Nat), .bool o.isSome]) ∧ w = w' := by
  have HU := Lib.hid h
  have HR0 : Hid (bdF n (upM M) a b (n - 0) = o) := H
  clear H h
  go_enter Tryd.func69, Tryd.ntmps69
  go_wp2_with fail
  go_step3
  go_wp2_with fail
  go_step3
  go_wp2_with fail
  go_loopg [19] n (fun g v wr => ∃ c : Nat, c + g = n ∧ v = .int .i64 c ∧ wr = w ∧ Hid (bdF n (upM M) a b (n - c) = o))
  case atStart => exact ⟨0, by omega, rfl, rfl, HR0⟩
  case round =>
    obtain ⟨c, hc, rfl, rfl, HR⟩ := hrel
    clear HR0
    by_cases hct : c < n
    · have hct' : (c : Int) < (n : Int) := by omega
      have hc0 : (0 : Int) ≤ (c : Int) := by omega
      obtain ⟨x, hx⟩ : ∃ x, upM M a c = x := ⟨_, rfl⟩
      have HXX := Lib.hid hx
      clear hx
      cases x with
      | false =>
        have HR2 : Hid (bdF n (upM M) a b (n - (c + 1)) = o) := by
          have h := HR.out
          rw [bdF_no hct (isBd_a HXX.out)] at h
          exact Lib.hid h
        clear HR
        go_wp2_with (first | (go_at_call 67; refine (up_b T b0 q n rb M a c ha hct false HXX _ HU.out).mono ?_; rintro e wy ⟨rfl, rfl⟩) | fail)
        go_roundg (gk - 1)
        case measure => omega
        case rel => exact ⟨c + 1, by omega, by go_num, rfl, HR2⟩
      | true =>
        obtain ⟨y, hy⟩ : ∃ y, upM M b c = y := ⟨_, rfl⟩
        have HYY := Lib.hid hy
        clear hy
        cases y with
        | false =>
          have HR2 : Hid (bdF n (upM M) a b (n - (c + 1)) = o) := by
            have h := HR.out
            rw [bdF_no hct (isBd_b HYY.out)] at h
            exact Lib.hid h
          clear HR
          have G1 : True := trivial
          go_wp2_with (first | (go_at_call 67; first | (clear G1; refine (up_b T b0 q n rb M a c ha hct true HXX _ HU.out).mono ?_; rintro e wy ⟨rfl, rfl⟩) | (refine (up_b T b0 q n rb M b c hb hct false HYY _ HU.out).mono ?_; rintro e wy ⟨rfl, rfl⟩)) | fail)
          go_roundg (gk - 1)
          case measure => omega
          case rel => exact ⟨c + 1, by omega, by go_num, rfl, HR2⟩
        | true =>
          have G1 : True := trivial
          go_wp2_with (first | (go_at_call 67; first | (clear G1; refine (up_b T b0 q n rb M a c ha hct true HXX _ HU.out).mono ?_; rintro e wy ⟨rfl, rfl⟩) | (refine (up_b T b0 q n rb M b c hb hct true HYY _ HU.out).mono ?_; rintro e wy ⟨rfl, rfl⟩)) | fail)
          obtain ⟨g, rfl⟩ : ∃ g, gk = g + 1 := ⟨gk - 1, by omega⟩
          rename World => wo
          go_loopg [35] n (fun g2 v wy => ∃ d : Nat, d + g2 = n ∧ v = .int .i64 d ∧ wy = wo ∧ Hid (∀ e : Nat, e < d → upM M a e = true → upM M b e = true → upM M c e = true))
          case atStart => exact ⟨0, by omega, rfl, rfl, Lib.hid (fun e he => absurd he (by omega))⟩
          case round =>
            obtain ⟨d, hd, rfl, rfl, HD⟩ := hrel
            by_cases hdt : d < n
            · have hdt' : (d : Int) < (n : Int) := by omega
              have hd0 : (0 : Int) ≤ (d : Int) := by omega
              obtain ⟨p, hp⟩ : ∃ p, upM M a d = p := ⟨_, rfl⟩
              have HP := Lib.hid hp
              clear hp
              cases p with
              | false =>
                have HD2 : Hid (∀ e : Nat, e < d + 1 → upM M a e = true → upM M b e = true → upM M c e = true) := by
                  refine Lib.hid fun e he h1 h2 => ?_
                  by_cases hed : e = d
                  · subst hed; rw [HP.out] at h1; cases h1
                  · exact HD.out e (by omega) h1 h2
                clear HD
                go_wp2_with (first | (go_at_call 67; refine (up_b T b0 q n rb M a d ha hdt false HP _ HU.out).mono ?_; rintro e wy ⟨rfl, rfl⟩) | fail)
                go_roundg (gk - 1)
                case measure => omega
                case rel => exact ⟨d + 1, by omega, by go_num, rfl, HD2⟩
              | true =>
                obtain ⟨p2, hp2⟩ : ∃ p, upM M b d = p := ⟨_, rfl⟩
                have HP2 := Lib.hid hp2
                clear hp2
                cases p2 with
                | false =>
                  have HD2 : Hid (∀ e : Nat, e < d + 1 → upM M a e = true → upM M b e = true → upM M c e = true) := by
                    refine Lib.hid fun e he h1 h2 => ?_
                    by_cases hed : e = d
                    · subst hed; rw [HP2.out] at h2; cases h2
                    · exact HD.out e (by omega) h1 h2
                  clear HD
                  have G1 : True := trivial
                  go_wp2_with (first | (go_at_call 67; first | (clear G1; refine (up_b T b0 q n rb M a d ha hdt true HP _ HU.out).mono ?_; rintro e wy ⟨rfl, rfl⟩) | (refine (up_b T b0 q n rb M b d hb hdt false HP2 _ HU.out).mono ?_; rintro e wy ⟨rfl, rfl⟩)) | fail)
                  go_roundg (gk - 1)
                  case measure => omega
                  case rel => exact ⟨d + 1, by omega, by go_num, rfl, HD2⟩
                | true =>
                  obtain ⟨p3, hp3⟩ : ∃ p, upM M c d = p := ⟨_, rfl⟩
                  have HP3 := Lib.hid hp3
                  clear hp3
                  cases p3 with
                  | true =>
                    have HD2 : Hid (∀ e : Nat, e < d + 1 → upM M a e = true → upM M b e = true → upM M c e = true) := by
                      refine Lib.hid fun e he h1 h2 => ?_
                      by_cases hed : e = d
                      · subst hed; exact HP3.out
                      · exact HD.out e (by omega) h1 h2
                    clear HD
                    have G1 : True := trivial
                    have G2 : True := trivial
                    go_wp2_with (first | (go_at_call 67; first | (clear G1; refine (up_b T b0 q n rb M a d ha hdt true HP _ HU.out).mono ?_; rintro e wy ⟨rfl, rfl⟩) | (clear G2; refine (up_b T b0 q n rb M b d hb hdt true HP2 _ HU.out).mono ?_; rintro e wy ⟨rfl, rfl⟩) | (refine (up_b T b0 q n rb M c d hct hdt true HP3 _ HU.out).mono ?_; rintro e wy ⟨rfl, rfl⟩)) | fail)
                    go_roundg (gk - 1)
                    case measure => omega
                    case rel => exact ⟨d + 1, by omega, by go_num, rfl, HD2⟩
                  | false =>
                    have HR2 : Hid (bdF n (upM M) a b (n - (c + 1)) = o) := by
                      have h := HR.out
                      rw [bdF_no hct (isBd_no hdt HP.out HP2.out HP3.out)] at h
                      exact Lib.hid h
                    clear HD HR
                    have G1 : True := trivial
                    have G2 : True := trivial
                    go_wp2_with (first | (go_at_call 67; first | (clear G1; refine (up_b T b0 q n rb M a d ha hdt true HP _ HU.out).mono ?_; rintro e wy ⟨rfl, rfl⟩) | (clear G2; refine (up_b T b0 q n rb M b d hb hdt true HP2 _ HU.out).mono ?_; rintro e wy ⟨rfl, rfl⟩) | (refine (up_b T b0 q n rb M c d hct hdt false HP3 _ HU.out).mono ?_; rintro e wy ⟨rfl, rfl⟩)) | fail)
                    go_roundg g
                    case measure => omega
                    case rel => exact ⟨c + 1, by omega, by go_num, rfl, HR2⟩
            · have hge : ¬ ((d : Int) < (n : Int)) := by omega
              obtain rfl : o = some c := by rw [← HR.out, bdF_yes hct (isBd_yes HXX.out HYY.out fun e he => HD.out e (by omega))]
              clear HR HD
              go_wp2_with fail
              try rw [Exit.noGoto_ret]
              go_returns
              exact ⟨rfl, rfl⟩
    · have hge : ¬ ((c : Int) < (n : Int)) := by omega
      obtain rfl : c = n := by omega
      obtain rfl : o = none := by rw [← HR.out, Nat.sub_self]; rfl
      clear HR hct
      go_wp2_with fail
      try rw [Exit.noGoto_ret]
      go_returns
      exact ⟨rfl, rfl⟩

set_option maxHeartbeats 1000000 in
theorem dn_b (T b0 q n : Nat) (rb : Nat → Nat) (M : Mx) (x y : Nat) (hx : x < n) (hy : y < n) (b : Bool) (H : Hid (dnM M x y = b)) (w : World) (h : Up w T b0 q n rb M) :
    Calls Tryd.prog 68 #[.int .i64 x, .int .i64 y, .pointer (some ⟨T, 0, none⟩)] w fun e w' => e = .returned (.bool b) ∧ w = w' := by
  have c0 := h.t
  have c1 := h.c
  have c2 := h.m.rowAt y hy
  have c3 : w.cell? ⟨rb y, x, none⟩ = some (.bool b) := by rw [h.m.at y x hy hx, ← H.out]; rfl
  have hx1 : (x : Int) < (n : Int) := by omega
  have hy1 : (y : Int) < (n : Int) := by omega
  have hx0 : (0 : Int) ≤ (x : Int) := by omega
  have hy0 : (0 : Int) ≤ (y : Int) := by omega
  clear H h
  go_enter Tryd.func68, Tryd.ntmps68
  go_wp2_with fail
  go_ret
  exact ⟨rfl, rfl⟩

set_option maxRecDepth 100000 in
set_option maxHeartbeats 4000000 in
theorem bound_dn (T b0 q n : Nat) (rb : Nat → Nat) (M : Mx) (An : Option Addr) (cn : Nat) (a b : Nat) (ha : a < n) (hb : b < n) (o : Option Nat) (H : Hid (bdM n (dnM M) a b = o)) (w : World) (h : Up w T b0 q n rb M) (h0 : w.cell? ⟨b0, 0, none⟩ = some (.slice An n cn)) (hn : n ≤ 12) :
    Calls Tryd.prog 69 #[.pointer (some ⟨b0, 0, none⟩), .int .i64 a, .int .i64 b, .func (Fn.func 68) #[] #[.pointer (some ⟨T, 0, none⟩)]] w fun e w' => e = .returned (.tuple #[.int .i64 (o.getD 0 : Nat), .bool o.isSome]) ∧ w = w' := by
  have HU := Lib.hid h
  have HR0 : Hid (bdF n (dnM M) a b (n - 0) = o) := H
  clear H h
  go_enter Tryd.func69, Tryd.ntmps69
  go_wp2_with fail
  go_step3
  go_wp2_with fail
  go_step3
  go_wp2_with fail
  go_loopg [19] n (fun g v wr => ∃ c : Nat, c + g = n ∧ v = .int .i64 c ∧ wr = w ∧ Hid (bdF n (dnM M) a b (n - c) = o))
  case atStart => exact ⟨0, by omega, rfl, rfl, HR0⟩
  case round =>
    obtain ⟨c, hc, rfl, rfl, HR⟩ := hrel
    clear HR0
    by_cases hct : c < n
    · have hct' : (c : Int) < (n : Int) := by omega
      have hc0 : (0 : Int) ≤ (c : Int) := by omega
      obtain ⟨x, hx⟩ : ∃ x, dnM M a c = x := ⟨_, rfl⟩
      have HXX := Lib.hid hx
      clear hx
      cases x with
      | false =>
        have HR2 : Hid (bdF n (dnM M) a b (n - (c + 1)) = o) := by
          have h := HR.out
          rw [bdF_no hct (isBd_a HXX.out)] at h
          exact Lib.hid h
        clear HR
        go_wp2_with (first | (go_at_call 68; refine (dn_b T b0 q n rb M a c ha hct false HXX _ HU.out).mono ?_; rintro e wy ⟨rfl, rfl⟩) | fail)
        go_roundg (gk - 1)
        case measure => omega
        case rel => exact ⟨c + 1, by omega, by go_num, rfl, HR2⟩
      | true =>
        obtain ⟨y, hy⟩ : ∃ y, dnM M b c = y := ⟨_, rfl⟩
        have HYY := Lib.hid hy
        clear hy
        cases y with
        | false =>
          have HR2 : Hid (bdF n (dnM M) a b (n - (c + 1)) = o) := by
            have h := HR.out
            rw [bdF_no hct (isBd_b HYY.out)] at h
            exact Lib.hid h
          clear HR
          have G1 : True := trivial
          go_wp2_with (first | (go_at_call 68; first | (clear G1; refine (dn_b T b0 q n rb M a c ha hct true HXX _ HU.out).mono ?_; rintro e wy ⟨rfl, rfl⟩) | (refine (dn_b T b0 q n rb M b c hb hct false HYY _ HU.out).mono ?_; rintro e wy ⟨rfl, rfl⟩)) | fail)
          go_roundg (gk - 1)
          case measure => omega
          case rel => exact ⟨c + 1, by omega, by go_num, rfl, HR2⟩
        | true =>
          have G1 : True := trivial
          go_wp2_with (first | (go_at_call 68; first | (clear G1; refine (dn_b T b0 q n rb M a c ha hct true HXX _ HU.out).mono ?_; rintro e wy ⟨rfl, rfl⟩) | (refine (dn_b T b0 q n rb M b c hb hct true HYY _ HU.out).mono ?_; rintro e wy ⟨rfl, rfl⟩)) | fail)
          obtain ⟨g, rfl⟩ : ∃ g, gk = g + 1 := ⟨gk - 1, by omega⟩
          rename World => wo
          go_loopg [35] n (fun g2 v wy => ∃ d : Nat, d + g2 = n ∧ v = .int .i64 d ∧ wy = wo ∧ Hid (∀ e : Nat, e < d → dnM M a e = true → dnM M b e = true → dnM M c e = true))
          case atStart => exact ⟨0, by omega, rfl, rfl, Lib.hid (fun e he => absurd he (by omega))⟩
          case round =>
            obtain ⟨d, hd, rfl, rfl, HD⟩ := hrel
            by_cases hdt : d < n
            · have hdt' : (d : Int) < (n : Int) := by omega
              have hd0 : (0 : Int) ≤ (d : Int) := by omega
              obtain ⟨p, hp⟩ : ∃ p, dnM M a d = p := ⟨_, rfl⟩
              have HP := Lib.hid hp
              clear hp
              cases p with
              | false =>
                have HD2 : Hid (∀ e : Nat, e < d + 1 → dnM M a e = true → dnM M b e = true → dnM M c e = true) := by
                  refine Lib.hid fun e he h1 h2 => ?_
                  by_cases hed : e = d
                  · subst hed; rw [HP.out] at h1; cases h1
                  · exact HD.out e (by omega) h1 h2
                clear HD
                go_wp2_with (first | (go_at_call 68; refine (dn_b T b0 q n rb M a d ha hdt false HP _ HU.out).mono ?_; rintro e wy ⟨rfl, rfl⟩) | fail)
                go_roundg (gk - 1)
                case measure => omega
                case rel => exact ⟨d + 1, by omega, by go_num, rfl, HD2⟩
              | true =>
                obtain ⟨p2, hp2⟩ : ∃ p, dnM M b d = p := ⟨_, rfl⟩
                have HP2 := Lib.hid hp2
                clear hp2
                cases p2 with
                | false =>
                  have HD2 : Hid (∀ e : Nat, e < d + 1 → dnM M a e = true → dnM M b e = true → dnM M c e = true) := by
                    refine Lib.hid fun e he h1 h2 => ?_
                    by_cases hed : e = d
                    · subst hed; rw [HP2.out] at h2; cases h2
                    · exact HD.out e (by omega) h1 h2
                  clear HD
                  have G1 : True := trivial
                  go_wp2_with (first | (go_at_call 68; first | (clear G1; refine (dn_b T b0 q n rb M a d ha hdt true HP _ HU.out).mono ?_; rintro e wy ⟨rfl, rfl⟩) | (refine (dn_b T b0 q n rb M b d hb hdt false HP2 _ HU.out).mono ?_; rintro e wy ⟨rfl, rfl⟩)) | fail)
                  go_roundg (gk - 1)
                  case measure => omega
                  case rel => exact ⟨d + 1, by omega, by go_num, rfl, HD2⟩
                | true =>
                  obtain ⟨p3, hp3⟩ : ∃ p, dnM M c d = p := ⟨_, rfl⟩
                  have HP3 := Lib.hid hp3
                  clear hp3
                  cases p3 with
                  | true =>
                    have HD2 : Hid (∀ e : Nat, e < d + 1 → dnM M a e = true → dnM M b e = true → dnM M c e = true) := by
                      refine Lib.hid fun e he h1 h2 => ?_
                      by_cases hed : e = d
                      · subst hed; exact HP3.out
                      · exact HD.out e (by omega) h1 h2
                    clear HD
                    have G1 : True := trivial
                    have G2 : True := trivial
                    go_wp2_with (first | (go_at_call 68; first | (clear G1; refine (dn_b T b0 q n rb M a d ha hdt true HP _ HU.out).mono ?_; rintro e wy ⟨rfl, rfl⟩) | (clear G2; refine (dn_b T b0 q n rb M b d hb hdt true HP2 _ HU.out).mono ?_; rintro e wy ⟨rfl, rfl⟩) | (refine (dn_b T b0 q n rb M c d hct hdt true HP3 _ HU.out).mono ?_; rintro e wy ⟨rfl, rfl⟩)) | fail)
                    go_roundg (gk - 1)
                    case measure => omega
                    case rel => exact ⟨d + 1, by omega, by go_num, rfl, HD2⟩
                  | false =>
                    have HR2 : Hid (bdF n (dnM M) a b (n - (c + 1)) = o) := by
                      have h := HR.out
                      rw [bdF_no hct (isBd_no hdt HP.out HP2.out HP3.out)] at h
                      exact Lib.hid h
                    clear HD HR
                    have G1 : True := trivial
                    have G2 : True := trivial
                    go_wp2_with (first | (go_at_call 68; first | (clear G1; refine (dn_b T b0 q n rb M a d ha hdt true HP _ HU.out).mono ?_; rintro e wy ⟨rfl, rfl⟩) | (clear G2; refine (dn_b T b0 q n rb M b d hb hdt true HP2 _ HU.out).mono ?_; rintro e wy ⟨rfl, rfl⟩) | (refine (dn_b T b0 q n rb M c d hct hdt false HP3 _ HU.out).mono ?_; rintro e wy ⟨rfl, rfl⟩)) | fail)
                    go_roundg g
                    case measure => omega
                    case rel => exact ⟨c + 1, by omega, by go_num, rfl, HR2⟩
            · have hge : ¬ ((d : Int) < (n : Int)) := by omega
              obtain rfl : o = some c := by rw [← HR.out, bdF_yes hct (isBd_yes HXX.out HYY.out fun e he => HD.out e (by omega))]
              clear HR HD
              go_wp2_with fail
              try rw [Exit.noGoto_ret]
              go_returns
              exact ⟨rfl, rfl⟩
    · have hge : ¬ ((c : Int) < (n : Int)) := by omega
      obtain rfl : c = n := by omega
      obtain rfl : o = none := by rw [← HR.out, Nat.sub_self]; rfl
      clear HR hct
      go_wp2_with fail
      try rw [Exit.noGoto_ret]
      go_returns
      exact ⟨rfl, rfl⟩
end Go.Proofs.YtnipigninbeplaaDoor
