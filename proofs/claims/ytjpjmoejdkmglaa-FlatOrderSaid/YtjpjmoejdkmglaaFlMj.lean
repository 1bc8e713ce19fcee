/-
  The walk over Equal.
-/
import Derived.Test.YtjpjmoejdkmglaaFlMi
import Derived.Test.YtjpjmoejdkmglaaFlO
import Derived.Laws.StructEq
namespace Go.Proofs.Ytjpjmoejdkmglaa
open Go.RowKit

theorem varGuard : Try.prog.eqGuardType Try.prog.depth 41 = false := by kernel_rfl
theorem varHeld : Try.prog.stoodInHeld 41 = false := by kernel_rfl
set_option maxRecDepth 100000 in
set_option maxHeartbeats 4000000 in
theorem eqVars_b (vs vs' : List Vr) (A A' : Option Addr) (l c l' c' : Nat) (b : Bool) (H : Hid (eqB eqV vs vs' = b)) (w : World) (hz : VOk w A l c vs) (hz' : VOk w A' l' c' vs') :
    Calls Try.prog 73 #[.slice A l c, .slice A' l' c'] w fun e w' => e = .returned (.bool b) ∧ Below w.heap.size w w' := by
  have HZ := Lib.hid hz
  have HZ' := Lib.hid hz'
  have HL := Lib.hid hz.len
  have HL' := Lib.hid hz'.len
  have hlm : l ≤ 9223372036854775807 := by have h1 := hz.cap; have h2 := hz.big; unfold maxLen at h2; omega
  by_cases hll : l = l'
  case neg =>
    have hne : ((l : Int) != (l' : Int)) = true := bne_of (by omega)
    have hne2 : (l != l') = true := by simpa using hll
    have hb : b = false := by rw [← H.out]; exact eqB_len (by rw [hz.len, hz'.len]; exact hll)
    subst hb
    clear hz hz' H hll
    go_enter Try.func73, Try.ntmps73
    go_wp2_with fail
    go_ret
    exact ⟨rfl, Below.refl _ _⟩
  subst hll
  clear hz hz'
  go_enter Try.func73, Try.ntmps73
  go_wp2_with fail
  go_loopw [13] (fun v wr => ∃ k : Nat, k ≤ l ∧ v = .int .i64 k ∧ Hid (∀ (j : Nat) (x y : Vr), vs[j]? = some x → vs'[j]? = some y → j < k → eqV x y = true) ∧ Hid (Below w.heap.size w wr)) (fun v _ => l - (intOf v).toNat)
  case atStart => exact ⟨0, by omega, rfl, Lib.hid (fun j _ _ _ _ h => absurd h (by omega)), Lib.hid (Below.refl _ _)⟩
  case round =>
    obtain ⟨k, hk, rfl, HK, HB⟩ := hrel
    by_cases hlt : k < l
    · obtain ⟨nm, kd, lo, hi, ii, g, f, hx, hsz, hA, hg, c0, c1, c2, c3, c4⟩ := (HZ.out.below HB.out).at k hlt
      obtain ⟨nm2, kd2, lo2, hi2, ii2, g', f', hx', hsz', hA', hg', c0', c1', c2', c3', c4'⟩ := (HZ'.out.below HB.out).at k hlt
      subst hA hA'
      have HX := Lib.hid hx
      have HX' := Lib.hid hx'
      have hlt' : (k : Int) < (l : Int) := by omega
      have hk0 : (0 : Int) ≤ (k : Int) := by omega
      have hg1 := varGuard
      have hg2 := varHeld
      clear hx hx' hsz hsz'
      cases e0 : (nm.toList == nm2.toList) with
      | false =>
        have hf : eqV ⟨nm, kd, lo, hi, ii⟩ ⟨nm2, kd2, lo2, hi2, ii2⟩ = false := by unfold eqV; simp only [e0, Bool.false_and]
        have hb : b = false := by rw [← H.out]; exact eqB_get HX.out HX'.out hf
        subst hb
        clear H HK hf HX HX'
        go_wp2_with fail
        go_quiet (fail)
        go_wp2_with fail
        go_ret
        exact ⟨rfl, below_drewN HB.out _⟩
      | true =>
      cases e1 : (kd == kd2) with
      | false =>
        have hf : eqV ⟨nm, kd, lo, hi, ii⟩ ⟨nm2, kd2, lo2, hi2, ii2⟩ = false := by unfold eqV; simp only [e0, e1, Bool.true_and, Bool.false_and]
        have hb : b = false := by rw [← H.out]; exact eqB_get HX.out HX'.out hf
        subst hb
        clear H HK hf HX HX'
        go_wp2_with fail
        go_quiet (fail)
        go_wp2_with fail
        go_ret
        exact ⟨rfl, below_drewN HB.out _⟩
      | true =>
      cases e2 : (lo == lo2) with
      | false =>
        have hf : eqV ⟨nm, kd, lo, hi, ii⟩ ⟨nm2, kd2, lo2, hi2, ii2⟩ = false := by unfold eqV; simp only [e0, e1, e2, Bool.true_and, Bool.false_and]
        have hb : b = false := by rw [← H.out]; exact eqB_get HX.out HX'.out hf
        subst hb
        clear H HK hf HX HX'
        go_wp2_with fail
        go_quiet (fail)
        go_wp2_with fail
        go_ret
        exact ⟨rfl, below_drewN HB.out _⟩
      | true =>
      cases e3 : (hi == hi2) with
      | false =>
        have hf : eqV ⟨nm, kd, lo, hi, ii⟩ ⟨nm2, kd2, lo2, hi2, ii2⟩ = false := by unfold eqV; simp only [e0, e1, e2, e3, Bool.true_and, Bool.false_and]
        have hb : b = false := by rw [← H.out]; exact eqB_get HX.out HX'.out hf
        subst hb
        clear H HK hf HX HX'
        go_wp2_with fail
        go_quiet (fail)
        go_wp2_with fail
        go_ret
        exact ⟨rfl, below_drewN HB.out _⟩
      | true =>
      cases e4 : (ii == ii2) with
      | false =>
        have hf : eqV ⟨nm, kd, lo, hi, ii⟩ ⟨nm2, kd2, lo2, hi2, ii2⟩ = false := by unfold eqV; simp only [e0, e1, e2, e3, e4, Bool.true_and]
        have hb : b = false := by rw [← H.out]; exact eqB_get HX.out HX'.out hf
        subst hb
        clear H HK hf HX HX'
        go_wp2_with fail
        go_quiet (fail)
        go_wp2_with fail
        go_ret
        exact ⟨rfl, below_drewN HB.out _⟩
      | true =>
        have ht : eqV ⟨nm, kd, lo, hi, ii⟩ ⟨nm2, kd2, lo2, hi2, ii2⟩ = true := by unfold eqV; simp only [e0, e1, e2, e3, e4, Bool.true_and]
        have HT := Lib.hid ht
        have HK' : Hid (∀ (j : Nat) (x y : Vr), vs[j]? = some x → vs'[j]? = some y → j < k + 1 → eqV x y = true) := fun j x y h h' hj => by
          by_cases e : j = k
          · subst e; rw [HX.out] at h; rw [HX'.out] at h'; injection h with h; injection h' with h'; rw [← h, ← h']; exact HT.out
          · exact HK.out j x y h h' (by omega)
        clear HK ht
        go_wp2_with fail
        go_quiet (fail)
        go_wp2_with fail
        go_roundw
        case rel => exact ⟨k + 1, by omega, by go_num, HK', Lib.hid (below_drewN HB.out _)⟩
        case measure => simp [intOf]; omega
    · obtain rfl : k = l := by omega
      have hb : b = true := by rw [← H.out]; exact eqB_all (by rw [HL.out, HL'.out]) fun i x y h h' => HK.out i x y h h' (by rw [← HL.out]; exact (List.getElem?_eq_some_iff.1 h).1)
      subst hb
      clear H HK
      go_wp2_with fail
      go_ret
      exact ⟨rfl, HB.out⟩

set_option maxRecDepth 100000 in
set_option maxHeartbeats 4000000 in
theorem hsameE_b (s s' : ByteArray) (lo hi o n lo' hi' o' n' : Int) (tk tk' : List Tm) (At : Option Addr) (lt ct : Nat) (At' : Option Addr) (lt' ct' : Nat) (hlt : tk.length = lt) (hlt' : tk'.length = lt') (b : Bool) (H : Hid (eqH ⟨s, lo, hi, .mk o n tk⟩ ⟨s', lo', hi', .mk o' n' tk'⟩ = b)) (w : World) (ht : TOk w At ct tk) (ht' : TOk w At' ct' tk') :
    Calls Try.prog 71 #[.agg #[.string s, .int .i64 lo, .int .i64 hi, .int .i64 o, .int .i64 n, .slice At lt ct], .agg #[.string s', .int .i64 lo', .int .i64 hi', .int .i64 o', .int .i64 n', .slice At' lt' ct']] w fun e w' => e = .returned (.bool b) ∧ Below w.heap.size w w' := by
  obtain ⟨bt, hbt⟩ : ∃ z, eqT (.mk o n tk) (.mk o' n' tk') = z := ⟨_, rfl⟩
  have HBT := Lib.hid hbt
  have hsum : ((s.toList == s'.toList) && ((lo == lo') && ((hi == hi') && bt))) = b := by rw [← H.out, eqH, hbt]
  have HSUM := Lib.hid hsum
  have HL := Lib.hid hlt
  have HL' := Lib.hid hlt'
  have hb1 := (Below.refl w.heap.size w).alloc (Nat.le_refl _) (.cells #[.string s, .int .i64 lo, .int .i64 hi, .int .i64 o, .int .i64 n, .slice At lt ct] 78)
  have hb2 := hb1.alloc hb1.size (.cells #[.string s', .int .i64 lo', .int .i64 hi', .int .i64 o', .int .i64 n', .slice At' lt' ct'] 78)
  have HB := Lib.hid hb2
  have HN := Lib.hid ((Cs.new w #[.string s, .int .i64 lo, .int .i64 hi, .int .i64 o, .int .i64 n, .slice At lt ct] 78).alloc (.cells #[.string s', .int .i64 lo', .int .i64 hi', .int .i64 o', .int .i64 n', .slice At' lt' ct'] 78))
  have HM2 := Lib.hid (Cs.new1 w (.cells #[.string s, .int .i64 lo, .int .i64 hi, .int .i64 o, .int .i64 n, .slice At lt ct] 78) #[.string s', .int .i64 lo', .int .i64 hi', .int .i64 o', .int .i64 n', .slice At' lt' ct'] 78)
  have HK1 := Lib.hid (ht.below hb2)
  have HK2 := Lib.hid (ht'.below hb2)
  clear hlt hlt' ht ht' H hb1 hb2 hbt hsum
  go_enter Try.func71, Try.ntmps71
  go_upto_region 1 with fail
  obtain ⟨w1, hw1⟩ : ∃ w1, (w.alloc (.cells #[.string s, .int .i64 lo, .int .i64 hi, .int .i64 o, .int .i64 n, .slice At lt ct] 78)).alloc (.cells #[.string s', .int .i64 lo', .int .i64 hi', .int .i64 o', .int .i64 n', .slice At' lt' ct'] 78) = w1 := ⟨_, rfl⟩
  rw [hw1] at HB HN HM2 HK1 HK2
  rw [hw1]
  clear hw1
  have n0 := HN.out.at 0 _ rfl
  have m0 := HM2.out.at 0 _ rfl
  have n1 := HN.out.at 1 _ rfl
  have m1 := HM2.out.at 1 _ rfl
  have n2 := HN.out.at 2 _ rfl
  have m2 := HM2.out.at 2 _ rfl
  have n3 := HN.out.at 3 _ rfl
  have m3 := HM2.out.at 3 _ rfl
  have n4 := HN.out.at 4 _ rfl
  have m4 := HM2.out.at 4 _ rfl
  have n5 := HN.out.at 5 _ rfl
  have m5 := HM2.out.at 5 _ rfl
  cases e1 : (s.toList == s'.toList) with
  | false =>
    have hb : b = false := by rw [← HSUM.out, e1]; rfl
    subst hb
    clear HSUM
    go_wp2_with fail
    go_ret
    exact ⟨rfl, HB.out⟩
  | true =>
  by_cases e2 : lo = lo'
  case neg =>
    have eb := beq_of e2
    have hb : b = false := by rw [← HSUM.out, eb]; simp
    subst hb
    clear HSUM e2
    go_wp2_with fail
    go_ret
    exact ⟨rfl, HB.out⟩
  subst e2
  by_cases e3 : hi = hi'
  case neg =>
    have eb := beq_of e3
    have hb : b = false := by rw [← HSUM.out, eb]; simp
    subst hb
    clear HSUM e3
    go_wp2_with fail
    go_ret
    exact ⟨rfl, HB.out⟩
  subst e3
  have hb : bt = b := by have := HSUM.out; rw [e1] at this; simpa using this
  subst hb
  clear HSUM
  go_wp2_with fail
  go_at_call 72
  refine (sameTerm_any (Tm.cnt (.mk o n tk)) o n tk lt At ct o' n' tk' lt' At' ct' _ bt HL.out HL'.out (Nat.le_refl _) HK1.out HK2.out HBT).mono ?_
  rintro e w2 ⟨rfl, hb⟩
  have HB6 := Lib.hid (HB.out.trans (hb.mono HB.out.size))
  clear hb
  go_wp2_with fail
  go_ret
  exact ⟨rfl, HB6.out⟩

set_option maxRecDepth 100000 in
set_option maxHeartbeats 8000000 in
theorem eqfH (hs hs' : List Ht) (l l' : Nat) (A A' : Option Addr) (c c' : Nat) (w : World) (b : Bool) (ht : HOk w A l c hs) (ht' : HOk w A' l' c' hs') (H : Hid (eqB eqH hs hs' = b)) :
    Calls Try.prog 74 #[.slice A l c, .slice A' l' c', .func (Fn.func 71) #[] #[]] w fun e w' => e = .returned (.bool b) ∧ Below w.heap.size w w' := by
  have HL := Lib.hid ht.len
  have HL' := Lib.hid ht'.len
  have HT := Lib.hid ht
  have HT' := Lib.hid ht'
  have hlm : l ≤ 9223372036854775807 := by have h1 := ht.cap; have h2 := ht.big; unfold maxLen at h2; omega
  by_cases hll : l = l'
  case neg =>
    have hne : ((l : Int) != (l' : Int)) = true := bne_of (by omega)
    have hne2 : (l != l') = true := by simpa using hll
    have hb : b = false := by rw [← H.out]; exact eqB_len (by rw [ht.len, ht'.len]; exact hll)
    subst hb
    clear ht ht' H hll
    go_enter Try.func74, Try.ntmps74
    go_wp2_with fail
    go_ret
    exact ⟨rfl, Below.refl _ _⟩
  subst hll
  clear ht ht'
  go_enter Try.func74, Try.ntmps74
  go_wp2_with fail
  go_loopw [17] (fun v wr => ∃ k : Nat, k ≤ l ∧ v = .int .i64 k ∧ Hid (∀ (j : Nat) (x y : Ht), hs[j]? = some x → hs'[j]? = some y → j < k → eqH x y = true) ∧ Hid (Below w.heap.size w wr)) (fun v _ => l - (intOf v).toNat)
  case atStart => exact ⟨0, by omega, rfl, Lib.hid (fun j _ _ _ _ h => absurd h (by omega)), Lib.hid (Below.refl _ _)⟩
  case round =>
    obtain ⟨k, hk, rfl, HK, HB⟩ := hrel
    by_cases hlt : k < l
    · obtain ⟨s, lo, hi, o, n, tk, g, f, At, ct, hx, hsz, hA, hg, c0, c1, c2, c3, c4, c5, htk⟩ := (HT.out.below HB.out).at k hlt
      obtain ⟨s', lo', hi', o', n', tk', g', f', At', ct', hx', hsz', hA', hg', c0', c1', c2', c3', c4', c5', htk'⟩ := (HT'.out.below HB.out).at k hlt
      subst hA hA'
      obtain ⟨lt, hlt1⟩ : ∃ l, tk.length = l := ⟨_, rfl⟩
      obtain ⟨lt', hlt1'⟩ : ∃ l, tk'.length = l := ⟨_, rfl⟩
      rw [hlt1] at c5
      rw [hlt1'] at c5'
      have HLT := Lib.hid hlt1
      have HLT' := Lib.hid hlt1'
      have HX := Lib.hid hx
      have HX' := Lib.hid hx'
      obtain ⟨b0, hb0⟩ : ∃ z, eqH ⟨s, lo, hi, .mk o n tk⟩ ⟨s', lo', hi', .mk o' n' tk'⟩ = z := ⟨_, rfl⟩
      have HBE := Lib.hid hb0
      have hlt' : (k : Int) < (l : Int) := by omega
      have HK1 := Lib.hid htk
      have HK2 := Lib.hid htk'
      clear hb0 hx hx' hsz hsz' htk htk' hlt1 hlt1'
      have hba := (Below.refl wr.heap.size wr).alloc (Nat.le_refl _) (.cells #[.string s, .int .i64 lo, .int .i64 hi, .int .i64 o, .int .i64 n, .slice At lt ct] 78)
      have HBx := Lib.hid (HB.out.trans (hba.mono HB.out.size))
      have HK1x := Lib.hid (HK1.out.below hba)
      have HK2x := Lib.hid (HK2.out.below hba)
      have c0'x := (hba.cell (p := ⟨g', _, none⟩) hg').trans c0'
      have c1'x := (hba.cell (p := ⟨g', _, none⟩) hg').trans c1'
      have c2'x := (hba.cell (p := ⟨g', _, none⟩) hg').trans c2'
      have c3'x := (hba.cell (p := ⟨g', _, none⟩) hg').trans c3'
      have c4'x := (hba.cell (p := ⟨g', _, none⟩) hg').trans c4'
      have c5'x := (hba.cell (p := ⟨g', _, none⟩) hg').trans c5'
      have HN := Lib.hid (Cs.new wr #[.string s, .int .i64 lo, .int .i64 hi, .int .i64 o, .int .i64 n, .slice At lt ct] 78)
      clear hba HB HK1 HK2
      have HB := HBx
      have HK1 := HK1x
      have HK2 := HK2x
      clear HBx HK1x HK2x
      go_upto_region 6 with fail
      obtain ⟨w4, hwn⟩ : ∃ w4, wr.alloc (.cells #[.string s, .int .i64 lo, .int .i64 hi, .int .i64 o, .int .i64 n, .slice At lt ct] 78) = w4 := ⟨_, rfl⟩
      obtain ⟨q4, hqn⟩ : ∃ q4, wr.heap.size = q4 := ⟨_, rfl⟩
      rw [hwn] at HN HB HK1 HK2 c0'x c1'x c2'x c3'x c4'x c5'x
      rw [hqn] at HN
      rw [hwn, hqn]
      clear hwn hqn c0 c0' c1 c1' c2 c2' c3 c3' c4 c4' c5 c5'
      have hba := (Below.refl w4.heap.size w4).alloc (Nat.le_refl _) (.cells #[.string s', .int .i64 lo', .int .i64 hi', .int .i64 o', .int .i64 n', .slice At' lt' ct'] 78)
      have HBx := Lib.hid (HB.out.trans (hba.mono HB.out.size))
      have HK1x := Lib.hid (HK1.out.below hba)
      have HK2x := Lib.hid (HK2.out.below hba)
      have HNx := Lib.hid (HN.out.next hba)
      have HM2 := Lib.hid (Cs.new w4 #[.string s', .int .i64 lo', .int .i64 hi', .int .i64 o', .int .i64 n', .slice At' lt' ct'] 78)
      clear hba HB HK1 HK2 HN
      have HB := HBx
      have HK1 := HK1x
      have HK2 := HK2x
      have HN := HNx
      clear HBx HK1x HK2x HNx
      go_upto_region 7 with fail
      obtain ⟨w5, hwn⟩ : ∃ w5, w4.alloc (.cells #[.string s', .int .i64 lo', .int .i64 hi', .int .i64 o', .int .i64 n', .slice At' lt' ct'] 78) = w5 := ⟨_, rfl⟩
      obtain ⟨q5, hqn⟩ : ∃ q5, w4.heap.size = q5 := ⟨_, rfl⟩
      rw [hwn] at HM2 HB HK1 HK2 HN 
      rw [hqn] at HM2
      rw [hwn, hqn]
      clear hwn hqn c0'x c1'x c2'x c3'x c4'x c5'x
      have n0 := HN.out.at 0 _ rfl
      have m0 := HM2.out.at 0 _ rfl
      have n1 := HN.out.at 1 _ rfl
      have m1 := HM2.out.at 1 _ rfl
      have n2 := HN.out.at 2 _ rfl
      have m2 := HM2.out.at 2 _ rfl
      have n3 := HN.out.at 3 _ rfl
      have m3 := HM2.out.at 3 _ rfl
      have n4 := HN.out.at 4 _ rfl
      have m4 := HM2.out.at 4 _ rfl
      have n5 := HN.out.at 5 _ rfl
      have m5 := HM2.out.at 5 _ rfl
      go_wp2_with fail
      go_at_call 71
      refine (hsameE_b s s' lo hi o n lo' hi' o' n' tk tk' At lt ct At' lt' ct' HLT.out HLT'.out b0 HBE _ HK1.out HK2.out).mono ?_
      rintro e w6 ⟨rfl, hb⟩
      have HB6 := Lib.hid (HB.out.trans (hb.mono HB.out.size))
      clear hb HB HN HM2 n0 m0 n1 m1 n2 m2 n3 m3 n4 m4 n5 m5
      cases b0 with
      | false =>
        have hb : b = false := by rw [← H.out]; exact eqB_get HX.out HX'.out HBE.out
        subst hb
        clear H HK
        go_wp2_with fail
        go_ret
        exact ⟨rfl, HB6.out⟩
      | true =>
        have HK' : Hid (∀ (j : Nat) (x y : Ht), hs[j]? = some x → hs'[j]? = some y → j < k + 1 → eqH x y = true) := fun j x y h h' hj => by
          by_cases e : j = k
          · subst e; rw [HX.out] at h; rw [HX'.out] at h'; injection h with h; injection h' with h'; rw [← h, ← h']; exact HBE.out
          · exact HK.out j x y h h' (by omega)
        clear HK
        go_wp2_with fail
        go_roundw
        case rel => exact ⟨k + 1, by omega, by go_num, HK', HB6⟩
        case measure => simp [intOf]; omega
    · obtain rfl : k = l := by omega
      have hb : b = true := by rw [← H.out]; exact eqB_all (by rw [HL.out, HL'.out]) fun i x y h h' => HK.out i x y h h' (by rw [← HL.out]; exact (List.getElem?_eq_some_iff.1 h).1)
      subst hb
      clear H HK
      go_wp2_with fail
      go_ret
      exact ⟨rfl, HB.out⟩

/-- Are two programs equal? -/
def eqF (vs vs' : List Vr) (hs hs' : List Ht) (ks ks' : List Sp) : Bool := eqB eqV vs vs' && (eqB eqH hs hs' && eqSL ks ks')
set_option maxRecDepth 100000 in
set_option maxHeartbeats 4000000 in
theorem Equal_b (vs vs' : List Vr) (hs hs' : List Ht) (ks ks' : List Sp) (Av : Option Addr) (lv cv : Nat) (Ag : Option Addr) (lg cg : Nat) (Ay : Option Addr) (ly cy : Nat) (Av' : Option Addr) (lv' cv' : Nat) (Ag' : Option Addr) (lg' cg' : Nat) (Ay' : Option Addr) (ly' cy' : Nat) (w : World) (hv : VOk w Av lv cv vs) (hh : HOk w Ag lg cg hs) (hl : ks.length = ly) (hk : SOk w Ay cy ks) (hv' : VOk w Av' lv' cv' vs') (hh' : HOk w Ag' lg' cg' hs') (hl' : ks'.length = ly') (hk' : SOk w Ay' cy' ks') (b : Bool) (H : Hid (eqF vs vs' hs hs' ks ks' = b)) :
    Calls Try.prog 36 #[.agg #[.slice Av lv cv, .slice Ag lg cg, .slice Ay ly cy], .agg #[.slice Av' lv' cv', .slice Ag' lg' cg', .slice Ay' ly' cy']] w fun e w' => e = .returned (.bool b) ∧ Below w.heap.size w w' := by
  obtain ⟨b1, hb1⟩ : ∃ z, eqB eqV vs vs' = z := ⟨_, rfl⟩
  obtain ⟨b2, hb2⟩ : ∃ z, eqB eqH hs hs' = z := ⟨_, rfl⟩
  obtain ⟨b3, hb3⟩ : ∃ z, eqSL ks ks' = z := ⟨_, rfl⟩
  have HB1 := Lib.hid hb1
  have HB2 := Lib.hid hb2
  have HB3 := Lib.hid hb3
  have hsum : (b1 && (b2 && b3)) = b := by rw [← H.out, eqF, hb1, hb2, hb3]
  have HSUM := Lib.hid hsum
  have HL := Lib.hid hl
  have HL' := Lib.hid hl'
  have ha1 := (Below.refl w.heap.size w).alloc (Nat.le_refl _) (.cells #[.slice Av lv cv, .slice Ag lg cg, .slice Ay ly cy] 26)
  have ha2 := ha1.alloc ha1.size (.cells #[.slice Av' lv' cv', .slice Ag' lg' cg', .slice Ay' ly' cy'] 26)
  have HB := Lib.hid ha2
  have HN := Lib.hid ((Cs.new w #[.slice Av lv cv, .slice Ag lg cg, .slice Ay ly cy] 26).alloc (.cells #[.slice Av' lv' cv', .slice Ag' lg' cg', .slice Ay' ly' cy'] 26))
  have HM2 := Lib.hid (Cs.new1 w (.cells #[.slice Av lv cv, .slice Ag lg cg, .slice Ay ly cy] 26) #[.slice Av' lv' cv', .slice Ag' lg' cg', .slice Ay' ly' cy'] 26)
  have K1 := Lib.hid (hv.below ha2)
  have K2 := Lib.hid (hh.below ha2)
  have K3 := Lib.hid (hk.below ha2)
  have K4 := Lib.hid (hv'.below ha2)
  have K5 := Lib.hid (hh'.below ha2)
  have K6 := Lib.hid (hk'.below ha2)
  clear hl hl' hv hh hk hv' hh' hk' H hb1 hb2 hb3 hsum ha1 ha2
  go_enter Try.func36, Try.ntmps36
  go_upto_region 1 with fail
  obtain ⟨w1, hw1⟩ : ∃ w1, (w.alloc (.cells #[.slice Av lv cv, .slice Ag lg cg, .slice Ay ly cy] 26)).alloc (.cells #[.slice Av' lv' cv', .slice Ag' lg' cg', .slice Ay' ly' cy'] 26) = w1 := ⟨_, rfl⟩
  rw [hw1] at HB HN HM2 K1 K2 K3 K4 K5 K6
  rw [hw1]
  clear hw1
  have n0 := HN.out.at 0 _ rfl
  have m0 := HM2.out.at 0 _ rfl
  have n1 := HN.out.at 1 _ rfl
  have m1 := HM2.out.at 1 _ rfl
  have n2 := HN.out.at 2 _ rfl
  have m2 := HM2.out.at 2 _ rfl
  go_wp2_with fail
  go_at_call 73
  refine (eqVars_b vs vs' Av Av' lv cv lv' cv' b1 HB1 _ K1.out K4.out).mono ?_
  rintro e w2 ⟨rfl, hb⟩
  have HBx := Lib.hid (HB.out.trans (hb.mono HB.out.size))
  have HNx := Lib.hid (HN.out.next hb)
  have HM2x := Lib.hid (HM2.out.next hb)
  have K1x := Lib.hid (K1.out.below hb)
  have K2x := Lib.hid (K2.out.below hb)
  have K3x := Lib.hid (K3.out.below hb)
  have K4x := Lib.hid (K4.out.below hb)
  have K5x := Lib.hid (K5.out.below hb)
  have K6x := Lib.hid (K6.out.below hb)
  clear hb HB HN HM2 K1 K2 K3 K4 K5 K6 n0 n1 n2 m0 m1 m2
  have HB := HBx
  have HN := HNx
  have HM2 := HM2x
  have K1 := K1x
  have K2 := K2x
  have K3 := K3x
  have K4 := K4x
  have K5 := K5x
  have K6 := K6x
  clear HBx HNx HM2x K1x K2x K3x K4x K5x K6x
  have n0 := HN.out.at 0 _ rfl
  have m0 := HM2.out.at 0 _ rfl
  have n1 := HN.out.at 1 _ rfl
  have m1 := HM2.out.at 1 _ rfl
  have n2 := HN.out.at 2 _ rfl
  have m2 := HM2.out.at 2 _ rfl
  cases b1 with
  | false =>
    have hb : b = false := by rw [← HSUM.out]; rfl
    subst hb
    clear HSUM
    go_wp2_with fail
    go_ret
    exact ⟨rfl, HB.out⟩
  | true =>
  go_wp2_with fail
  go_at_call 74
  refine (eqfH hs hs' lg lg' Ag Ag' cg cg' _ b2 K2.out K5.out HB2).mono ?_
  rintro e w3 ⟨rfl, hb⟩
  have HBx := Lib.hid (HB.out.trans (hb.mono HB.out.size))
  have HNx := Lib.hid (HN.out.next hb)
  have HM2x := Lib.hid (HM2.out.next hb)
  have K1x := Lib.hid (K1.out.below hb)
  have K2x := Lib.hid (K2.out.below hb)
  have K3x := Lib.hid (K3.out.below hb)
  have K4x := Lib.hid (K4.out.below hb)
  have K5x := Lib.hid (K5.out.below hb)
  have K6x := Lib.hid (K6.out.below hb)
  clear hb HB HN HM2 K1 K2 K3 K4 K5 K6 n0 n1 n2 m0 m1 m2
  have HB := HBx
  have HN := HNx
  have HM2 := HM2x
  have K1 := K1x
  have K2 := K2x
  have K3 := K3x
  have K4 := K4x
  have K5 := K5x
  have K6 := K6x
  clear HBx HNx HM2x K1x K2x K3x K4x K5x K6x
  have n0 := HN.out.at 0 _ rfl
  have m0 := HM2.out.at 0 _ rfl
  have n1 := HN.out.at 1 _ rfl
  have m1 := HM2.out.at 1 _ rfl
  have n2 := HN.out.at 2 _ rfl
  have m2 := HM2.out.at 2 _ rfl
  cases b2 with
  | false =>
    have hb : b = false := by rw [← HSUM.out]; rfl
    subst hb
    clear HSUM
    go_wp2_with fail
    go_ret
    exact ⟨rfl, HB.out⟩
  | true =>
  have hb3 : b3 = b := by rw [← HSUM.out]; rfl
  subst hb3
  clear HSUM
  go_wp2_with fail
  go_at_call 75
  refine (eqfS (Sp.cntL ks) (Lib.hid (sameStep_any (Sp.cntL ks))) ks ks' ly ly' Ay Ay' cy cy' _ b3 HL.out HL'.out (Nat.le_refl _) K3.out K6.out HB3).mono ?_
  rintro e w4 ⟨rfl, hb⟩
  have HB6 := Lib.hid (HB.out.trans (hb.mono HB.out.size))
  clear hb
  go_wp2_with fail
  go_ret
  exact ⟨rfl, HB6.out⟩
end Go.Proofs.Ytjpjmoejdkmglaa
