/-
  The walks over sameTerm and over the library's comparisons of lists of terms and of numbers.
-/
import Derived.Test.YtjpjmoejdkmglaaFlB
import Derived.Test.YtjpjmoejdkmglaaFlEp
namespace Go.Proofs.Ytjpjmoejdkmglaa
open Go.RowKit

set_option maxRecDepth 100000 in
set_option maxHeartbeats 8000000 in
theorem eqfT (m : Nat) (IH : Hid (∀ (o n : Int) (tk : List Tm) (lt : Nat) (At : Option Addr) (ct : Nat) (o' n' : Int) (tk' : List Tm) (lt' : Nat) (At' : Option Addr) (ct' : Nat) (w : World) (b : Bool), tk.length = lt → tk'.length = lt' → Tm.cnt (.mk o n tk) ≤ m → TOk w At ct tk → TOk w At' ct' tk' → Hid (eqT (.mk o n tk) (.mk o' n' tk') = b) → Calls Try.prog 72 #[.agg #[.int .i64 o, .int .i64 n, .slice At lt ct], .agg #[.int .i64 o', .int .i64 n', .slice At' lt' ct']] w fun e w' => e = .returned (.bool b) ∧ Below w.heap.size w w')) (ks ks' : List Tm) (l l' : Nat) (A A' : Option Addr) (c c' : Nat) (w : World) (b : Bool) (hl : ks.length = l) (hl' : ks'.length = l') (hm : Tm.cntL ks ≤ m) (ht : TOk w A c ks) (ht' : TOk w A' c' ks') (H : Hid (eqTL ks ks' = b)) :
    Calls Try.prog 102 #[.slice A l c, .slice A' l' c', .func (Fn.func 72) #[] #[]] w fun e w' => e = .returned (.bool b) ∧ Below w.heap.size w w' := by
  have HM := Lib.hid hm
  have HL := Lib.hid hl
  have HL' := Lib.hid hl'
  have HT := Lib.hid ht
  have HT' := Lib.hid ht'
  have hlm : l ≤ 9223372036854775807 := by have h1 := ht.1; have h2 := ht.2.1; unfold maxLen at h2; omega
  by_cases hll : l = l'
  case neg =>
    have hne : ((l : Int) != (l' : Int)) = true := bne_of (by omega)
    have hne2 : (l != l') = true := by simpa using hll
    have hb : b = false := by rw [← H.out]; exact eqTL_len (by rw [hl, hl']; exact hll)
    subst hb
    clear hm hl hl' ht ht' H hll
    go_enter Try.func102, Try.ntmps102
    go_wp2_with fail
    go_ret
    exact ⟨rfl, Below.refl _ _⟩
  subst hll
  clear hm hl hl' ht ht'
  go_enter Try.func102, Try.ntmps102
  go_wp2_with fail
  go_loopw [17] (fun v wr => ∃ k : Nat, k ≤ l ∧ v = .int .i64 k ∧ Hid (∀ (j : Nat) (h : j < ks.length) (h' : j < ks'.length), j < k → eqT ks[j] ks'[j] = true) ∧ Hid (Below w.heap.size w wr)) (fun v _ => l - (intOf v).toNat)
  case atStart => exact ⟨0, by omega, rfl, Lib.hid (fun j _ _ h => absurd h (by omega)), Lib.hid (Below.refl _ _)⟩
  case round =>
    obtain ⟨k, hk, rfl, HK, HB⟩ := hrel
    by_cases hlt : k < l
    · have hkl : k < ks.length := by rw [HL.out]; exact hlt
      have hkl' : k < ks'.length := by rw [HL'.out]; exact hlt
      obtain ⟨o, n, tk, g, f, At, ct, hkid, hA, hg, htok, c0, c1, c2⟩ := (HT.out.below HB.out).kid k hkl
      obtain ⟨o', n', tk', g', f', At', ct', hkid', hA', hg', htok', c0', c1', c2'⟩ := (HT'.out.below HB.out).kid k hkl'
      subst hA hA'
      obtain ⟨lt, hlt1⟩ : ∃ l, tk.length = l := ⟨_, rfl⟩
      obtain ⟨lt', hlt1'⟩ : ∃ l, tk'.length = l := ⟨_, rfl⟩
      rw [hlt1] at c2
      rw [hlt1'] at c2'
      have hcm : Tm.cnt (.mk o n tk) ≤ m := by have := Tm.cntL_get ks k hkl; rw [hkid] at this; have := HM.out; omega
      have HCM := Lib.hid hcm
      have HLT := Lib.hid hlt1
      have HLT' := Lib.hid hlt1'
      obtain ⟨b0, hb0⟩ : ∃ z, eqT ks[k] ks'[k] = z := ⟨_, rfl⟩
      have HB0 : Hid (eqT ks[k] ks'[k] = b0) := hb0
      rw [hkid, hkid'] at hb0
      have HBE := Lib.hid hb0
      have hlt' : (k : Int) < (l : Int) := by omega
      clear hb0
      have HK1 := Lib.hid htok
      have HK2 := Lib.hid htok'
      clear hkid hkid' htok htok' hlt1 hlt1' hcm
      have hba := (Below.refl wr.heap.size wr).alloc (Nat.le_refl _) (.cells #[.int .i64 o, .int .i64 n, .slice At lt ct] 51)
      have HBx := Lib.hid (HB.out.trans (hba.mono HB.out.size))
      have HK1x := Lib.hid (HK1.out.below hba)
      have HK2x := Lib.hid (HK2.out.below hba)
      have c0'x := (hba.cell (p := ⟨g', _, none⟩) hg').trans c0'
      have c1'x := (hba.cell (p := ⟨g', _, none⟩) hg').trans c1'
      have c2'x := (hba.cell (p := ⟨g', _, none⟩) hg').trans c2'
      have HN := Lib.hid (Cs.new wr #[.int .i64 o, .int .i64 n, .slice At lt ct] 51)
      clear hba HB HK1 HK2
      have HB := HBx
      have HK1 := HK1x
      have HK2 := HK2x
      clear HBx HK1x HK2x
      go_upto_region 6 with fail
      obtain ⟨w4, hwn⟩ : ∃ w4, wr.alloc (.cells #[.int .i64 o, .int .i64 n, .slice At lt ct] 51) = w4 := ⟨_, rfl⟩
      obtain ⟨q4, hqn⟩ : ∃ q4, wr.heap.size = q4 := ⟨_, rfl⟩
      rw [hwn] at HN HB HK1 HK2 c0'x c1'x c2'x
      rw [hqn] at HN
      rw [hwn, hqn]
      clear hwn hqn c0 c1 c2 c0' c1' c2'
      have hba := (Below.refl w4.heap.size w4).alloc (Nat.le_refl _) (.cells #[.int .i64 o', .int .i64 n', .slice At' lt' ct'] 51)
      have HBx := Lib.hid (HB.out.trans (hba.mono HB.out.size))
      have HK1x := Lib.hid (HK1.out.below hba)
      have HK2x := Lib.hid (HK2.out.below hba)
      have HNx := Lib.hid (HN.out.next hba)
      have HM2 := Lib.hid (Cs.new w4 #[.int .i64 o', .int .i64 n', .slice At' lt' ct'] 51)
      clear hba HB HK1 HK2 HN
      have HB := HBx
      have HK1 := HK1x
      have HK2 := HK2x
      have HN := HNx
      clear HBx HK1x HK2x HNx
      go_upto_region 7 with fail
      obtain ⟨w5, hwn⟩ : ∃ w5, w4.alloc (.cells #[.int .i64 o', .int .i64 n', .slice At' lt' ct'] 51) = w5 := ⟨_, rfl⟩
      obtain ⟨q5, hqn⟩ : ∃ q5, w4.heap.size = q5 := ⟨_, rfl⟩
      rw [hwn] at HM2 HB HK1 HK2 HN 
      rw [hqn] at HM2
      rw [hwn, hqn]
      clear hwn hqn c0'x c1'x c2'x
      have n0 := HN.out.at 0 _ rfl
      have m0 := HM2.out.at 0 _ rfl
      have n1 := HN.out.at 1 _ rfl
      have m1 := HM2.out.at 1 _ rfl
      have n2 := HN.out.at 2 _ rfl
      have m2 := HM2.out.at 2 _ rfl
      go_wp2_with fail
      go_at_call 72
      refine (IH.out o n tk lt At ct o' n' tk' lt' At' ct' _ b0 HLT.out HLT'.out HCM.out HK1.out HK2.out HBE).mono ?_
      rintro e w6 ⟨rfl, hb⟩
      have HB6 := Lib.hid (HB.out.trans (hb.mono HB.out.size))
      clear hb HB HN HM2 n0 m0 n1 m1 n2 m2
      cases b0 with
      | false =>
        have hb : b = false := by rw [← H.out]; exact eqTL_get hkl hkl' HB0.out
        subst hb
        clear H HK
        go_wp2_with fail
        go_ret
        exact ⟨rfl, HB6.out⟩
      | true =>
        have HK' : Hid (∀ (j : Nat) (h : j < ks.length) (h' : j < ks'.length), j < k + 1 → eqT ks[j] ks'[j] = true) := fun j h h' hj => by
          by_cases e : j = k
          · subst e; exact HB0.out
          · exact HK.out j h h' (by omega)
        clear HK
        go_wp2_with fail
        go_roundw
        case rel => exact ⟨k + 1, by omega, by go_num, HK', HB6⟩
        case measure => simp [intOf]; omega
    · obtain rfl : k = l := by omega
      have hb : b = true := by rw [← H.out]; exact eqTL_all (by rw [HL.out, HL'.out]) fun i h h' => HK.out i h h' (by rw [← HL.out]; exact h)
      subst hb
      clear H HK
      go_wp2_with fail
      go_ret
      exact ⟨rfl, HB.out⟩

set_option maxRecDepth 100000 in
set_option maxHeartbeats 4000000 in
theorem sameTerm_any (m : Nat) : (∀ (o n : Int) (tk : List Tm) (lt : Nat) (At : Option Addr) (ct : Nat) (o' n' : Int) (tk' : List Tm) (lt' : Nat) (At' : Option Addr) (ct' : Nat) (w : World) (b : Bool), tk.length = lt → tk'.length = lt' → Tm.cnt (.mk o n tk) ≤ m → TOk w At ct tk → TOk w At' ct' tk' → Hid (eqT (.mk o n tk) (.mk o' n' tk') = b) → Calls Try.prog 72 #[.agg #[.int .i64 o, .int .i64 n, .slice At lt ct], .agg #[.int .i64 o', .int .i64 n', .slice At' lt' ct']] w fun e w' => e = .returned (.bool b) ∧ Below w.heap.size w w') := by
  induction m with
  | zero => intro o n tk lt At ct o' n' tk' lt' At' ct' w b _ _ h; have := Tm.cnt_pos (.mk o n tk); omega
  | succ m ih =>
    intro o n tk lt At ct o' n' tk' lt' At' ct' w b hl hl' hm ht ht' H
    have IH := Lib.hid ih
    have hml : Tm.cntL tk ≤ m := by simp only [Tm.cnt] at hm; omega
    have HML := Lib.hid hml
    have HL := Lib.hid hl
    have HL' := Lib.hid hl'
    obtain ⟨bt, hbt⟩ : ∃ z, eqTL tk tk' = z := ⟨_, rfl⟩
    have HBT := Lib.hid hbt
    have hsum : ((o == o') && ((n == n') && bt)) = b := by rw [← H.out, eqT, hbt]
    have hb1 := (Below.refl w.heap.size w).alloc (Nat.le_refl _) (.cells #[.int .i64 o, .int .i64 n, .slice At lt ct] 51)
    have hb2 := hb1.alloc hb1.size (.cells #[.int .i64 o', .int .i64 n', .slice At' lt' ct'] 51)
    have HB := Lib.hid hb2
    have HN := Lib.hid ((Cs.new w #[.int .i64 o, .int .i64 n, .slice At lt ct] 51).alloc (.cells #[.int .i64 o', .int .i64 n', .slice At' lt' ct'] 51))
    have HM2 := Lib.hid (Cs.new1 w (.cells #[.int .i64 o, .int .i64 n, .slice At lt ct] 51) #[.int .i64 o', .int .i64 n', .slice At' lt' ct'] 51)
    have HK1 := Lib.hid (ht.below hb2)
    have HK2 := Lib.hid (ht'.below hb2)
    have HSUM := Lib.hid hsum
    clear ih hm hml hl hl' ht ht' H hb1 hb2 hbt hsum
    go_enter Try.func72, Try.ntmps72
    go_upto_region 1 with fail
    obtain ⟨w1, hw1⟩ : ∃ w1, (w.alloc (.cells #[.int .i64 o, .int .i64 n, .slice At lt ct] 51)).alloc (.cells #[.int .i64 o', .int .i64 n', .slice At' lt' ct'] 51) = w1 := ⟨_, rfl⟩
    rw [hw1] at HB HN HM2 HK1 HK2
    rw [hw1]
    clear hw1
    have n0 := HN.out.at 0 _ rfl
    have n1 := HN.out.at 1 _ rfl
    have n2 := HN.out.at 2 _ rfl
    have m0 := HM2.out.at 0 _ rfl
    have m1 := HM2.out.at 1 _ rfl
    have m2 := HM2.out.at 2 _ rfl
    by_cases e1 : o = o'
    case neg =>
      have eb := beq_of e1
      have hb : b = false := by rw [← HSUM.out, eb]; rfl
      subst hb
      clear HSUM e1
      go_wp2_with fail
      go_ret
      exact ⟨rfl, HB.out⟩
    subst e1
    by_cases e2 : n = n'
    case neg =>
      have eb := beq_of e2
      have hb : b = false := by rw [← HSUM.out, eb]; simp
      subst hb
      clear HSUM e2
      go_wp2_with fail
      go_ret
      exact ⟨rfl, HB.out⟩
    subst e2
    have hb : bt = b := by have := HSUM.out; simpa using this
    subst hb
    clear HSUM
    go_wp2_with fail
    go_at_call 102
    refine (eqfT m IH tk tk' lt lt' At At' ct ct' _ bt HL.out HL'.out HML.out HK1.out HK2.out HBT).mono ?_
    rintro e w2 ⟨rfl, hb⟩
    have HB6 := Lib.hid (HB.out.trans (hb.mono HB.out.size))
    clear hb
    go_wp2_with fail
    go_ret
    exact ⟨rfl, HB6.out⟩

theorem beqL_len {a b : List Int} (h : a.length ≠ b.length) : (a == b) = false := by
  rw [beq_eq_false_iff_ne]; exact fun e => h (by rw [e])
theorem beqL_get {a b : List Int} {i : Nat} (hf : a.getD i 0 ≠ b.getD i 0) : (a == b) = false := by
  rw [beq_eq_false_iff_ne]; exact fun e => hf (by rw [e])
theorem beqL_all {a b : List Int} (hl : a.length = b.length) (h : ∀ i, i < a.length → a.getD i 0 = b.getD i 0) : (a == b) = true := by
  rw [beq_iff_eq]
  refine List.ext_getElem hl fun i h1 h2 => ?_
  have := h i h1
  rwa [List.getD_eq_getElem?_getD, List.getD_eq_getElem?_getD, List.getElem?_eq_getElem h1, List.getElem?_eq_getElem h2] at this

set_option maxHeartbeats 4000000 in
theorem eqInts_b (bs bs' : List Int) (A A' : Option Addr) (l c l' c' : Nat) (b : Bool) (H : Hid ((bs == bs') = b)) (w : World) (hz : Zs w A l c bs) (hz' : Zs w A' l' c' bs') :
    Calls Try.prog 103 #[.slice A l c, .slice A' l' c'] w fun e w' => e = .returned (.bool b) ∧ Below w.heap.size w w' := by
  have HZ := Lib.hid hz
  have HZ' := Lib.hid hz'
  have HL := Lib.hid hz.len
  have HL' := Lib.hid hz'.len
  have hlm : l ≤ 9223372036854775807 := by have h1 := hz.cap; have h2 := hz.big; unfold maxLen at h2; omega
  by_cases hll : l = l'
  case neg =>
    have hne : ((l : Int) != (l' : Int)) = true := bne_of (by omega)
    have hne2 : (l != l') = true := by simpa using hll
    have hb : b = false := by rw [← H.out]; exact beqL_len (by rw [hz.len, hz'.len]; exact hll)
    subst hb
    clear hz hz' H hll
    go_enter Try.func103, Try.ntmps103
    go_wp2_with fail
    go_ret
    exact ⟨rfl, Below.refl _ _⟩
  subst hll
  clear hz hz'
  go_enter Try.func103, Try.ntmps103
  go_wp2_with fail
  go_loopw [13] (fun v wr => ∃ k : Nat, k ≤ l ∧ v = .int .i64 k ∧ Hid (∀ j, j < k → bs.getD j 0 = bs'.getD j 0) ∧ Hid (Below w.heap.size w wr)) (fun v _ => l - (intOf v).toNat)
  case atStart => exact ⟨0, by omega, rfl, Lib.hid (fun j h => absurd h (by omega)), Lib.hid (Below.refl _ _)⟩
  case round =>
    obtain ⟨k, hk, rfl, HK, HB⟩ := hrel
    by_cases hlt : k < l
    · obtain ⟨g, f, hA, hg, hc⟩ := (HZ.out.below HB.out).mem (by omega)
      obtain ⟨g', f', hA', hg', hc'⟩ := (HZ'.out.below HB.out).mem (by omega)
      subst hA hA'
      have hlt' : (k : Int) < (l : Int) := by omega
      have hk0 : (0 : Int) ≤ (k : Int) := by omega
      have ck := hc k hlt
      have ck' := hc' k hlt
      obtain ⟨x, hx⟩ : ∃ x, bs.getD k 0 = x := ⟨_, rfl⟩
      obtain ⟨x', hx'⟩ : ∃ x, bs'.getD k 0 = x := ⟨_, rfl⟩
      rw [hx] at ck
      rw [hx'] at ck'
      have HX := Lib.hid hx
      have HX' := Lib.hid hx'
      clear hc hc' hx hx'
      by_cases hxx : x = x'
      · subst hxx
        have HK' : Hid (∀ j, j < k + 1 → bs.getD j 0 = bs'.getD j 0) := fun j hj => by
          by_cases e : j = k
          · subst e; rw [HX.out, HX'.out]
          · exact HK.out j (by omega)
        clear HK
        go_wp2_with fail
        go_quiet (fail)
        go_wp2_with fail
        go_roundw
        case rel => exact ⟨k + 1, by omega, by go_num, HK', Lib.hid (below_drewN HB.out _)⟩
        case measure => simp [intOf]; omega
      · have hb : b = false := by rw [← H.out]; exact beqL_get (i := k) (by rw [HX.out, HX'.out]; exact hxx)
        subst hb
        have hne := bne_of hxx
        clear H HK hxx
        go_wp2_with fail
        go_quiet (fail)
        go_wp2_with fail
        go_ret
        exact ⟨rfl, below_drewN HB.out _⟩
    · obtain rfl : k = l := by omega
      have hb : b = true := by rw [← H.out]; exact beqL_all (by rw [HL.out, HL'.out]) fun i h => HK.out i (by rw [← HL.out]; exact h)
      subst hb
      clear H HK
      go_wp2_with fail
      go_ret
      exact ⟨rfl, HB.out⟩
end Go.Proofs.Ytjpjmoejdkmglaa
