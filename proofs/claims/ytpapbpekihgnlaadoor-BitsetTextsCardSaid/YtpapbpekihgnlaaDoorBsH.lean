/-
  The walks over Has, changed, With, Without and Complement.
-/
import Derived.Test.YtpapbpekihgnlaaDoorBsG
namespace Go.Proofs.YtpapbpekihgnlaaDoor
open Go.RowKit

theorem bit_word (x r : Nat) (hx : x < 2 ^ 64) : (bits .and .u64 ((x : Int) / (2 : Int) ^ r) 1 == 1) = decide (x / 2 ^ r % 2 = 1) := by
  have hpw : ((2 : Int) ^ r) = ((2 ^ r : Nat) : Int) := by rw [Int.natCast_pow]; rfl
  have hle : x / 2 ^ r ≤ x := Nat.div_le_self x _
  rw [hpw, ← Int.natCast_ediv, show (1 : Int) = ((1 : Nat) : Int) from rfl, u64_and_nat _ _ (by omega) (by decide), Nat.and_one_is_mod]
  generalize x / 2 ^ r = y
  rw [Bool.eq_iff_iff, beq_iff_eq, decide_eq_true_iff]
  omega
theorem fin_set {w W : World} {b B l c : Nat} {A : Option Addr} {ws : List Nat} {m k : Int} (HO : Ow W B A l c ws) (hb : b < B) (hw : w.heap.size ≤ b) (HB : Below w.heap.size w W) (v0 v1 : Value) :
    Post w (m, ws, k) (.returned (.tuple #[.agg #[.int .i64 m, .slice A l c], .int .i64 k])) ((W.setCell ⟨b, 0, none⟩ v0).setCell ⟨b, 1, none⟩ v1) := by
  obtain rfl := HO.len
  have h2 := (HO.other (p := ⟨b, 0, none⟩) hb v0).other (p := ⟨b, 1, none⟩) hb v1
  exact ⟨⟨A, c, rfl, h2.mono (by omega)⟩, (HB.setCell (p := ⟨b, 0, none⟩) hw v0).setCell (p := ⟨b, 1, none⟩) hw v1⟩
theorem andNot_word (x r : Nat) (hx : x < 2 ^ 64) (hr : r < 64) : bits .andNot .u64 (x : Int) (IntKind.u64.wrap ((2 : Int) ^ r)) = ((x &&& (18446744073709551615 - 2 ^ r) : Nat) : Int) := by
  have hp : 2 ^ r < 2 ^ 64 := Nat.pow_lt_pow_right (by omega) hr
  rw [pow_word r hr]
  exact u64_andNot_nat _ _ hx hp
/-- What Has returns. -/
def hasR (n : Int) (ws : List Nat) (i : Int) : Bool := Bs.vld n ws && (decide (0 ≤ i) && (decide (i < n) && Bs.bit ws i.toNat))

set_option maxHeartbeats 1000000 in
theorem has_b (n : Int) (A : Option Addr) (l c : Nat) (ws : List Nat) (i : Int) (b : Bool) (H : Hid (hasR n ws i = b)) (w : World) (hw : Wd w A l c ws) :
    Calls Tryd.prog 24 #[.agg #[.int .i64 n, .slice A l c], .int .i64 i] w fun e w' => e = .returned (.bool b) ∧ Below w.heap.size w w' := by
  have HW := Lib.hid (hw.below (boxS_below w n A l c))
  have HW0 := Lib.hid hw
  clear hw
  obtain ⟨v, hv⟩ : ∃ v, Bs.vld n ws = v := ⟨_, rfl⟩
  have HV := Lib.hid hv
  go_enter Tryd.func24, Tryd.ntmps24
  go_wp2_with fail
  go_at_call 18
  refine (valid_b n A l c ws v HV _ HW.out).mono ?_
  rintro e w2 ⟨rfl, hb⟩
  have HC := Lib.hid ((boxS_cs w n A l c).next hb)
  have HB := Lib.hid ((boxS_below w n A l c).trans (hb.mono (by simp [boxS])))
  have HW2 := Lib.hid (HW0.out.below HB.out)
  clear hb HW HV
  have c0 := HC.out.at 0 _ rfl
  have c1 := HC.out.at 1 _ rfl
  cases v with
  | false =>
    have hb : b = false := by rw [← H.out]; unfold hasR; rw [hv]; rfl
    subst hb
    clear H hv
    go_wp2_with fail
    go_ret
    exact ⟨rfl, HB.out⟩
  | true =>
    by_cases h0 : i < 0
    · have hb : b = false := by rw [← H.out]; unfold hasR; rw [decide_eq_false (show ¬ 0 ≤ i by omega)]; simp
      subst hb
      have hd : decide (0 ≤ i) = false := decide_eq_false (by omega)
      clear H hv
      go_wp2_with fail
      go_ret
      exact ⟨rfl, HB.out⟩
    obtain ⟨k, rfl⟩ : ∃ k : Nat, i = k := ⟨i.toNat, by omega⟩
    by_cases h1 : n ≤ k
    · have hb : b = false := by rw [← H.out]; unfold hasR; rw [decide_eq_false (show ¬ (k : Int) < n by omega)]; simp
      subst hb
      have hd : decide ((k : Int) < n) = false := decide_eq_false (by omega)
      clear H hv
      go_wp2_with fail
      go_ret
      exact ⟨rfl, HB.out⟩
    · obtain ⟨m, rfl⟩ : ∃ m : Nat, n = m := ⟨n.toNat, by omega⟩
      have hlen := Bs.vld_len hv
      have hn := Bs.vld_le hv
      have hll := HW0.out.len
      have hkm : (k : Int) < (m : Int) := by omega
      have hd : decide ((k : Int) < (m : Int)) = true := decide_eq_true hkm
      have hix : k / 64 < l := by omega
      have hix' : (k : Int) / 64 < (l : Int) := by omega
      obtain ⟨g, f, hA, hg, hc⟩ := HW2.out.mem (by omega)
      subst hA
      have hcell := hc (k / 64) hix
      have hx := HW0.out.fits (k / 64)
      obtain ⟨x, hxx⟩ : ∃ x, ws.getD (k / 64) 0 = x := ⟨_, rfl⟩
      rw [hxx] at hcell hx
      have hb : b = decide (x / 2 ^ (k % 64) % 2 = 1) := by
        rw [← H.out]; unfold hasR
        rw [hv, decide_eq_true (show (0 : Int) ≤ (k : Int) by omega), hd, Int.toNat_natCast, Bs.bit_div, hxx]
        rfl
      clear H hv hc h0 h1 hlen
      go_wp2_with fail
      go_ret
      refine ⟨ret_bool ?_, HB.out⟩
      rw [hb, ← bit_word x _ hx]

/-- What With and Without return. -/
def chR (n : Int) (ws : List Nat) (i : Int) (b : Bool) : Int × List Nat × Int :=
  if Bs.vld n ws = false then (0, [], 1) else if i < 0 ∨ n ≤ i then (0, [], 3) else (n, Bs.mk n.toNat fun k => if (k : Int) = i then b else Bs.bit ws k, 0)

set_option maxHeartbeats 1000000 in
theorem changed_b (n : Int) (A : Option Addr) (l c : Nat) (ws : List Nat) (i : Int) (b : Bool) (R : Int × List Nat × Int) (H : Hid (chR n ws i b = R)) (w : World) (hw : Wd w A l c ws) :
    Calls Tryd.prog 51 #[.agg #[.int .i64 n, .slice A l c], .int .i64 i, .bool b] w fun e w' => Post w R e w' := by
  have HW0 := Lib.hid hw
  clear hw
  obtain ⟨v, hv⟩ : ∃ v, Bs.vld n ws = v := ⟨_, rfl⟩
  have HV := Lib.hid hv
  go_enter Tryd.func51, Tryd.ntmps51
  go_wp2_with fail
  go_at_call 18
  refine (valid_b n A l c ws v HV _ ((HW0.out.below (boxS_below w n A l c)).below ((Below.refl _ _).alloc (Nat.le_refl _) _))).mono ?_
  rintro e w2 ⟨rfl, hb⟩
  obtain ⟨hc, hr, hb1⟩ := box2 hb
  have HC := Lib.hid hc
  have HR := Lib.hid hr
  have HB := Lib.hid hb1
  have HW2 := Lib.hid (HW0.out.below HB.out)
  clear hb HV hc hr hb1
  have c0 := HC.out.at 0 _ rfl
  have c1 := HC.out.at 1 _ rfl
  have r0 := HR.out.at 0 _ rfl
  have r1 := HR.out.at 1 _ rfl
  have f0 := HR.out.free 0
  have f1 := HR.out.free 1
  cases v with
  | false =>
    have hR : R = (0, [], 1) := by rw [← H.out]; unfold chR; rw [if_pos hv]
    subst hR
    clear H hv
    go_wp2_with fail
    obtain ⟨k0, k1⟩ := two_cells HR.out (.int .i64 0) (.slice none 0 0)
    refine bodyPost_ret (v := .tuple #[.agg #[.int .i64 0, .slice none 0 0], .int .i64 1]) (by simp [results, Tryd.results51, go_sem, k0, k1]) rfl ?_
    exact post_bad rfl ((HB.out.setCell (by show _ ≤ _ + 1; omega) _).setCell (by show _ ≤ _ + 1; omega) _)
  | true =>
    by_cases h0 : i < 0
    · have hR : R = (0, [], 3) := by rw [← H.out]; unfold chR; rw [if_neg (by rw [hv]; simp), if_pos (.inl h0)]
      subst hR
      clear H hv
      go_wp2_with fail
      obtain ⟨k0, k1⟩ := two_cells HR.out (.int .i64 0) (.slice none 0 0)
      refine bodyPost_ret (v := .tuple #[.agg #[.int .i64 0, .slice none 0 0], .int .i64 3]) (by simp [results, Tryd.results51, go_sem, k0, k1]) rfl ?_
      exact post_bad rfl ((HB.out.setCell (by show _ ≤ _ + 1; omega) _).setCell (by show _ ≤ _ + 1; omega) _)
    obtain ⟨k, rfl⟩ : ∃ k : Nat, i = k := ⟨i.toNat, by omega⟩
    by_cases h1 : n ≤ k
    · have hR : R = (0, [], 3) := by rw [← H.out]; unfold chR; rw [if_neg (by rw [hv]; simp), if_pos (.inr h1)]
      subst hR
      clear H hv h0
      go_wp2_with fail
      obtain ⟨k0, k1⟩ := two_cells HR.out (.int .i64 0) (.slice none 0 0)
      refine bodyPost_ret (v := .tuple #[.agg #[.int .i64 0, .slice none 0 0], .int .i64 3]) (by simp [results, Tryd.results51, go_sem, k0, k1]) rfl ?_
      exact post_bad rfl ((HB.out.setCell (by show _ ≤ _ + 1; omega) _).setCell (by show _ ≤ _ + 1; omega) _)
    · obtain ⟨m, rfl⟩ : ∃ m : Nat, n = m := ⟨n.toNat, by omega⟩
      have hlen := Bs.vld_len hv
      have hn := Bs.vld_le hv
      have hll := HW0.out.len
      have hl6 : l ≤ 64 := by omega
      have hkm : (k : Int) < (m : Int) := by omega
      have hix : k / 64 < l := by omega
      have hix' : (k : Int) / 64 < (l : Int) := by omega
      have hR : R = ((m : Int), (Bs.mk m fun j => if j = k then b else Bs.bit ws j), 0) := by
        rw [← H.out]; unfold chR
        rw [if_neg (by rw [hv]; simp), if_neg (by omega), Int.toNat_natCast]
        have e : (Bs.mk m fun j => if (j : Int) = (k : Int) then b else Bs.bit ws j) = Bs.mk m fun j => if j = k then b else Bs.bit ws j := by
          refine Bs.mk_congr fun j _ => ?_
          by_cases hj : j = k
          · rw [if_pos hj, if_pos (by omega)]
          · rw [if_neg hj, if_neg (by omega)]
        rw [e]
      have HV := Lib.hid hv
      have hx := HW0.out.fits (k / 64)
      obtain ⟨x, hxx⟩ : ∃ x, ws.getD (k / 64) 0 = x := ⟨_, rfl⟩
      rw [hxx] at hx
      have HF := Lib.hid HW0.out.fits
      clear H hv h0 h1
      go_wp2_with fail
      go_at_call 55
      refine (clone_b A l c ws hl6 _ HW2.out).mono ?_
      rintro e w3 ⟨⟨A', c', rfl, hO⟩, hb3⟩
      have HO := Lib.hid (hO.mono (B' := w.heap.size + 2) (by have := HR.out.lt; omega))
      have HC3 := Lib.hid (HC.out.next hb3)
      have HR3 := Lib.hid (HR.out.next hb3)
      have HB3 := Lib.hid (HB.out.trans (hb3.mono HB.out.size))
      clear hO hb3 HC HR HB c0 c1 r0 r1 f0 f1
      obtain ⟨g, hA, hg, hcs⟩ := HO.out.mem (by omega)
      subst hA
      have hcell := hcs.at (k / 64) _ (vals_get ws (k / 64) (by omega))
      rw [hxx] at hcell
      have hfz := hcs.free (k / 64)
      have hgl := hcs.lt
      have HS := Lib.hid hcs
      clear hcs
      have c0 := HC3.out.at 0 _ rfl
      have c1 := HC3.out.at 1 _ rfl
      have r0 := HR3.out.at 0 _ rfl
      have r1 := HR3.out.at 1 _ rfl
      have f0 := HR3.out.free 0
      have f1 := HR3.out.free 1
      have hput := set_putw ws k b
      rw [Bs.put_mk HV.out HF.out k (by omega) b, hxx] at hput
      cases b
      · simp only [Bool.false_eq_true, if_false] at hput
        obtain ⟨y, hy⟩ : ∃ y, x &&& (18446744073709551615 - 2 ^ (k % 64)) = y := ⟨_, rfl⟩
        have hy2 : y < 2 ^ 64 := by rw [← hy]; exact Nat.lt_of_le_of_lt Nat.and_le_left hx
        have hY := andNot_word x (k % 64) hx (by omega)
        rw [hy] at hput hY
        have HO4 := Lib.hid (HO.out.set (k / 64) y hix hy2)
        rw [hput] at HO4
        have HR4 := Lib.hid (HR3.out.other (p := ⟨g, k / 64, none⟩) (by show g ≠ _; omega) (.int .u64 y))
        have HB4 := Lib.hid (HB3.out.setCell (p := ⟨g, k / 64, none⟩) (by show _ ≤ g; omega) (.int .u64 y))
        clear hput hy
        have HY := Lib.hid hY
        clear hY
        go_wp2_with fail
        rw [HY.out]
        obtain ⟨k0, k1⟩ := two_cells HR4.out (.int .i64 m) (.slice (some ⟨g, 0, none⟩) l c')
        refine bodyPost_ret (v := .tuple #[.agg #[.int .i64 m, .slice (some ⟨g, 0, none⟩) l c'], .int .i64 0]) (by simp [results, Tryd.results51, go_sem, k0, k1]) rfl ?_
        rw [hR]
        exact fin_set HO4.out (by omega) (by omega) HB4.out _ _
      · simp only [if_true] at hput
        obtain ⟨y, hy⟩ : ∃ y, x ||| 2 ^ (k % 64) = y := ⟨_, rfl⟩
        have hy2 : y < 2 ^ 64 := by rw [← hy]; exact Nat.or_lt_two_pow hx (Nat.pow_lt_pow_right (by omega) (by omega))
        have hY := or_word x (k % 64) hx (by omega)
        rw [hy] at hput hY
        have HO4 := Lib.hid (HO.out.set (k / 64) y hix hy2)
        rw [hput] at HO4
        have HR4 := Lib.hid (HR3.out.other (p := ⟨g, k / 64, none⟩) (by show g ≠ _; omega) (.int .u64 y))
        have HB4 := Lib.hid (HB3.out.setCell (p := ⟨g, k / 64, none⟩) (by show _ ≤ g; omega) (.int .u64 y))
        clear hput hy
        have HY := Lib.hid hY
        clear hY
        go_wp2_with fail
        rw [HY.out]
        obtain ⟨k0, k1⟩ := two_cells HR4.out (.int .i64 m) (.slice (some ⟨g, 0, none⟩) l c')
        refine bodyPost_ret (v := .tuple #[.agg #[.int .i64 m, .slice (some ⟨g, 0, none⟩) l c'], .int .i64 0]) (by simp [results, Tryd.results51, go_sem, k0, k1]) rfl ?_
        rw [hR]
        exact fin_set HO4.out (by omega) (by omega) HB4.out _ _

set_option maxHeartbeats 1000000 in
theorem with_b (n : Int) (A : Option Addr) (l c : Nat) (ws : List Nat) (i : Int) (R : Int × List Nat × Int) (H : Hid (chR n ws i true = R)) (w : World) (hw : Wd w A l c ws) :
    Calls Tryd.prog 21 #[.agg #[.int .i64 n, .slice A l c], .int .i64 i] w fun e w' => Post w R e w' := by
  have HW := Lib.hid hw
  clear hw
  go_enter Tryd.func21, Tryd.ntmps21
  go_wp2_with fail
  go_at_call 51
  refine (changed_b n A l c ws i true R H _ ((HW.out.below (boxS_below w n A l c)).below ((Below.refl _ _).alloc (Nat.le_refl _) _))).mono ?_
  rintro e w2 ⟨⟨A', c', rfl, hO⟩, hb⟩
  obtain ⟨_, hr, hb1⟩ := box2 hb
  have HO := Lib.hid (hO.mono (B' := w.heap.size + 2) (by simp [boxS]))
  have HR := Lib.hid hr
  have HB := Lib.hid hb1
  clear hb hr hb1 hO
  have r0 := HR.out.at 0 _ rfl
  have r1 := HR.out.at 1 _ rfl
  have f0 := HR.out.free 0
  have f1 := HR.out.free 1
  obtain ⟨R1, R2, R3⟩ := R
  obtain ⟨L, hL⟩ : ∃ L, R2.length = L := ⟨_, rfl⟩
  simp only [hL] at HO ⊢
  go_wp2_with fail
  obtain ⟨k0, k1⟩ := two_cells HR.out (.int .i64 R1) (.slice A' L c')
  refine bodyPost_ret (v := .tuple #[.agg #[.int .i64 R1, .slice A' L c'], .int .i64 R3]) (by simp [results, Tryd.results21, go_sem, k0, k1]) rfl ?_
  exact fin_set HO.out (by omega) (by omega) HB.out _ _

set_option maxHeartbeats 1000000 in
theorem without_b (n : Int) (A : Option Addr) (l c : Nat) (ws : List Nat) (i : Int) (R : Int × List Nat × Int) (H : Hid (chR n ws i false = R)) (w : World) (hw : Wd w A l c ws) :
    Calls Tryd.prog 22 #[.agg #[.int .i64 n, .slice A l c], .int .i64 i] w fun e w' => Post w R e w' := by
  have HW := Lib.hid hw
  clear hw
  go_enter Tryd.func22, Tryd.ntmps22
  go_wp2_with fail
  go_at_call 51
  refine (changed_b n A l c ws i false R H _ ((HW.out.below (boxS_below w n A l c)).below ((Below.refl _ _).alloc (Nat.le_refl _) _))).mono ?_
  rintro e w2 ⟨⟨A', c', rfl, hO⟩, hb⟩
  obtain ⟨_, hr, hb1⟩ := box2 hb
  have HO := Lib.hid (hO.mono (B' := w.heap.size + 2) (by simp [boxS]))
  have HR := Lib.hid hr
  have HB := Lib.hid hb1
  clear hb hr hb1 hO
  have r0 := HR.out.at 0 _ rfl
  have r1 := HR.out.at 1 _ rfl
  have f0 := HR.out.free 0
  have f1 := HR.out.free 1
  obtain ⟨R1, R2, R3⟩ := R
  obtain ⟨L, hL⟩ : ∃ L, R2.length = L := ⟨_, rfl⟩
  simp only [hL] at HO ⊢
  go_wp2_with fail
  obtain ⟨k0, k1⟩ := two_cells HR.out (.int .i64 R1) (.slice A' L c')
  refine bodyPost_ret (v := .tuple #[.agg #[.int .i64 R1, .slice A' L c'], .int .i64 R3]) (by simp [results, Tryd.results22, go_sem, k0, k1]) rfl ?_
  exact fin_set HO.out (by omega) (by omega) HB.out _ _

/-- What Complement returns. -/
def compR (n : Int) (ws : List Nat) : Int × List Nat × Int := if Bs.vld n ws = false then (0, [], 1) else (n, Bs.mk n.toNat fun i => !Bs.bit ws i, 0)

set_option maxHeartbeats 1000000 in
theorem complement_b (n : Int) (A : Option Addr) (l c : Nat) (ws : List Nat) (R : Int × List Nat × Int) (H : Hid (compR n ws = R)) (w : World) (hw : Wd w A l c ws) :
    Calls Tryd.prog 33 #[.agg #[.int .i64 n, .slice A l c]] w fun e w' => Post w R e w' := by
  have HW0 := Lib.hid hw
  clear hw
  obtain ⟨v, hv⟩ : ∃ v, Bs.vld n ws = v := ⟨_, rfl⟩
  have HV := Lib.hid hv
  go_enter Tryd.func33, Tryd.ntmps33
  go_wp2_with fail
  go_at_call 18
  refine (valid_b n A l c ws v HV _ ((HW0.out.below (boxS_below w n A l c)).below ((Below.refl _ _).alloc (Nat.le_refl _) _))).mono ?_
  rintro e w2 ⟨rfl, hb⟩
  obtain ⟨hc, hr, hb1⟩ := box2 hb
  have HC := Lib.hid hc
  have HR := Lib.hid hr
  have HB := Lib.hid hb1
  have HW2 := Lib.hid (HW0.out.below HB.out)
  clear hb HV hc hr hb1
  have c0 := HC.out.at 0 _ rfl
  have c1 := HC.out.at 1 _ rfl
  have r0 := HR.out.at 0 _ rfl
  have r1 := HR.out.at 1 _ rfl
  have f0 := HR.out.free 0
  have f1 := HR.out.free 1
  cases v with
  | false =>
    have hR : R = (0, [], 1) := by rw [← H.out]; unfold compR; rw [if_pos hv]
    subst hR
    clear H hv
    go_wp2_with fail
    obtain ⟨k0, k1⟩ := two_cells HR.out (.int .i64 0) (.slice none 0 0)
    refine bodyPost_ret (v := .tuple #[.agg #[.int .i64 0, .slice none 0 0], .int .i64 1]) (by simp [results, Tryd.results33, go_sem, k0, k1]) rfl ?_
    exact post_bad rfl ((HB.out.setCell (by show _ ≤ _ + 1; omega) _).setCell (by show _ ≤ _ + 1; omega) _)
  | true =>
    obtain ⟨m, rfl⟩ : ∃ m : Nat, n = m := ⟨n.toNat, by have := (Bs.vld_iff.1 hv).1; omega⟩
    have hR : R = ((m : Int), (Bs.mk m fun i => !Bs.bit ws i), 0) := by rw [← H.out]; unfold compR; rw [if_neg (by rw [hv]; simp), Int.toNat_natCast]
    have HV := Lib.hid hv
    clear H hv
    go_wp2_with fail
    go_at_call 48
    refine (invert_b m A l c ws HV.out _ HW2.out).mono ?_
    rintro e w3 ⟨⟨A', c', rfl, hO⟩, hb3⟩
    have HO := Lib.hid (hO.mono (B' := w.heap.size + 2) (by have := HR.out.lt; omega))
    have HR3 := Lib.hid (HR.out.next hb3)
    have HB3 := Lib.hid (HB.out.trans (hb3.mono HB.out.size))
    clear hO hb3 HC HR HB c0 c1 r0 r1 f0 f1
    have r0 := HR3.out.at 0 _ rfl
    have r1 := HR3.out.at 1 _ rfl
    have f0 := HR3.out.free 0
    have f1 := HR3.out.free 1
    go_wp2_with fail
    obtain ⟨k0, k1⟩ := two_cells HR3.out (.int .i64 m) (.slice A' l c')
    refine bodyPost_ret (v := .tuple #[.agg #[.int .i64 m, .slice A' l c'], .int .i64 0]) (by simp [results, Tryd.results33, go_sem, k0, k1]) rfl ?_
    rw [hR]
    exact fin_set HO.out (by omega) (by omega) HB3.out _ _
end Go.Proofs.YtpapbpekihgnlaaDoor
