/-
  The walks over pair, Union, Intersect and Minus.
-/
import Derived.Test.YtpapbpekihgnlaaDoorBsH
namespace Go.Proofs.YtpapbpekihgnlaaDoor
open Go.RowKit

/-- The worlds behind the boxes of two sets, and behind a result's cell besides. -/
def boxT (w : World) (n : Int) (A : Option Addr) (l c : Nat) (n' : Int) (A' : Option Addr) (l' c' : Nat) : World := (boxS w n A l c).alloc (.cells #[.int .i64 n', .slice A' l' c'] 24)
theorem boxT_below (w : World) (n : Int) (A : Option Addr) (l c : Nat) (n' : Int) (A' : Option Addr) (l' c' : Nat) : Below w.heap.size w (boxT w n A l c n' A' l' c') := by
  unfold boxT boxS
  go_grown
theorem boxT_size (w : World) (n : Int) (A : Option Addr) (l c : Nat) (n' : Int) (A' : Option Addr) (l' c' : Nat) : (boxT w n A l c n' A' l' c').heap.size = w.heap.size + 2 := by simp [boxT, boxS]
theorem boxT_cs (w : World) (n : Int) (A : Option Addr) (l c : Nat) (n' : Int) (A' : Option Addr) (l' c' : Nat) : Cs (boxT w n A l c n' A' l' c') w.heap.size [.int .i64 n, .slice A l c] ∧ Cs (boxT w n A l c n' A' l' c') (w.heap.size + 1) [.int .i64 n', .slice A' l' c'] :=
  ⟨(boxS_cs w n A l c).alloc _, Cs.new1 w _ _ _⟩
theorem box3 {w w2 : World} {n : Int} {A : Option Addr} {l c : Nat} {n' : Int} {A' : Option Addr} {l' c' : Nat} (hb : Below ((boxT w n A l c n' A' l' c').alloc (.cells #[.int .i64 0, .slice none 0 0] 24)).heap.size ((boxT w n A l c n' A' l' c').alloc (.cells #[.int .i64 0, .slice none 0 0] 24)) w2) :
    Cs w2 w.heap.size [.int .i64 n, .slice A l c] ∧ Cs w2 (w.heap.size + 1) [.int .i64 n', .slice A' l' c'] ∧ Cs w2 (w.heap.size + 2) [.int .i64 0, .slice none 0 0] ∧ Below w.heap.size w w2 := by
  obtain ⟨h1, h2⟩ := boxT_cs w n A l c n' A' l' c'
  have h3 := Cs.new (boxT w n A l c n' A' l' c') #[.int .i64 0, .slice none 0 0] 24
  rw [boxT_size] at h3
  exact ⟨(h1.alloc _).next hb, (h2.alloc _).next hb, h3.next hb, ((boxT_below w n A l c n' A' l' c').alloc (boxT_below w n A l c n' A' l' c').size _).trans (hb.mono (by simp [boxT, boxS]; omega))⟩

/-- What pair returns. -/
def pairR (n : Int) (ws : List Nat) (n' : Int) (ws' : List Nat) : Int := if Bs.vld n ws = false ∨ Bs.vld n' ws' = false then 1 else if n = n' then 0 else 2

set_option maxHeartbeats 1000000 in
theorem pair_b (n : Int) (A : Option Addr) (l c : Nat) (ws : List Nat) (n' : Int) (A' : Option Addr) (l' c' : Nat) (ws' : List Nat) (r : Int) (H : Hid (pairR n ws n' ws' = r)) (w : World) (hw : Wd w A l c ws) (hw' : Wd w A' l' c' ws') :
    Calls Tryd.prog 53 #[.agg #[.int .i64 n, .slice A l c], .agg #[.int .i64 n', .slice A' l' c']] w fun e w' => e = .returned (.int .i64 r) ∧ Below w.heap.size w w' := by
  have HW := Lib.hid hw
  have HW' := Lib.hid hw'
  clear hw hw'
  obtain ⟨v, hv⟩ : ∃ v, Bs.vld n ws = v := ⟨_, rfl⟩
  obtain ⟨v', hv'⟩ : ∃ v, Bs.vld n' ws' = v := ⟨_, rfl⟩
  have HV := Lib.hid hv
  have HV' := Lib.hid hv'
  have HT := Lib.hid (boxT_cs w n A l c n' A' l' c')
  have HTB := Lib.hid (boxT_below w n A l c n' A' l' c')
  go_enter Tryd.func53, Tryd.ntmps53
  go_wp2_with fail
  go_at_call 18
  refine (valid_b n A l c ws v HV _ (HW.out.below HTB.out)).mono ?_
  rintro e w2 ⟨rfl, hb⟩
  have HC := Lib.hid (HT.out.1.next hb)
  have HC' := Lib.hid (HT.out.2.next hb)
  have HB := Lib.hid (HTB.out.trans (hb.mono HTB.out.size))
  clear hb HV HT HTB
  have c0 := HC.out.at 0 _ rfl
  have c1 := HC.out.at 1 _ rfl
  have d0 := HC'.out.at 0 _ rfl
  have d1 := HC'.out.at 1 _ rfl
  cases v with
  | false =>
    have hr : r = 1 := by rw [← H.out]; unfold pairR; rw [if_pos (.inl hv)]
    subst hr
    clear H hv hv' HV'
    go_wp2_with fail
    go_ret
    exact ⟨rfl, HB.out⟩
  | true =>
    have hvN : Bs.vld n ws ≠ false := by rw [hv]; simp
    clear hv
    go_wp2_with fail
    go_at_call 18
    refine (valid_b n' A' l' c' ws' v' HV' _ (HW'.out.below HB.out)).mono ?_
    rintro e w3 ⟨rfl, hb3⟩
    have HD := Lib.hid (HC.out.next hb3)
    have HD' := Lib.hid (HC'.out.next hb3)
    have HB3 := Lib.hid (HB.out.trans (hb3.mono HB.out.size))
    clear hb3 HV' HC HC' HB c0 c1 d0 d1
    have c0 := HD.out.at 0 _ rfl
    have d0 := HD'.out.at 0 _ rfl
    cases v' with
    | false =>
      have hr : r = 1 := by rw [← H.out]; unfold pairR; rw [if_pos (.inr hv')]
      subst hr
      clear H hv' hvN
      go_wp2_with fail
      go_ret
      exact ⟨rfl, HB3.out⟩
    | true =>
      have hvN' : ¬ (Bs.vld n ws = false ∨ Bs.vld n' ws' = false) := by rintro (h | h); exact hvN h; rw [hv'] at h; cases h
      by_cases hnn : n = n'
      · have hr : r = 0 := by rw [← H.out]; unfold pairR; rw [if_neg hvN', if_pos hnn]
        subst hr
        have hd : (n != n') = false := by simp [hnn]
        clear H hv' hvN hvN' hnn
        go_wp2_with fail
        go_ret
        exact ⟨rfl, HB3.out⟩
      · have hr : r = 2 := by rw [← H.out]; unfold pairR; rw [if_neg hvN', if_neg hnn]
        subst hr
        have hd : (n != n') = true := by simp [hnn]
        clear H hv' hvN hvN' hnn
        go_wp2_with fail
        go_ret
        exact ⟨rfl, HB3.out⟩

/-- What Union, Intersect and Minus return. -/
def comR (o : Bool → Bool → Bool) (n : Int) (ws : List Nat) (n' : Int) (ws' : List Nat) : Int × List Nat × Int :=
  if pairR n ws n' ws' = 0 then (n, Bs.mk n.toNat (fun i => o (Bs.bit ws i) (Bs.bit ws' i)), 0) else (0, [], pairR n ws n' ws')
theorem pairR_zero {n : Int} {ws : List Nat} {n' : Int} {ws' : List Nat} (h : pairR n ws n' ws' = 0) : Bs.vld n ws = true ∧ Bs.vld n ws' = true ∧ n = n' := by
  unfold pairR at h
  split at h
  · exact absurd h (by decide)
  · next hv =>
    split at h
    · next hn =>
      subst hn
      refine ⟨?_, ?_, rfl⟩
      · cases e : Bs.vld n ws
        · exact absurd (.inl e) hv
        · rfl
      · cases e : Bs.vld n ws'
        · exact absurd (.inr e) hv
        · rfl
    · exact absurd h (by decide)

set_option maxHeartbeats 2000000 in
theorem union_b (n : Int) (A : Option Addr) (l c : Nat) (ws : List Nat) (n' : Int) (A' : Option Addr) (l' c' : Nat) (ws' : List Nat) (R : Int × List Nat × Int) (H : Hid (comR (fun p q => p || q) n ws n' ws' = R)) (w : World) (hw : Wd w A l c ws) (hw' : Wd w A' l' c' ws') :
    Calls Tryd.prog 30 #[.agg #[.int .i64 n, .slice A l c], .agg #[.int .i64 n', .slice A' l' c']] w fun e w' => Post w R e w' := by
  have HW := Lib.hid hw
  have HW' := Lib.hid hw'
  clear hw hw'
  obtain ⟨p, hp⟩ : ∃ p, pairR n ws n' ws' = p := ⟨_, rfl⟩
  have HP := Lib.hid hp
  have HTB := Lib.hid ((boxT_below w n A l c n' A' l' c').alloc (boxT_below w n A l c n' A' l' c').size (.cells #[.int .i64 0, .slice none 0 0] 24))
  go_enter Tryd.func30, Tryd.ntmps30
  go_wp2_with fail
  go_at_call 53
  refine (pair_b n A l c ws n' A' l' c' ws' p HP _ (HW.out.below HTB.out) (HW'.out.below HTB.out)).mono ?_
  rintro e w2 ⟨rfl, hb⟩
  obtain ⟨hc, hd, hr, hb2⟩ := box3 hb
  have HC := Lib.hid hc
  have HD := Lib.hid hd
  have HR := Lib.hid hr
  have HB := Lib.hid hb2
  clear hb hc hd hr hb2 HTB HP
  have c0 := HC.out.at 0 _ rfl
  have c1 := HC.out.at 1 _ rfl
  have r0 := HR.out.at 0 _ rfl
  have r1 := HR.out.at 1 _ rfl
  have f0 := HR.out.free 0
  have f1 := HR.out.free 1
  by_cases hp0 : p = 0
  · subst hp0
    have hR : R = (n, (Bs.mk n.toNat fun i => (fun p q => p || q) (Bs.bit ws i) (Bs.bit ws' i)), 0) := by rw [← H.out]; unfold comR; rw [if_pos hp]
    obtain ⟨hv, hv', hnn⟩ := pairR_zero hp
    subst hnn
    obtain ⟨m, rfl⟩ : ∃ m : Nat, n = m := ⟨n.toNat, by have := (Bs.vld_iff.1 hv).1; omega⟩
    rw [Int.toNat_natCast] at hR
    have hlen := Bs.vld_len hv
    have hlen' := Bs.vld_len hv'
    have hn := Bs.vld_le hv
    have hll := HW.out.len
    have hll' := HW'.out.len
    obtain rfl : l' = l := by omega
    have hl6 : l' ≤ 64 := by omega
    have HV := Lib.hid hv
    have HV' := Lib.hid hv'
    have HLN := Lib.hid hll
    have HLN' := Lib.hid hll'
    have HF := Lib.hid HW.out.fits
    have HF' := Lib.hid HW'.out.fits
    clear H hv hv' hp hlen hlen' hn hll hll'
    go_wp2_with fail
    go_at_call 55
    refine (clone_b A l' c ws hl6 _ (HW.out.below HB.out)).mono ?_
    rintro e w3 ⟨⟨A2, c2, rfl, hO⟩, hb3⟩
    have HO := Lib.hid (show Ow w3 (w.heap.size + 3) A2 l' c2 (part ws (fun j => ws.getD j 0 ||| ws'.getD j 0) 0) by rw [part_zero]; exact hO.mono (by have := HR.out.lt; omega))
    have HC3 := Lib.hid (HC.out.next hb3)
    have HD3 := Lib.hid (HD.out.next hb3)
    have HR3 := Lib.hid (HR.out.next hb3)
    have HB3 := Lib.hid (HB.out.trans (hb3.mono HB.out.size))
    clear hO hb3 HC HD HR HB c0 c1 r0 r1 f0 f1
    go_wp2_with fail
    go_loopw [21] (fun v wr => ∃ k : Nat, k ≤ l' ∧ v = .int .i64 k ∧ Hid (Cs wr w.heap.size [.int .i64 m, .slice A l' c]) ∧ Hid (Cs wr (w.heap.size + 1) [.int .i64 m, .slice A' l' c']) ∧ Hid (Cs wr (w.heap.size + 2) [.int .i64 0, .slice none 0 0]) ∧ Hid (Ow wr (w.heap.size + 3) A2 l' c2 (part ws (fun j => ws.getD j 0 ||| ws'.getD j 0) k)) ∧ Hid (Below w.heap.size w wr)) (fun v _ => l' - (intOf v).toNat)
    case atStart => exact ⟨0, by omega, rfl, HC3, HD3, HR3, HO, HB3⟩
    case round =>
      clear HC3 HD3 HR3 HO HB3
      obtain ⟨k, hk, rfl, HC, HD, HR, HO, HB⟩ := hrel
      by_cases hlt : k < l'
      · obtain ⟨g, hA, hg, hcs⟩ := HO.out.mem (by omega)
        subst hA
        obtain ⟨g', f', hA', hg', hcs'⟩ := (HW'.out.below HB.out).mem (by omega)
        subst hA'
        have hx := HF.out k
        have hy := HF'.out k
        obtain ⟨x, hxx⟩ : ∃ x, ws.getD k 0 = x := ⟨_, rfl⟩
        obtain ⟨y, hyy⟩ : ∃ y, ws'.getD k 0 = y := ⟨_, rfl⟩
        rw [hxx] at hx
        rw [hyy] at hy
        have hcell := hcs.at k _ (vals_get _ k (by rw [part_len, HLN.out]; exact hlt))
        rw [part_get _ _ _ (by rw [HLN.out]; exact hlt), hxx] at hcell
        have hcell' := hcs' k hlt
        rw [hyy] at hcell'
        have hfz := hcs.free k
        have hgl := hcs.lt
        have hlt' : (k : Int) < (l' : Int) := by omega
        have d1 := HD.out.at 1 _ rfl
        obtain ⟨z, hz⟩ : ∃ z, x ||| y = z := ⟨_, rfl⟩
        have hz2 : z < 2 ^ 64 := by rw [← hz]; exact Nat.or_lt_two_pow hx hy
        have HY := Lib.hid (u64_or_nat x y hx hy)
        have hst : (part ws (fun j => ws.getD j 0 ||| ws'.getD j 0) k).set k z = part ws (fun j => ws.getD j 0 ||| ws'.getD j 0) (k + 1) := by
          rw [← part_step]
          simp only [hxx, hyy, hz]
        have HO2 := Lib.hid ((HO.out.set k z hlt hz2).below (Below.refl _ _).drew)
        rw [hst] at HO2
        have HC2 := Lib.hid ((HC.out.other (p := ⟨g, k, none⟩) (by show g ≠ _; omega) (.int .u64 z)).drew)
        have HD2 := Lib.hid ((HD.out.other (p := ⟨g, k, none⟩) (by show g ≠ _; omega) (.int .u64 z)).drew)
        have HR2 := Lib.hid ((HR.out.other (p := ⟨g, k, none⟩) (by show g ≠ _; omega) (.int .u64 z)).drew)
        have HB2 := Lib.hid ((HB.out.setCell (p := ⟨g, k, none⟩) (by show _ ≤ g; omega) (.int .u64 z)).drew)
        have HS := Lib.hid hcs
        clear hcs hcs' hst HC HD HR HO HB
        have HYZ := Lib.hid hz
        clear hz
        go_wp2_with fail
        go_region
        rw [HY.out, HYZ.out]
        go_wp2_with fail
        go_roundw
        case rel => exact ⟨k + 1, by omega, by go_num, HC2, HD2, HR2, HO2, HB2⟩
        case measure => simp [intOf]; omega
      · obtain rfl : k = l' := by omega
        rw [part_all _ _ (by rw [HLN.out]; exact Nat.le_refl _), Bs.or_mk HV.out HV'.out HF.out HF'.out] at HO
        have c0 := HC.out.at 0 _ rfl
        have r0 := HR.out.at 0 _ rfl
        have r1 := HR.out.at 1 _ rfl
        have f0 := HR.out.free 0
        have f1 := HR.out.free 1
        go_wp2_with fail
        obtain ⟨k0, k1⟩ := two_cells HR.out (.int .i64 m) (.slice A2 k c2)
        refine bodyPost_ret (v := .tuple #[.agg #[.int .i64 m, .slice A2 k c2], .int .i64 0]) (by simp [results, Tryd.results30, go_sem, k0, k1]) rfl ?_
        rw [hR]
        exact fin_set HO.out (by omega) (by omega) HB.out _ _
  · have hR : R = (0, [], p) := by rw [← H.out]; unfold comR; rw [hp, if_neg hp0]
    have hd : (p != 0) = true := by simp [hp0]
    subst hR
    clear H hp
    go_wp2_with fail
    obtain ⟨k0, k1⟩ := two_cells HR.out (.int .i64 0) (.slice none 0 0)
    refine bodyPost_ret (v := .tuple #[.agg #[.int .i64 0, .slice none 0 0], .int .i64 p]) (by simp [results, Tryd.results30, go_sem, k0, k1]) rfl ?_
    exact post_bad rfl ((HB.out.setCell (by show _ ≤ _ + 2; omega) _).setCell (by show _ ≤ _ + 2; omega) _)

set_option maxHeartbeats 2000000 in
theorem intersect_b (n : Int) (A : Option Addr) (l c : Nat) (ws : List Nat) (n' : Int) (A' : Option Addr) (l' c' : Nat) (ws' : List Nat) (R : Int × List Nat × Int) (H : Hid (comR (fun p q => p && q) n ws n' ws' = R)) (w : World) (hw : Wd w A l c ws) (hw' : Wd w A' l' c' ws') :
    Calls Tryd.prog 31 #[.agg #[.int .i64 n, .slice A l c], .agg #[.int .i64 n', .slice A' l' c']] w fun e w' => Post w R e w' := by
  have HW := Lib.hid hw
  have HW' := Lib.hid hw'
  clear hw hw'
  obtain ⟨p, hp⟩ : ∃ p, pairR n ws n' ws' = p := ⟨_, rfl⟩
  have HP := Lib.hid hp
  have HTB := Lib.hid ((boxT_below w n A l c n' A' l' c').alloc (boxT_below w n A l c n' A' l' c').size (.cells #[.int .i64 0, .slice none 0 0] 24))
  go_enter Tryd.func31, Tryd.ntmps31
  go_wp2_with fail
  go_at_call 53
  refine (pair_b n A l c ws n' A' l' c' ws' p HP _ (HW.out.below HTB.out) (HW'.out.below HTB.out)).mono ?_
  rintro e w2 ⟨rfl, hb⟩
  obtain ⟨hc, hd, hr, hb2⟩ := box3 hb
  have HC := Lib.hid hc
  have HD := Lib.hid hd
  have HR := Lib.hid hr
  have HB := Lib.hid hb2
  clear hb hc hd hr hb2 HTB HP
  have c0 := HC.out.at 0 _ rfl
  have c1 := HC.out.at 1 _ rfl
  have r0 := HR.out.at 0 _ rfl
  have r1 := HR.out.at 1 _ rfl
  have f0 := HR.out.free 0
  have f1 := HR.out.free 1
  by_cases hp0 : p = 0
  · subst hp0
    have hR : R = (n, (Bs.mk n.toNat fun i => (fun p q => p && q) (Bs.bit ws i) (Bs.bit ws' i)), 0) := by rw [← H.out]; unfold comR; rw [if_pos hp]
    obtain ⟨hv, hv', hnn⟩ := pairR_zero hp
    subst hnn
    obtain ⟨m, rfl⟩ : ∃ m : Nat, n = m := ⟨n.toNat, by have := (Bs.vld_iff.1 hv).1; omega⟩
    rw [Int.toNat_natCast] at hR
    have hlen := Bs.vld_len hv
    have hlen' := Bs.vld_len hv'
    have hn := Bs.vld_le hv
    have hll := HW.out.len
    have hll' := HW'.out.len
    obtain rfl : l' = l := by omega
    have hl6 : l' ≤ 64 := by omega
    have HV := Lib.hid hv
    have HV' := Lib.hid hv'
    have HLN := Lib.hid hll
    have HLN' := Lib.hid hll'
    have HF := Lib.hid HW.out.fits
    have HF' := Lib.hid HW'.out.fits
    clear H hv hv' hp hlen hlen' hn hll hll'
    go_wp2_with fail
    go_at_call 55
    refine (clone_b A l' c ws hl6 _ (HW.out.below HB.out)).mono ?_
    rintro e w3 ⟨⟨A2, c2, rfl, hO⟩, hb3⟩
    have HO := Lib.hid (show Ow w3 (w.heap.size + 3) A2 l' c2 (part ws (fun j => ws.getD j 0 &&& ws'.getD j 0) 0) by rw [part_zero]; exact hO.mono (by have := HR.out.lt; omega))
    have HC3 := Lib.hid (HC.out.next hb3)
    have HD3 := Lib.hid (HD.out.next hb3)
    have HR3 := Lib.hid (HR.out.next hb3)
    have HB3 := Lib.hid (HB.out.trans (hb3.mono HB.out.size))
    clear hO hb3 HC HD HR HB c0 c1 r0 r1 f0 f1
    go_wp2_with fail
    go_loopw [21] (fun v wr => ∃ k : Nat, k ≤ l' ∧ v = .int .i64 k ∧ Hid (Cs wr w.heap.size [.int .i64 m, .slice A l' c]) ∧ Hid (Cs wr (w.heap.size + 1) [.int .i64 m, .slice A' l' c']) ∧ Hid (Cs wr (w.heap.size + 2) [.int .i64 0, .slice none 0 0]) ∧ Hid (Ow wr (w.heap.size + 3) A2 l' c2 (part ws (fun j => ws.getD j 0 &&& ws'.getD j 0) k)) ∧ Hid (Below w.heap.size w wr)) (fun v _ => l' - (intOf v).toNat)
    case atStart => exact ⟨0, by omega, rfl, HC3, HD3, HR3, HO, HB3⟩
    case round =>
      clear HC3 HD3 HR3 HO HB3
      obtain ⟨k, hk, rfl, HC, HD, HR, HO, HB⟩ := hrel
      by_cases hlt : k < l'
      · obtain ⟨g, hA, hg, hcs⟩ := HO.out.mem (by omega)
        subst hA
        obtain ⟨g', f', hA', hg', hcs'⟩ := (HW'.out.below HB.out).mem (by omega)
        subst hA'
        have hx := HF.out k
        have hy := HF'.out k
        obtain ⟨x, hxx⟩ : ∃ x, ws.getD k 0 = x := ⟨_, rfl⟩
        obtain ⟨y, hyy⟩ : ∃ y, ws'.getD k 0 = y := ⟨_, rfl⟩
        rw [hxx] at hx
        rw [hyy] at hy
        have hcell := hcs.at k _ (vals_get _ k (by rw [part_len, HLN.out]; exact hlt))
        rw [part_get _ _ _ (by rw [HLN.out]; exact hlt), hxx] at hcell
        have hcell' := hcs' k hlt
        rw [hyy] at hcell'
        have hfz := hcs.free k
        have hgl := hcs.lt
        have hlt' : (k : Int) < (l' : Int) := by omega
        have d1 := HD.out.at 1 _ rfl
        obtain ⟨z, hz⟩ : ∃ z, x &&& y = z := ⟨_, rfl⟩
        have hz2 : z < 2 ^ 64 := by rw [← hz]; exact Nat.lt_of_le_of_lt Nat.and_le_left hx
        have HY := Lib.hid (u64_and_nat x y hx hy)
        have hst : (part ws (fun j => ws.getD j 0 &&& ws'.getD j 0) k).set k z = part ws (fun j => ws.getD j 0 &&& ws'.getD j 0) (k + 1) := by
          rw [← part_step]
          simp only [hxx, hyy, hz]
        have HO2 := Lib.hid ((HO.out.set k z hlt hz2).below (Below.refl _ _).drew)
        rw [hst] at HO2
        have HC2 := Lib.hid ((HC.out.other (p := ⟨g, k, none⟩) (by show g ≠ _; omega) (.int .u64 z)).drew)
        have HD2 := Lib.hid ((HD.out.other (p := ⟨g, k, none⟩) (by show g ≠ _; omega) (.int .u64 z)).drew)
        have HR2 := Lib.hid ((HR.out.other (p := ⟨g, k, none⟩) (by show g ≠ _; omega) (.int .u64 z)).drew)
        have HB2 := Lib.hid ((HB.out.setCell (p := ⟨g, k, none⟩) (by show _ ≤ g; omega) (.int .u64 z)).drew)
        have HS := Lib.hid hcs
        clear hcs hcs' hst HC HD HR HO HB
        have HYZ := Lib.hid hz
        clear hz
        go_wp2_with fail
        go_region
        rw [HY.out, HYZ.out]
        go_wp2_with fail
        go_roundw
        case rel => exact ⟨k + 1, by omega, by go_num, HC2, HD2, HR2, HO2, HB2⟩
        case measure => simp [intOf]; omega
      · obtain rfl : k = l' := by omega
        rw [part_all _ _ (by rw [HLN.out]; exact Nat.le_refl _), Bs.and_mk HV.out HV'.out HF.out HF'.out] at HO
        have c0 := HC.out.at 0 _ rfl
        have r0 := HR.out.at 0 _ rfl
        have r1 := HR.out.at 1 _ rfl
        have f0 := HR.out.free 0
        have f1 := HR.out.free 1
        go_wp2_with fail
        obtain ⟨k0, k1⟩ := two_cells HR.out (.int .i64 m) (.slice A2 k c2)
        refine bodyPost_ret (v := .tuple #[.agg #[.int .i64 m, .slice A2 k c2], .int .i64 0]) (by simp [results, Tryd.results31, go_sem, k0, k1]) rfl ?_
        rw [hR]
        exact fin_set HO.out (by omega) (by omega) HB.out _ _
  · have hR : R = (0, [], p) := by rw [← H.out]; unfold comR; rw [hp, if_neg hp0]
    have hd : (p != 0) = true := by simp [hp0]
    subst hR
    clear H hp
    go_wp2_with fail
    obtain ⟨k0, k1⟩ := two_cells HR.out (.int .i64 0) (.slice none 0 0)
    refine bodyPost_ret (v := .tuple #[.agg #[.int .i64 0, .slice none 0 0], .int .i64 p]) (by simp [results, Tryd.results31, go_sem, k0, k1]) rfl ?_
    exact post_bad rfl ((HB.out.setCell (by show _ ≤ _ + 2; omega) _).setCell (by show _ ≤ _ + 2; omega) _)

set_option maxHeartbeats 2000000 in
theorem minus_b (n : Int) (A : Option Addr) (l c : Nat) (ws : List Nat) (n' : Int) (A' : Option Addr) (l' c' : Nat) (ws' : List Nat) (R : Int × List Nat × Int) (H : Hid (comR (fun p q => p && !q) n ws n' ws' = R)) (w : World) (hw : Wd w A l c ws) (hw' : Wd w A' l' c' ws') :
    Calls Tryd.prog 32 #[.agg #[.int .i64 n, .slice A l c], .agg #[.int .i64 n', .slice A' l' c']] w fun e w' => Post w R e w' := by
  have HW := Lib.hid hw
  have HW' := Lib.hid hw'
  clear hw hw'
  obtain ⟨p, hp⟩ : ∃ p, pairR n ws n' ws' = p := ⟨_, rfl⟩
  have HP := Lib.hid hp
  have HTB := Lib.hid ((boxT_below w n A l c n' A' l' c').alloc (boxT_below w n A l c n' A' l' c').size (.cells #[.int .i64 0, .slice none 0 0] 24))
  go_enter Tryd.func32, Tryd.ntmps32
  go_wp2_with fail
  go_at_call 53
  refine (pair_b n A l c ws n' A' l' c' ws' p HP _ (HW.out.below HTB.out) (HW'.out.below HTB.out)).mono ?_
  rintro e w2 ⟨rfl, hb⟩
  obtain ⟨hc, hd, hr, hb2⟩ := box3 hb
  have HC := Lib.hid hc
  have HD := Lib.hid hd
  have HR := Lib.hid hr
  have HB := Lib.hid hb2
  clear hb hc hd hr hb2 HTB HP
  have c0 := HC.out.at 0 _ rfl
  have c1 := HC.out.at 1 _ rfl
  have r0 := HR.out.at 0 _ rfl
  have r1 := HR.out.at 1 _ rfl
  have f0 := HR.out.free 0
  have f1 := HR.out.free 1
  by_cases hp0 : p = 0
  · subst hp0
    have hR : R = (n, (Bs.mk n.toNat fun i => (fun p q => p && !q) (Bs.bit ws i) (Bs.bit ws' i)), 0) := by rw [← H.out]; unfold comR; rw [if_pos hp]
    obtain ⟨hv, hv', hnn⟩ := pairR_zero hp
    subst hnn
    obtain ⟨m, rfl⟩ : ∃ m : Nat, n = m := ⟨n.toNat, by have := (Bs.vld_iff.1 hv).1; omega⟩
    rw [Int.toNat_natCast] at hR
    have hlen := Bs.vld_len hv
    have hlen' := Bs.vld_len hv'
    have hn := Bs.vld_le hv
    have hll := HW.out.len
    have hll' := HW'.out.len
    obtain rfl : l' = l := by omega
    have hl6 : l' ≤ 64 := by omega
    have HV := Lib.hid hv
    have HV' := Lib.hid hv'
    have HLN := Lib.hid hll
    have HLN' := Lib.hid hll'
    have HF := Lib.hid HW.out.fits
    have HF' := Lib.hid HW'.out.fits
    clear H hv hv' hp hlen hlen' hn hll hll'
    go_wp2_with fail
    go_at_call 55
    refine (clone_b A l' c ws hl6 _ (HW.out.below HB.out)).mono ?_
    rintro e w3 ⟨⟨A2, c2, rfl, hO⟩, hb3⟩
    have HO := Lib.hid (show Ow w3 (w.heap.size + 3) A2 l' c2 (part ws (fun j => ws.getD j 0 &&& (18446744073709551615 - ws'.getD j 0)) 0) by rw [part_zero]; exact hO.mono (by have := HR.out.lt; omega))
    have HC3 := Lib.hid (HC.out.next hb3)
    have HD3 := Lib.hid (HD.out.next hb3)
    have HR3 := Lib.hid (HR.out.next hb3)
    have HB3 := Lib.hid (HB.out.trans (hb3.mono HB.out.size))
    clear hO hb3 HC HD HR HB c0 c1 r0 r1 f0 f1
    go_wp2_with fail
    go_loopw [21] (fun v wr => ∃ k : Nat, k ≤ l' ∧ v = .int .i64 k ∧ Hid (Cs wr w.heap.size [.int .i64 m, .slice A l' c]) ∧ Hid (Cs wr (w.heap.size + 1) [.int .i64 m, .slice A' l' c']) ∧ Hid (Cs wr (w.heap.size + 2) [.int .i64 0, .slice none 0 0]) ∧ Hid (Ow wr (w.heap.size + 3) A2 l' c2 (part ws (fun j => ws.getD j 0 &&& (18446744073709551615 - ws'.getD j 0)) k)) ∧ Hid (Below w.heap.size w wr)) (fun v _ => l' - (intOf v).toNat)
    case atStart => exact ⟨0, by omega, rfl, HC3, HD3, HR3, HO, HB3⟩
    case round =>
      clear HC3 HD3 HR3 HO HB3
      obtain ⟨k, hk, rfl, HC, HD, HR, HO, HB⟩ := hrel
      by_cases hlt : k < l'
      · obtain ⟨g, hA, hg, hcs⟩ := HO.out.mem (by omega)
        subst hA
        obtain ⟨g', f', hA', hg', hcs'⟩ := (HW'.out.below HB.out).mem (by omega)
        subst hA'
        have hx := HF.out k
        have hy := HF'.out k
        obtain ⟨x, hxx⟩ : ∃ x, ws.getD k 0 = x := ⟨_, rfl⟩
        obtain ⟨y, hyy⟩ : ∃ y, ws'.getD k 0 = y := ⟨_, rfl⟩
        rw [hxx] at hx
        rw [hyy] at hy
        have hcell := hcs.at k _ (vals_get _ k (by rw [part_len, HLN.out]; exact hlt))
        rw [part_get _ _ _ (by rw [HLN.out]; exact hlt), hxx] at hcell
        have hcell' := hcs' k hlt
        rw [hyy] at hcell'
        have hfz := hcs.free k
        have hgl := hcs.lt
        have hlt' : (k : Int) < (l' : Int) := by omega
        have d1 := HD.out.at 1 _ rfl
        obtain ⟨z, hz⟩ : ∃ z, x &&& (18446744073709551615 - y) = z := ⟨_, rfl⟩
        have hz2 : z < 2 ^ 64 := by rw [← hz]; exact Nat.lt_of_le_of_lt Nat.and_le_left hx
        have HY := Lib.hid (u64_andNot_nat x y hx hy)
        have hst : (part ws (fun j => ws.getD j 0 &&& (18446744073709551615 - ws'.getD j 0)) k).set k z = part ws (fun j => ws.getD j 0 &&& (18446744073709551615 - ws'.getD j 0)) (k + 1) := by
          rw [← part_step]
          simp only [hxx, hyy, hz]
        have HO2 := Lib.hid ((HO.out.set k z hlt hz2).below (Below.refl _ _).drew)
        rw [hst] at HO2
        have HC2 := Lib.hid ((HC.out.other (p := ⟨g, k, none⟩) (by show g ≠ _; omega) (.int .u64 z)).drew)
        have HD2 := Lib.hid ((HD.out.other (p := ⟨g, k, none⟩) (by show g ≠ _; omega) (.int .u64 z)).drew)
        have HR2 := Lib.hid ((HR.out.other (p := ⟨g, k, none⟩) (by show g ≠ _; omega) (.int .u64 z)).drew)
        have HB2 := Lib.hid ((HB.out.setCell (p := ⟨g, k, none⟩) (by show _ ≤ g; omega) (.int .u64 z)).drew)
        have HS := Lib.hid hcs
        clear hcs hcs' hst HC HD HR HO HB
        have HYZ := Lib.hid hz
        clear hz
        go_wp2_with fail
        go_region
        rw [HY.out, HYZ.out]
        go_wp2_with fail
        go_roundw
        case rel => exact ⟨k + 1, by omega, by go_num, HC2, HD2, HR2, HO2, HB2⟩
        case measure => simp [intOf]; omega
      · obtain rfl : k = l' := by omega
        rw [part_all _ _ (by rw [HLN.out]; exact Nat.le_refl _), Bs.sub_mk HV.out HV'.out HF.out HF'.out] at HO
        have c0 := HC.out.at 0 _ rfl
        have r0 := HR.out.at 0 _ rfl
        have r1 := HR.out.at 1 _ rfl
        have f0 := HR.out.free 0
        have f1 := HR.out.free 1
        go_wp2_with fail
        obtain ⟨k0, k1⟩ := two_cells HR.out (.int .i64 m) (.slice A2 k c2)
        refine bodyPost_ret (v := .tuple #[.agg #[.int .i64 m, .slice A2 k c2], .int .i64 0]) (by simp [results, Tryd.results32, go_sem, k0, k1]) rfl ?_
        rw [hR]
        exact fin_set HO.out (by omega) (by omega) HB.out _ _
  · have hR : R = (0, [], p) := by rw [← H.out]; unfold comR; rw [hp, if_neg hp0]
    have hd : (p != 0) = true := by simp [hp0]
    subst hR
    clear H hp
    go_wp2_with fail
    obtain ⟨k0, k1⟩ := two_cells HR.out (.int .i64 0) (.slice none 0 0)
    refine bodyPost_ret (v := .tuple #[.agg #[.int .i64 0, .slice none 0 0], .int .i64 p]) (by simp [results, Tryd.results32, go_sem, k0, k1]) rfl ?_
    exact post_bad rfl ((HB.out.setCell (by show _ ≤ _ + 2; omega) _).setCell (by show _ ≤ _ + 2; omega) _)
end Go.Proofs.YtpapbpekihgnlaaDoor
