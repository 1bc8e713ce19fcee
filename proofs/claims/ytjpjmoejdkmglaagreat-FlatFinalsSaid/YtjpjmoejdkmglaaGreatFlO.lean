/-
  The walks over the closures, slices.ContainsFunc and varsCode.
-/
import Derived.Test.YtjpjmoejdkmglaaGreatFlN
namespace Go.Proofs.YtjpjmoejdkmglaaGreat
open Go.RowKit

def dupB (us : List Vr) (t : ByteArray) : Bool := us.any fun v => v.name.toList == t.toList
def dupH (us : List Ht) (t : ByteArray) : Bool := us.any fun v => v.name.toList == t.toList
theorem any_hit {α : Type} {p : α → Bool} {us : List α} {k : Nat} {v : α} (h : us[k]? = some v) (hp : p v = true) : us.any p = true := List.any_eq_true.2 ⟨v, List.mem_of_getElem? h, hp⟩
theorem any_none {α : Type} {p : α → Bool} {us : List α} (h : ∀ (j : Nat) (v : α), us[j]? = some v → p v = false) : us.any p = false := by
  rw [List.any_eq_false]
  intro v hv
  obtain ⟨j, hj⟩ := List.mem_iff_getElem?.1 hv
  rw [h j v hj]
  simp

theorem vsame_b (s t : ByteArray) (kd lo hi ii : Int) (b : Bool) (H : Hid ((s.toList == t.toList) = b)) (p : Nat) (w : World) (h0 : w.cell? ⟨p, 0, none⟩ = some (.string t)) (hp : p < w.heap.size) :
    Calls Tryz.prog 58 #[.agg #[.string s, .int .i64 kd, .int .i64 lo, .int .i64 hi, .int .i64 ii], .pointer (some ⟨p, 0, none⟩)] w fun e w' => e = .returned (.bool b) ∧ Below w.heap.size w w' := by
  have h1 := H.out
  clear H
  go_enter Tryz.func58, Tryz.ntmps58
  go_wp2_with fail
  go_ret
  exact ⟨rfl, (Below.refl _ _).alloc (Nat.le_refl _) _⟩
theorem hsame_b (s t : ByteArray) (lo hi o n : Int) (A : Option Addr) (l c : Nat) (b : Bool) (H : Hid ((s.toList == t.toList) = b)) (p : Nat) (w : World) (h0 : w.cell? ⟨p, 0, none⟩ = some (.string t)) (hp : p < w.heap.size) :
    Calls Tryz.prog 63 #[.agg #[.string s, .int .i64 lo, .int .i64 hi, .int .i64 o, .int .i64 n, .slice A l c], .pointer (some ⟨p, 0, none⟩)] w fun e w' => e = .returned (.bool b) ∧ Below w.heap.size w w' := by
  have h1 := H.out
  clear H
  go_enter Tryz.func63, Tryz.ntmps63
  go_wp2_with fail
  go_ret
  exact ⟨rfl, (Below.refl _ _).alloc (Nat.le_refl _) _⟩

set_option maxHeartbeats 2000000 in
theorem vindex_b (us : List Vr) (t : ByteArray) (A : Option Addr) (l c p : Nat) (w : World) (hv : VOk w A l c us) (h0 : w.cell? ⟨p, 0, none⟩ = some (.string t)) (hp : p < w.heap.size) :
    Calls Tryz.prog 86 #[.slice A l c, .func (Fn.func 58) #[] #[.pointer (some ⟨p, 0, none⟩)]] w fun e w' => (∃ r, e = .returned (.int .i64 r) ∧ decide (0 ≤ r) = dupB us t) ∧ Below w.heap.size w w' := by
  have HV := Lib.hid hv
  have HL := Lib.hid hv.len
  have hlv : l ≤ 9223372036854775807 := by have h1 := hv.cap; have h2 := hv.big; unfold maxLen at h2; omega
  have H0 := Lib.hid h0
  clear hv h0
  go_enter Tryz.func86, Tryz.ntmps86
  go_wp2_with fail
  go_loopw [8] (fun v wr => ∃ k : Nat, k ≤ l ∧ v = .int .i64 k ∧ Hid (∀ j v, us[j]? = some v → j < k → (v.name.toList == t.toList) = false) ∧ Hid (Below w.heap.size w wr)) (fun v _ => l - (intOf v).toNat)
  case atStart => exact ⟨0, by omega, rfl, fun j _ _ h => absurd h (by omega), Lib.hid (Below.refl _ _)⟩
  case round =>
    obtain ⟨k, hk, rfl, HK, HB⟩ := hrel
    by_cases hlt : k < l
    · have hlt' : (k : Int) < (l : Int) := by omega
      obtain ⟨s, kk, lo, hi, ii, g, f, hvs, hs, hA, hg, k0, k1, k2, k3, k4⟩ := (HV.out.below HB.out).at k hlt
      subst hA
      have h0 := H0.out
      have HVS := Lib.hid hvs
      clear hvs
      cases hst : (s.toList == t.toList)
      · have HS : Hid ((s.toList == t.toList) = false) := hst
        clear hst
        go_wp2_with fail
        go_at_call 58
        refine (vsame_b s t kk lo hi ii false HS p _ (HB.out.cell (p := ⟨p, 0, none⟩) hp ▸ h0) (Nat.lt_of_lt_of_le hp HB.out.size)).mono ?_
        rintro e w2 ⟨rfl, hb⟩
        have HB2 := Lib.hid (HB.out.trans (hb.mono HB.out.size))
        clear hb
        go_wp2_with fail
        go_roundw
        case rel =>
          refine ⟨k + 1, by omega, by go_num, fun j v hj hjk => ?_, HB2⟩
          by_cases hjk' : j = k
          · subst hjk'
            rw [HVS.out] at hj
            cases hj
            exact HS.out
          · exact HK.out j v hj (by omega)
        case measure => simp [intOf]; omega
      · have HS : Hid ((s.toList == t.toList) = true) := hst
        clear hst
        go_wp2_with fail
        go_at_call 58
        refine (vsame_b s t kk lo hi ii true HS p _ (HB.out.cell (p := ⟨p, 0, none⟩) hp ▸ h0) (Nat.lt_of_lt_of_le hp HB.out.size)).mono ?_
        rintro e w2 ⟨rfl, hb⟩
        have HB2 := Lib.hid (HB.out.trans (hb.mono HB.out.size))
        clear hb
        go_wp2_with fail
        go_ret
        exact ⟨⟨k, rfl, by rw [show dupB us t = true from any_hit HVS.out HS.out]; exact decide_eq_true (by omega)⟩, HB2.out⟩
    · go_wp2_with fail
      go_ret
      refine ⟨⟨-1, rfl, ?_⟩, HB.out⟩
      rw [show dupB us t = false from any_none fun j v hj => HK.out j v hj (by
        have := HL.out
        have : j < us.length := (List.getElem?_eq_some_iff.1 hj).1
        omega)]
      rfl

set_option maxHeartbeats 1000000 in
theorem vcontains_b (us : List Vr) (t : ByteArray) (A : Option Addr) (l c p : Nat) (b : Bool) (H : Hid (dupB us t = b)) (w : World) (hv : VOk w A l c us) (h0 : w.cell? ⟨p, 0, none⟩ = some (.string t)) (hp : p < w.heap.size) :
    Calls Tryz.prog 60 #[.slice A l c, .func (Fn.func 58) #[] #[.pointer (some ⟨p, 0, none⟩)]] w fun e w' => e = .returned (.bool b) ∧ Below w.heap.size w w' := by
  have HV := Lib.hid hv
  have H0 := Lib.hid h0
  clear hv h0
  go_enter Tryz.func60, Tryz.ntmps60
  go_wp2_with fail
  go_at_call 86
  refine (vindex_b us t A l c p _ HV.out H0.out hp).mono ?_
  rintro e w2 ⟨⟨r, rfl, hr⟩, hb⟩
  rw [H.out] at hr
  go_wp2_with fail
  go_ret
  exact ⟨rfl, hb⟩

set_option maxHeartbeats 2000000 in
theorem hindex_b (us : List Ht) (t : ByteArray) (A : Option Addr) (l c p : Nat) (w : World) (hv : HOk w A l c us) (h0 : w.cell? ⟨p, 0, none⟩ = some (.string t)) (hp : p < w.heap.size) :
    Calls Tryz.prog 88 #[.slice A l c, .func (Fn.func 63) #[] #[.pointer (some ⟨p, 0, none⟩)]] w fun e w' => (∃ r, e = .returned (.int .i64 r) ∧ decide (0 ≤ r) = dupH us t) ∧ Below w.heap.size w w' := by
  have HV := Lib.hid hv
  have HL := Lib.hid hv.len
  have hlv : l ≤ 9223372036854775807 := by have h1 := hv.cap; have h2 := hv.big; unfold maxLen at h2; omega
  have H0 := Lib.hid h0
  clear hv h0
  go_enter Tryz.func88, Tryz.ntmps88
  go_wp2_with fail
  go_loopw [8] (fun v wr => ∃ k : Nat, k ≤ l ∧ v = .int .i64 k ∧ Hid (∀ j v, us[j]? = some v → j < k → (v.name.toList == t.toList) = false) ∧ Hid (Below w.heap.size w wr)) (fun v _ => l - (intOf v).toNat)
  case atStart => exact ⟨0, by omega, rfl, fun j _ _ h => absurd h (by omega), Lib.hid (Below.refl _ _)⟩
  case round =>
    obtain ⟨k, hk, rfl, HK, HB⟩ := hrel
    by_cases hlt : k < l
    · have hlt' : (k : Int) < (l : Int) := by omega
      obtain ⟨s, lo, hi, o, n, ks, g, f, A2, c2, hvs, hs, hA, hg, k0, k1, k2, k3, k4, k5, htk⟩ := (HV.out.below HB.out).at k hlt
      subst hA
      have h0 := H0.out
      have HVS := Lib.hid hvs
      clear hvs
      cases hst : (s.toList == t.toList)
      · have HS : Hid ((s.toList == t.toList) = false) := hst
        clear hst
        go_wp2_with fail
        go_at_call 63
        refine (hsame_b s t lo hi o n A2 ks.length c2 false HS p _ (HB.out.cell (p := ⟨p, 0, none⟩) hp ▸ h0) (Nat.lt_of_lt_of_le hp HB.out.size)).mono ?_
        rintro e w2 ⟨rfl, hb⟩
        have HB2 := Lib.hid (HB.out.trans (hb.mono HB.out.size))
        clear hb
        go_wp2_with fail
        go_roundw
        case rel =>
          refine ⟨k + 1, by omega, by go_num, fun j v hj hjk => ?_, HB2⟩
          by_cases hjk' : j = k
          · subst hjk'
            rw [HVS.out] at hj
            cases hj
            exact HS.out
          · exact HK.out j v hj (by omega)
        case measure => simp [intOf]; omega
      · have HS : Hid ((s.toList == t.toList) = true) := hst
        clear hst
        go_wp2_with fail
        go_at_call 63
        refine (hsame_b s t lo hi o n A2 ks.length c2 true HS p _ (HB.out.cell (p := ⟨p, 0, none⟩) hp ▸ h0) (Nat.lt_of_lt_of_le hp HB.out.size)).mono ?_
        rintro e w2 ⟨rfl, hb⟩
        have HB2 := Lib.hid (HB.out.trans (hb.mono HB.out.size))
        clear hb
        go_wp2_with fail
        go_ret
        exact ⟨⟨k, rfl, by rw [show dupH us t = true from any_hit HVS.out HS.out]; exact decide_eq_true (by omega)⟩, HB2.out⟩
    · go_wp2_with fail
      go_ret
      refine ⟨⟨-1, rfl, ?_⟩, HB.out⟩
      rw [show dupH us t = false from any_none fun j v hj => HK.out j v hj (by
        have := HL.out
        have : j < us.length := (List.getElem?_eq_some_iff.1 hj).1
        omega)]
      rfl

set_option maxHeartbeats 1000000 in
theorem hcontains_b (us : List Ht) (t : ByteArray) (A : Option Addr) (l c p : Nat) (b : Bool) (H : Hid (dupH us t = b)) (w : World) (hv : HOk w A l c us) (h0 : w.cell? ⟨p, 0, none⟩ = some (.string t)) (hp : p < w.heap.size) :
    Calls Tryz.prog 64 #[.slice A l c, .func (Fn.func 63) #[] #[.pointer (some ⟨p, 0, none⟩)]] w fun e w' => e = .returned (.bool b) ∧ Below w.heap.size w w' := by
  have HV := Lib.hid hv
  have H0 := Lib.hid h0
  clear hv h0
  go_enter Tryz.func64, Tryz.ntmps64
  go_wp2_with fail
  go_at_call 88
  refine (hindex_b us t A l c p _ HV.out H0.out hp).mono ?_
  rintro e w2 ⟨⟨r, rfl, hr⟩, hb⟩
  rw [H.out] at hr
  go_wp2_with fail
  go_ret
  exact ⟨rfl, hb⟩

/-- The first code that is not 0. -/
def fstC : Nat → (Nat → Int) → Int
  | 0, _ => 0
  | n + 1, f => if f 0 ≠ 0 then f 0 else fstC n fun i => f (i + 1)
theorem fstC_hit : ∀ (n k : Nat) (f : Nat → Int), k < n → (∀ j, j < k → f j = 0) → f k ≠ 0 → fstC n f = f k
  | 0, _, _, h, _, _ => absurd h (by omega)
  | n + 1, 0, f, _, _, h => by rw [fstC, if_pos h]
  | n + 1, k + 1, f, hk, h0, h => by
    rw [fstC, if_neg (fun e => e (h0 0 (by omega)))]
    exact fstC_hit n k (fun i => f (i + 1)) (by omega) (fun j hj => h0 (j + 1) (by omega)) h
theorem fstC_none : ∀ (n : Nat) (f : Nat → Int), (∀ j, j < n → f j = 0) → fstC n f = 0
  | 0, _, _ => rfl
  | n + 1, f, h => by
    rw [fstC, if_neg (fun e => e (h 0 (by omega)))]
    exact fstC_none n (fun i => f (i + 1)) fun j hj => h (j + 1) (by omega)
/-- The code of a variable behind others. -/
def varC (pre : List Vr) (v : Vr) : Int :=
  if nameB v.name = false then 7 else if dupB pre v.name = true then 8 else if v.kind < 0 ∨ 3 < v.kind then 1 else if boundB v.low v.high = false then 3 else if v.kind ≠ 0 ∧ v.init ≠ 0 then 3 else if v.kind = 0 ∧ (v.init < v.low ∨ v.high < v.init) then 3 else 0
def varAt (vs : List Vr) (i : Nat) : Int := (vs[i]?.map (varC (vs.take i))).getD 0
def spaceC (vs : List Vr) (kd : Int) : Int := match spaceO vs kd with
  | none => 4
  | some n => if kd = 3 ∧ 256 < n then 4 else 0
/-- The code of variables. -/
def varsC (vs : List Vr) : Int := if fstC vs.length (varAt vs) ≠ 0 then fstC vs.length (varAt vs) else fstC 3 fun i => spaceC vs (i + 1)
theorem boundB_in {a b : Int} (h : boundB a b = true) : a ≤ b ∧ -1048576 ≤ a ∧ b ≤ 1048576 := by
  unfold boundB at h
  simp only [Bool.and_eq_true, decide_eq_true_eq] at h
  exact h
theorem varC_zero {pre : List Vr} {v : Vr} (h : varC pre v = 0) : nameB v.name = true ∧ dupB pre v.name = false ∧ (0 ≤ v.kind ∧ v.kind ≤ 3) ∧ boundB v.low v.high = true ∧ (v.kind ≠ 0 → v.init = 0) ∧ (v.kind = 0 → v.low ≤ v.init ∧ v.init ≤ v.high) := by
  unfold varC at h
  split at h
  · cases h
  · next h1 =>
    split at h
    · cases h
    · next h2 =>
      split at h
      · cases h
      · next h3 =>
        split at h
        · cases h
        · next h4 =>
          split at h
          · cases h
          · next h5 =>
            split at h
            · cases h
            · next h6 =>
              refine ⟨by simpa using h1, by simpa using h2, by omega, by simpa using h4, fun e => Decidable.byContradiction fun e2 => h5 ⟨e, e2⟩, fun e => ?_⟩
              have : ¬ (v.init < v.low ∨ v.high < v.init) := fun e2 => h6 ⟨e, e2⟩
              omega
theorem vars_B {vs : List Vr} (h : ∀ j, j < vs.length → varAt vs j = 0) : vB vs := by
  intro v hv
  obtain ⟨j, hj⟩ := List.mem_iff_getElem?.1 hv
  have := h j (List.getElem?_eq_some_iff.1 hj).1
  unfold varAt at this
  rw [hj] at this
  exact boundB_in (varC_zero this).2.2.2.1
theorem VOk.take {w : World} {A : Option Addr} {l c : Nat} {vs : List Vr} (h : VOk w A l c vs) (k : Nat) (hk : k ≤ l) : VOk w A k c (vs.take k) := by
  refine ⟨by rw [List.length_take, h.len]; omega, Nat.le_trans hk h.cap, h.big, fun v hv => h.nm v (List.mem_of_mem_take hv), fun h0 => ?_⟩
  obtain ⟨g, f, h1, h2, h3⟩ := h.mem (by omega)
  refine ⟨g, f, h1, h2, fun j hj => ?_⟩
  rw [List.getElem_take]
  exact h3 j (by rw [List.length_take] at hj; omega)
end Go.Proofs.YtjpjmoejdkmglaaGreat
