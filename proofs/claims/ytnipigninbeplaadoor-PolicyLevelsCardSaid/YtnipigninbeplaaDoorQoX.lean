/-
  The walks over the lattice's Below, Bottom and JoinAll.
-/
import Derived.Test.YtnipigninbeplaaDoorPoX
import Derived.Test.YtnipigninbeplaaDoorPl
import Derived.Test.YtnipigninbeplaaDoorFlZs
namespace Go.Proofs.YtnipigninbeplaaDoor
open Go.RowKit

/-- A place of a table of levels. -/
theorem Tab.at {W : World} {B : Nat} {E : TypeId} {V : Value} {n : Nat} {jb : Nat → Nat} {f : Nat → Nat → Nat} (h : Tab W B E V n n jb f) (h0 : 0 < n) :
    ∃ g c, V = .slice (some ⟨g, 0, none⟩) n c ∧ ∀ i, i < n → W.cell? ⟨g, i, none⟩ = some (.slice (some ⟨jb i, 0, none⟩) n n) ∧ ∀ j, j < n → W.cell? ⟨jb i, j, none⟩ = some (.int .i64 (f i j : Nat)) := by
  have ho := h.own
  rcases ho.2 with ⟨hv, hn⟩ | ⟨g, cap, cur, hv, _⟩
  · omega
  · subst hv
    refine ⟨g, cap, rfl, fun i hi => ⟨?_, fun j hj => (h.row i hi).at j _ (partV_at _ _ _ hj)⟩⟩
    have hl : (rowsV jb n n).length = n := by simp [rowsV]
    have := ho.cellAt (0 + i) (by omega)
    rw [Nat.zero_add] at this
    rw [this]
    unfold rowsV
    rw [List.getElem?_map, List.getElem?_range hi]
    rfl
/-- What the walks read of a lattice that has been made. -/
structure Lv (W : World) (b0 n : Nat) (M : Mx) : Prop where
  rd : ∃ (An : Option Addr) (cn : Nat) (v1 : Value) (q gj cj gk ck : Nat) (rb jb kb : Nat → Nat), Cs W b0 [.slice An n cn, v1, .slice (some ⟨q, 0, none⟩) n n, .slice (some ⟨gj, 0, none⟩) n cj, .slice (some ⟨gk, 0, none⟩) n ck] ∧ Mem W q n n rb M ∧
    ∀ i, i < n → (W.cell? ⟨gj, i, none⟩ = some (.slice (some ⟨jb i, 0, none⟩) n n) ∧ ∀ j, j < n → W.cell? ⟨jb i, j, none⟩ = some (.int .i64 (jfM n M i j : Nat))) ∧ (W.cell? ⟨gk, i, none⟩ = some (.slice (some ⟨kb i, 0, none⟩) n n) ∧ ∀ j, j < n → W.cell? ⟨kb i, j, none⟩ = some (.int .i64 (kfM n M i j : Nat)))
theorem Lat.lv {W : World} {b0 n : Nat} {M : Mx} (h : Lat W b0 n M) (h0 : 0 < n) : Lv W b0 n M := by
  obtain ⟨An, cn, v1, JV, KV, q, B, rb, jb, kb, h1, h2, h3, h4⟩ := h
  obtain ⟨gj, cj, rfl, hj⟩ := h3.at h0
  obtain ⟨gk, ck, rfl, hk⟩ := h4.at h0
  exact ⟨An, cn, v1, q, gj, cj, gk, ck, rb, jb, kb, h1, h2, fun i hi => ⟨hj i hi, hk i hi⟩⟩
set_option maxRecDepth 100000 in
set_option maxHeartbeats 2000000 in
theorem below_b (b0 n : Nat) (M : Mx) (a b : Nat) (ha : a < n) (hb : b < n) (hn : n ≤ 12) (r : Bool) (H : Hid (mget M a b = r)) (w : World) (hl : Lat w b0 n M) :
    Calls Tryd.prog 39 #[.pointer (some ⟨b0, 0, none⟩), .int .i64 a, .int .i64 b] w fun e w' => e = .returned (.bool r) ∧ w = w' := by
  obtain ⟨An, cn, v1, q, gj, cj, gk, ck, rb, jb, kb, h1, h2, h3⟩ := (hl.lv (by omega)).rd
  have HL1 : Hid (levB n a = true) := Lib.hid (by unfold levB; rw [decide_eq_true (by omega), decide_eq_true (by omega)]; rfl)
  have HL2 : Hid (levB n b = true) := Lib.hid (by unfold levB; rw [decide_eq_true (by omega), decide_eq_true (by omega)]; rfl)
  have c0 := h1.at 0 _ rfl
  have c2 := h1.at 2 _ rfl
  have c3 := h2.rowAt a ha
  have c4 := h2.at a b ha hb
  rw [H.out] at c4
  have HC0 := Lib.hid c0
  have hai : (a : Int) < (n : Int) := by omega
  have hbi : (b : Int) < (n : Int) := by omega
  have ha0 : (0 : Int) ≤ (a : Int) := by omega
  have hb0 : (0 : Int) ≤ (b : Int) := by omega
  clear hl h1 h2 h3 H
  go_enter Tryd.func39, Tryd.ntmps39
  go_wp2_with (first | (go_at_call 45; first | (refine (has_b b0 An n cn a true HL1 _ HC0.out).mono ?_; rintro e wy ⟨rfl, rfl⟩; clear HL1) | (refine (has_b b0 An n cn b true HL2 _ HC0.out).mono ?_; rintro e wy ⟨rfl, rfl⟩)) | fail)
  go_ret
  exact ⟨rfl, rfl⟩
set_option maxHeartbeats 2000000 in
theorem size_b (b0 n cn : Nat) (An : Option Addr) (w : World) (c0 : w.cell? ⟨b0, 0, none⟩ = some (.slice An n cn)) :
    Calls Tryd.prog 88 #[.pointer (some ⟨b0, 0, none⟩)] w fun e w' => e = .returned (.int .i64 n) ∧ w = w' := by
  go_enter Tryd.func88, Tryd.ntmps88
  go_wp2_with fail
  go_ret
  exact ⟨rfl, rfl⟩
set_option maxRecDepth 100000 in
set_option maxHeartbeats 2000000 in
theorem bottom_b (b0 n : Nat) (M : Mx) (h0 : 0 < n) (hn : n ≤ 12) (ho : Ord n (dnM M)) (hbd : ∀ a b, a < n → b < n → (bdM n (dnM M) a b).isSome = true) (r : Nat) (H : Hid (bndK n (dnM M) n = r)) (w : World) (hl : Lat w b0 n M) :
    Calls Tryd.prog 66 #[.pointer (some ⟨b0, 0, none⟩)] w fun e w' => e = .returned (.int .i64 r) ∧ w = w' := by
  obtain ⟨An, cn, v1, q, gj, cj, gk, ck, rb, jb, kb, h1, h2, h3⟩ := (hl.lv (by omega)).rd
  have HUP := Lib.hid (bndK_up ho hbd h0)
  have H3 := Lib.hid h3
  have c0 := h1.at 0 _ rfl
  have c4 := h1.at 4 _ rfl
  have HC0 := Lib.hid c0
  clear hl h1 h2 h3 ho hbd c0
  go_enter Tryd.func66, Tryd.ntmps66
  go_wp2_with (first | (go_at_call 88; refine (size_b b0 n cn An _ HC0.out).mono ?_; rintro e wy ⟨rfl, rfl⟩) | fail)
  go_loop [3, 7] (fun u v => ∃ k b : Nat, k ≤ n ∧ b < n ∧ u = .int .i64 b ∧ v = .int .i64 k ∧ Hid (bndK n (dnM M) k = b)) (fun _ v => n - (intOf v).toNat)
  case atStart => exact ⟨0, 0, Nat.zero_le _, h0, rfl, rfl, Lib.hid rfl⟩
  case round =>
    obtain ⟨k, b, hk, hb, rfl, rfl, HK⟩ := hrel
    have hk0 : (0 : Int) ≤ (k : Int) := by omega
    have hb0 : (0 : Int) ≤ (b : Int) := by omega
    have hb1 : (b : Int) < (n : Int) := by omega
    by_cases hkn : k < n
    · have hki : (k : Int) < (n : Int) := by omega
      obtain ⟨_, c5, h6⟩ := H3.out b hb
      have c6 := h6 k hkn
      obtain ⟨d, hd⟩ : ∃ d, kfM n M b k = d := ⟨_, rfl⟩
      rw [hd] at c6
      have HN : Hid (bndK n (dnM M) (k + 1) = d) := Lib.hid (by unfold bndK; rw [HK.out]; exact hd)
      have hdn : d < n := by rw [← HN.out]; exact (HUP.out (k + 1) (by omega)).1
      clear h6 hd
      go_wp2_with fail
      go_round
      case rel => exact ⟨k + 1, d, by omega, hdn, rfl, by go_num, HN⟩
      case measure => simp [intOf]; omega
    · have hki : ¬ ((k : Int) < (n : Int)) := by omega
      obtain rfl : n = k := by omega
      obtain rfl : b = r := by rw [← HK.out]; exact H.out
      go_wp2_with fail
      go_ret
      exact ⟨rfl, rfl⟩
/-- The join of levels, from one on. -/
def jaK (n : Nat) (M : Mx) (s : Nat) (zs : List Int) : Nat := zs.foldl (fun a z => jfM n M a z.toNat) s
theorem jaK_snoc (n : Nat) (M : Mx) (s : Nat) (zs : List Int) (z : Int) : jaK n M s (zs ++ [z]) = jfM n M (jaK n M s zs) z.toNat := by simp [jaK]
theorem jfM_lt {n : Nat} {M : Mx} (h : ∀ a b, a < n → b < n → (bdM n (upM M) a b).isSome = true) {a b : Nat} (ha : a < n) (hb : b < n) : jfM n M a b < n := by
  obtain ⟨c, hc⟩ := Option.isSome_iff_exists.1 (h a b ha hb)
  unfold jfM
  rw [hc]
  exact bdM_lt hc
/-- All are levels. -/
def AllLv (n : Nat) (zs : List Int) : Prop := ∀ z ∈ zs, 0 ≤ z ∧ z < n
set_option maxRecDepth 100000 in
set_option maxHeartbeats 2000000 in
theorem joinAll_b (b0 n : Nat) (M : Mx) (h0 : 0 < n) (hn : n ≤ 12) (ho : Ord n (dnM M)) (hbd : ∀ a b, a < n → b < n → (bdM n (dnM M) a b).isSome = true) (hju : ∀ a b, a < n → b < n → (bdM n (upM M) a b).isSome = true) (s : Nat) (HS : Hid (bndK n (dnM M) n = s)) (A : Option Addr) (l c : Nat) (zs : List Int) (hal : AllLv n zs) (r : Nat) (H : Hid (jaK n M s zs = r)) (w : World) (hz : Zs w A l c zs) (hl : Lat w b0 n M) :
    Calls Tryd.prog 40 #[.pointer (some ⟨b0, 0, none⟩), .slice A l c] w fun e w' => e = .returned (.tuple #[.int .i64 r, .int .i64 0]) ∧ w = w' := by
  obtain ⟨An, cn, v1, q, gj, cj, gk, ck, rb, jb, kb, h1, h2, h3⟩ := (hl.lv (by omega)).rd
  have HL := Lib.hid hl
  have H3 := Lib.hid h3
  have HO := Lib.hid ho
  have HBD := Lib.hid hbd
  have HJU := Lib.hid hju
  have HZ := Lib.hid hz
  have HAL := Lib.hid hal
  have HZL := Lib.hid hz.len
  have hlc : l ≤ 9223372036854775807 := by have := hz.cap; have := hz.big; unfold maxLen at this; omega
  have c0 := h1.at 0 _ rfl
  have c3 := h1.at 3 _ rfl
  have HC0 := Lib.hid c0
  have HSN : Hid (s < n) := Lib.hid (by rw [← HS.out]; exact (bndK_up ho hbd h0 n (Nat.le_refl _)).1)
  clear hl h1 h2 h3 ho hbd hju hz hal c0
  go_enter Tryd.func40, Tryd.ntmps40
  go_wp2_with (first | (go_at_call 66; refine (bottom_b b0 n M h0 hn HO.out HBD.out s HS _ HL.out).mono ?_; rintro e wy ⟨rfl, rfl⟩) | fail)
  go_loop [6, 15] (fun u v => ∃ k b : Nat, k ≤ l ∧ b < n ∧ u = .int .i64 b ∧ v = .int .i64 k ∧ Hid (jaK n M s (zs.take k) = b)) (fun _ v => l - (intOf v).toNat)
  case atStart => exact ⟨0, s, Nat.zero_le _, HSN.out, rfl, rfl, Lib.hid rfl⟩
  case round =>
    obtain ⟨k, b, hk, hb, rfl, rfl, HK⟩ := hrel
    have hk0 : (0 : Int) ≤ (k : Int) := by omega
    have hb0 : (0 : Int) ≤ (b : Int) := by omega
    have hb1 : (b : Int) < (n : Int) := by omega
    by_cases hkn : k < l
    · have hki : (k : Int) < (l : Int) := by omega
      obtain ⟨g, f, hA, hg, hc⟩ := HZ.out.mem (by omega)
      have k0 := hc k hkn
      subst hA
      have hkz : k < zs.length := by rw [HZL.out]; exact hkn
      have HGD : Hid (zs[k]? = some (zs.getD k 0)) := Lib.hid (by rw [List.getD_eq_getElem?_getD, List.getElem?_eq_getElem hkz]; rfl)
      obtain ⟨z, hzz⟩ : ∃ z, zs.getD k 0 = z := ⟨_, rfl⟩
      rw [hzz] at k0 HGD
      obtain ⟨z0, z1⟩ := HAL.out z (List.mem_of_getElem? HGD.out)
      obtain ⟨a, rfl⟩ : ∃ a : Nat, z = a := ⟨z.toNat, by omega⟩
      have ha : a < n := by omega
      obtain ⟨⟨c5, h6⟩, _⟩ := H3.out b hb
      have c6 := h6 a ha
      obtain ⟨d, hd⟩ : ∃ d, jfM n M b a = d := ⟨_, rfl⟩
      rw [hd] at c6
      have HN : Hid (jaK n M s (zs.take (k + 1)) = d) := Lib.hid (by rw [List.take_add_one, HGD.out, Option.toList_some, jaK_snoc, HK.out]; exact hd)
      have hdn : d < n := by rw [← hd]; exact jfM_lt HJU.out hb ha
      have HLV : Hid (levB n a = true) := Lib.hid (by unfold levB; rw [decide_eq_true z0, decide_eq_true z1]; rfl)
      clear h6 hd hzz hc
      go_wp2_with (first | (go_at_call 45; refine (has_b b0 An n cn a true HLV _ HC0.out).mono ?_; rintro e wy ⟨rfl, rfl⟩) | fail)
      go_round
      case rel => exact ⟨k + 1, d, by omega, hdn, rfl, by go_num, HN⟩
      case measure => simp [intOf]; omega
    · have hki : ¬ ((k : Int) < (l : Int)) := by omega
      obtain rfl : l = k := by omega
      obtain rfl : b = r := by rw [← HK.out, List.take_of_length_le (by rw [HZL.out]; exact Nat.le_refl _)]; exact H.out
      go_wp2_with fail
      go_returns
      exact ⟨rfl, rfl⟩
end Go.Proofs.YtnipigninbeplaaDoor
