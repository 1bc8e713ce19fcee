/-
  The walks over the reference's Of and All.
-/
import Derived.Test.YtpapbpekihgnlaaDoorBsS
namespace Go.Proofs.YtpapbpekihgnlaaDoor
open Go.RowKit

theorem Fl.ofCs {W : World} {g l : Nat} {F : Nat → Bool} (h : Cs W g (bvals l F)) (hl : l ≤ 4096) : Fl W (some ⟨g, 0, none⟩) l l F :=
  ⟨Nat.le_refl _, by unfold maxLen; omega, fun _ => ⟨g, 0, rfl, h.lt, fun j hj => by rw [Nat.zero_add]; exact h.at j _ (bvals_get l F j hj)⟩⟩
theorem take_flags (zs : List Int) (k : Nat) (h : k < zs.length) (i m : Nat) (hz : zs.getD k 0 = (i : Int)) : (bvals m fun j => if j = i then true else (zs.take k).contains (j : Int)) = bvals m fun j => (zs.take (k + 1)).contains (j : Int) := by
  refine bvals_congr fun j _ => ?_
  rw [List.take_add_one, List.getElem?_eq_getElem h]
  have hg : zs[k] = (i : Int) := by rw [← hz, List.getD_eq_getElem?_getD, List.getElem?_eq_getElem h]; rfl
  by_cases hj : j = i
  · subst hj; simp [hg]
  · rw [if_neg hj, Bool.eq_iff_iff]
    have : ¬ (j : Int) = (i : Int) := by omega
    simp [hg, this]

set_option maxHeartbeats 1000000 in
theorem rof_bad (n : Int) (h : n < 0 ∨ 4096 < n) (A : Option Addr) (l c : Nat) (w : World) :
    Calls Tryd.prog 16 #[.int .i64 n, .slice A l c] w fun e w' => e = .returned (.tuple #[.agg #[.int .i64 0, .slice none 0 0], .int .i64 3]) ∧ Below w.heap.size w w' := by
  by_cases h0 : n < 0
  · clear h
    go_enter Tryd.func16, Tryd.ntmps16
    go_wp2_with fail
    go_returns
    exact ⟨rfl, by go_grown⟩
  · have h1 : 4096 < n := by omega
    have h0' : 0 ≤ n := by omega
    clear h
    go_enter Tryd.func16, Tryd.ntmps16
    go_wp2_with fail
    go_returns
    exact ⟨rfl, by go_grown⟩

set_option maxHeartbeats 1000000 in
theorem rof_b (n : Int) (A : Option Addr) (l c : Nat) (zs : List Int) (hl5 : l ≤ 5000) (R : Int × List Nat × Int) (H : Hid (ofR n zs = R)) (w : World) (hz : Zs w A l c zs) :
    Calls Tryd.prog 16 #[.int .i64 n, .slice A l c] w fun e w' => Post w R e w' := by
  by_cases h0 : n < 0 ∨ 4096 < n
  · have hR : R = (0, [], 3) := by rw [← H.out]; unfold ofR; rw [if_pos (by rcases h0 with h | h; exact .inl h; exact .inr (.inl h))]
    subst hR
    exact (rof_bad n h0 A l c w).mono fun e w' h => post_bad h.1 h.2
  obtain ⟨m, rfl⟩ : ∃ m : Nat, n = m := ⟨n.toNat, by omega⟩
  have hm : m ≤ 4096 := by omega
  have hm' : (m : Int) ≤ 4096 := by omega
  have hmk := make_bools m hm
  have HLN := Lib.hid hz.len
  have HZ := Lib.hid hz
  clear hz h0
  go_enter Tryd.func16, Tryd.ntmps16
  go_wp2_with fail
  go_loopw [7] (fun v wr => ∃ k : Nat, k ≤ l ∧ v = .int .i64 k ∧ Hid (∀ j, j < k → 0 ≤ zs.getD j 0 ∧ zs.getD j 0 < m) ∧ Hid (Cs wr w.heap.size [.int .i64 0, .slice none 0 0]) ∧ Hid (Cs wr (w.heap.size + 1) (bvals m fun i => (zs.take k).contains (i : Int))) ∧ Hid (Below w.heap.size w wr)) (fun v _ => l - (intOf v).toNat)
  case atStart => exact ⟨0, by omega, rfl, fun j hj => absurd hj (by omega), (Cs.new _ _ _).alloc _, Cs.new1 _ _ _ _, by show Below _ _ _; go_grown⟩
  case round =>
    obtain ⟨k, hk, rfl, HK, HR, HC, HB⟩ := hrel
    have r0 := HR.out.at 0 _ rfl
    have r1 := HR.out.at 1 _ rfl
    have f0 := HR.out.free 0
    have f1 := HR.out.free 1
    clear hmk
    by_cases hlt : k < l
    · obtain ⟨g, f, hA, hg, hzc⟩ := (HZ.out.below HB.out).mem (by omega)
      subst hA
      have hcell := hzc k hlt
      obtain ⟨z, hzz⟩ : ∃ z, zs.getD k 0 = z := ⟨_, rfl⟩
      rw [hzz] at hcell
      have hmem : z ∈ zs := by rw [← hzz]; exact getD_mem (by rw [HLN.out]; exact hlt)
      clear hzc
      by_cases hz0 : z < 0
      · have hR : R = (0, [], 3) := by rw [← H.out]; unfold ofR; rw [if_pos (.inr (.inr ⟨z, hmem, .inl hz0⟩))]
        subst hR
        clear HK HC
        go_wp2_with fail
        obtain ⟨k0, k1⟩ := two_cells HR.out (.int .i64 0) (.slice none 0 0)
        refine bodyPost_ret (v := .tuple #[.agg #[.int .i64 0, .slice none 0 0], .int .i64 3]) (by simp [results, Tryd.results16, go_sem, k0, k1]) rfl ?_
        exact post_bad rfl ((HB.out.setCell (Nat.le_refl _) _).setCell (Nat.le_refl _) _)
      · obtain ⟨i, rfl⟩ : ∃ i : Nat, z = i := ⟨z.toNat, by omega⟩
        by_cases him : m ≤ i
        · have hR : R = (0, [], 3) := by rw [← H.out]; unfold ofR; rw [if_pos (.inr (.inr ⟨_, hmem, .inr (by omega)⟩))]
          subst hR
          have him' : (m : Int) ≤ (i : Int) := by omega
          clear HK HC hz0
          go_wp2_with fail
          obtain ⟨k0, k1⟩ := two_cells HR.out (.int .i64 0) (.slice none 0 0)
          refine bodyPost_ret (v := .tuple #[.agg #[.int .i64 0, .slice none 0 0], .int .i64 3]) (by simp [results, Tryd.results16, go_sem, k0, k1]) rfl ?_
          exact post_bad rfl ((HB.out.setCell (Nat.le_refl _) _).setCell (Nat.le_refl _) _)
        · have him' : (i : Int) < (m : Int) := by omega
          have hwc := HC.out.at i _ (bvals_get m _ i (by omega))
          have hwf := HC.out.free i
          have hwl := HC.out.lt
          have HK' : Hid (∀ j, j < k + 1 → 0 ≤ zs.getD j 0 ∧ zs.getD j 0 < m) := fun j hj => by
            by_cases hjk : j = k
            · subst hjk; rw [hzz]; omega
            · exact HK.out j (by omega)
          have HC' := Lib.hid (HC.out.set i (.bool true) (by rw [bvals_len]; omega))
          have htf := take_flags zs k (by rw [HLN.out]; exact hlt) i m hzz
          rw [bvals_set, htf] at HC'
          clear HK hz0 htf
          go_wp2_with fail
          go_roundw
          case rel => exact ⟨k + 1, by omega, by go_num, HK', HR.out.other (by show _ + 1 ≠ _; omega) _, HC', HB.out.setCell (by show _ ≤ _ + 1; omega) _⟩
          case measure => simp [intOf]; omega
    · obtain rfl : k = l := by omega
      rw [List.take_of_length_le (by rw [HLN.out]; exact Nat.le_refl _)] at HC
      have hR : R = ((m : Int), (Bs.mk m fun i => zs.contains (i : Int)), 0) := by
        rw [← H.out]
        unfold ofR
        rw [if_neg, Int.toNat_natCast]
        rintro (h | h | ⟨z, hz, h⟩)
        · omega
        · omega
        · obtain ⟨j, hj, rfl⟩ := List.mem_iff_getElem.1 hz
          have := HK.out j (by rw [HLN.out] at hj; exact hj)
          rw [List.getD_eq_getElem?_getD, List.getElem?_eq_getElem hj, Option.getD_some] at this
          omega
      clear HK
      obtain ⟨L, hL⟩ : ∃ L, (m + 63) / 64 = L := ⟨_, rfl⟩
      have HL := Lib.hid hL
      clear hL
      go_wp2_with fail
      go_at_call 49
      refine (make_b m _ m _ hm L HL _ (Fl.ofCs HC.out hm)).mono ?_
      rintro e w3 ⟨⟨A', c', rfl, hO⟩, hb⟩
      have HO := Lib.hid (hO.mono (B' := w.heap.size + 1) (by have := HR.out.lt; omega))
      have HR3 := Lib.hid (HR.out.next hb)
      have HB3 := Lib.hid (HB.out.trans (hb.mono HB.out.size))
      clear hb hO HR HB HC r0 r1 f0 f1
      have r0 := HR3.out.at 0 _ rfl
      have r1 := HR3.out.at 1 _ rfl
      have f0 := HR3.out.free 0
      have f1 := HR3.out.free 1
      go_wp2_with fail
      obtain ⟨k0, k1⟩ := two_cells HR3.out (.int .i64 m) (.slice A' L c')
      refine bodyPost_ret (v := .tuple #[.agg #[.int .i64 m, .slice A' L c'], .int .i64 0]) (by simp [results, Tryd.results16, go_sem, k0, k1]) rfl ?_
      rw [hR]
      exact fin_set HO.out (by omega) (by omega) HB3.out _ _

/-- What All returns. -/
def allR (n : Int) : Int × List Nat × Int := if n < 0 ∨ 4096 < n then (0, [], 3) else (n, Bs.mk n.toNat fun _ => true, 0)
theorem all_r (n : Int) (R : Int × List Nat × Int) (H : Hid (allR n = R)) (w : World) :
    Calls Tryd.prog 14 #[.int .i64 n] w fun e w' => Post w R e w' := by
  by_cases h0 : n < 0 ∨ 4096 < n
  · have hR : R = (0, [], 3) := by rw [← H.out]; unfold allR; rw [if_pos h0]
    subst hR
    exact (all_bad n h0 w).mono fun e w' h => post_bad h.1 h.2
  · obtain ⟨m, rfl⟩ : ∃ m : Nat, n = m := ⟨n.toNat, by omega⟩
    have hR : R = ((m : Int), (Bs.mk m fun _ => true), 0) := by rw [← H.out]; unfold allR; rw [if_neg h0, Int.toNat_natCast]
    rw [hR]
    exact all_b m (by omega) w

set_option maxHeartbeats 1000000 in
theorem rall_b (n : Int) (R : Int × List Nat × Int) (H : Hid (allR n = R)) (w : World) :
    Calls Tryd.prog 17 #[.int .i64 n] w fun e w' => Post w R e w' := by
  by_cases h0 : n < 0
  · have hR : R = (0, [], 3) := by rw [← H.out]; unfold allR; rw [if_pos (.inl h0)]
    subst hR
    clear H
    go_enter Tryd.func17, Tryd.ntmps17
    go_wp2_with fail
    go_returns
    exact post_bad rfl (by go_grown)
  by_cases h1 : 4096 < n
  · have hR : R = (0, [], 3) := by rw [← H.out]; unfold allR; rw [if_pos (.inr h1)]
    subst hR
    have h0' : 0 ≤ n := by omega
    clear H h0
    go_enter Tryd.func17, Tryd.ntmps17
    go_wp2_with fail
    go_returns
    exact post_bad rfl (by go_grown)
  obtain ⟨m, rfl⟩ : ∃ m : Nat, n = m := ⟨n.toNat, by omega⟩
  have hR : R = ((m : Int), (Bs.mk m fun _ => true), 0) := by rw [← H.out]; unfold allR; rw [if_neg (by omega), Int.toNat_natCast]
  have hm : m ≤ 4096 := by omega
  have hm' : (m : Int) ≤ 4096 := by omega
  have hmk := make_bools m hm
  clear h0 h1 H
  go_enter Tryd.func17, Tryd.ntmps17
  go_wp2_with fail
  go_loopw [5] (fun v wr => ∃ k : Nat, k ≤ m ∧ v = .int .i64 k ∧ Hid (Cs wr w.heap.size [.int .i64 0, .slice none 0 0]) ∧ Hid (Cs wr (w.heap.size + 1) (bvals m fun i => decide (i < k))) ∧ Hid (Below w.heap.size w wr)) (fun v _ => m - (intOf v).toNat)
  case atStart => exact ⟨0, by omega, rfl, (Cs.new _ _ _).alloc _, (by have := Cs.new1 w (.cells #[.int .i64 0, .slice none 0 0] 24) (bvals m fun _ => false).toArray 4; show Cs _ _ _; simpa using this), by show Below _ _ _; go_grown⟩
  case round =>
    obtain ⟨k, hk, rfl, HR, HC, HB⟩ := hrel
    have r0 := HR.out.at 0 _ rfl
    have r1 := HR.out.at 1 _ rfl
    have f0 := HR.out.free 0
    have f1 := HR.out.free 1
    clear hmk
    by_cases hlt : k < m
    · have hwc := HC.out.at k _ (bvals_get m _ k (by omega))
      have hwf := HC.out.free k
      have hwl := HC.out.lt
      have HC' := Lib.hid (HC.out.set k (.bool true) (by rw [bvals_len]; omega))
      have htf : (bvals m fun i => if i = k then true else decide (i < k)) = bvals m fun i => decide (i < k + 1) := by
        refine bvals_congr fun i _ => ?_
        by_cases hi : i = k
        · subst hi; simp
        · rw [if_neg hi, Bool.eq_iff_iff, decide_eq_true_iff, decide_eq_true_iff]; omega
      rw [bvals_set, htf] at HC'
      have hlt' : (k : Int) < (m : Int) := by omega
      clear htf
      go_wp2_with fail
      go_roundw
      case rel => exact ⟨k + 1, by omega, by go_num, HR.out.other (by show _ + 1 ≠ _; omega) _, HC', HB.out.setCell (by show _ ≤ _ + 1; omega) _⟩
      case measure => simp [intOf]; omega
    · obtain rfl : k = m := by omega
      have hbv : (bvals k fun i => decide (i < k)) = bvals k fun _ => true := bvals_congr fun i hi => decide_eq_true hi
      rw [hbv] at HC
      obtain ⟨L, hL⟩ : ∃ L, (k + 63) / 64 = L := ⟨_, rfl⟩
      have HL := Lib.hid hL
      clear hL hbv
      go_wp2_with fail
      go_at_call 49
      refine (make_b k _ k _ hm L HL _ (Fl.ofCs HC.out hm)).mono ?_
      rintro e w3 ⟨⟨A', c', rfl, hO⟩, hb⟩
      have HO := Lib.hid (hO.mono (B' := w.heap.size + 1) (by have := HR.out.lt; omega))
      have HR3 := Lib.hid (HR.out.next hb)
      have HB3 := Lib.hid (HB.out.trans (hb.mono HB.out.size))
      clear hb hO HR HB HC r0 r1 f0 f1
      have r0 := HR3.out.at 0 _ rfl
      have r1 := HR3.out.at 1 _ rfl
      have f0 := HR3.out.free 0
      have f1 := HR3.out.free 1
      go_wp2_with fail
      obtain ⟨k0, k1⟩ := two_cells HR3.out (.int .i64 k) (.slice A' L c')
      refine bodyPost_ret (v := .tuple #[.agg #[.int .i64 k, .slice A' L c'], .int .i64 0]) (by simp [results, Tryd.results17, go_sem, k0, k1]) rfl ?_
      rw [hR]
      exact fin_set HO.out (by omega) (by omega) HB3.out _ _
end Go.Proofs.YtpapbpekihgnlaaDoor
