/-
  The walk over Of.
-/
import Derived.Test.YtpapbpekihgnlaaDoorBsF
namespace Go.Proofs.YtpapbpekihgnlaaDoor
open Go.RowKit

/-- A list of integers in memory. -/
structure Zs (W : World) (A : Option Addr) (l c : Nat) (zs : List Int) : Prop where
  len : zs.length = l
  cap : l ≤ c
  big : c ≤ maxLen
  mem : 0 < l → ∃ g f, A = some ⟨g, f, none⟩ ∧ g < W.heap.size ∧ ∀ j, j < l → W.cell? ⟨g, f + j, none⟩ = some (.int .i64 (zs.getD j 0))
theorem Zs.below {W W' : World} {A : Option Addr} {l c : Nat} {zs : List Int} (h : Zs W A l c zs) (hb : Below W.heap.size W W') : Zs W' A l c zs :=
  ⟨h.len, h.cap, h.big, fun h0 => by
    obtain ⟨g, f, h1, h2, h3⟩ := h.mem h0
    exact ⟨g, f, h1, Nat.lt_of_lt_of_le h2 hb.size, fun j hj => (hb.cell (p := ⟨g, _, none⟩) h2).trans (h3 j hj)⟩⟩
/-- What Of returns. -/
def ofR (n : Int) (zs : List Int) : Int × List Nat × Int :=
  if n < 0 ∨ 4096 < n ∨ ∃ z ∈ zs, z < 0 ∨ n ≤ z then (0, [], 3) else (n, Bs.mk n.toNat fun i => zs.contains (i : Int), 0)
theorem getD_mem {zs : List Int} {j : Nat} (h : j < zs.length) : zs.getD j 0 ∈ zs := by
  rw [List.getD_eq_getElem?_getD, List.getElem?_eq_getElem h]
  exact List.getElem_mem h
theorem set_putw (ws : List Nat) (i : Nat) (b : Bool) : ws.set (i / 64) (if b then ws.getD (i / 64) 0 ||| 2 ^ (i % 64) else ws.getD (i / 64) 0 &&& (18446744073709551615 - 2 ^ (i % 64))) = Bs.tab ws.length (Bs.putw ws i b) := by
  conv => lhs; rw [← Bs.tab_self ws]
  rw [tab_set]
  refine Bs.tab_congr fun j hj => ?_
  unfold Bs.putw
  by_cases h : j = i / 64
  · subst h
    rw [if_pos rfl, if_pos rfl, Bs.tab_self]
  · rw [if_neg h, if_neg h]
theorem set_mk {m : Nat} (hm : m ≤ 4096) (F : Nat → Bool) (i : Nat) (hi : i < m) : (Bs.mk m F).set (i / 64) ((Bs.mk m F).getD (i / 64) 0 ||| 2 ^ (i % 64)) = Bs.mk m fun k => if k = i then true else F k := by
  have h := set_putw (Bs.mk m F) i true
  simp only [if_true] at h
  rw [h, Bs.put_mk (Bs.mk_vld m F hm) (Bs.mk_fits m F) i hi true]
  refine Bs.mk_congr fun k hk => ?_
  rw [Bs.mk_bit]
  simp [hk]
theorem take_contains (zs : List Int) (k : Nat) (h : k < zs.length) (i : Nat) (hz : zs.getD k 0 = (i : Int)) (m : Nat) : (Bs.mk m fun j => if j = i then true else (zs.take k).contains (j : Int)) = Bs.mk m fun j => (zs.take (k + 1)).contains (j : Int) := by
  refine Bs.mk_congr fun j _ => ?_
  rw [List.take_add_one, List.getElem?_eq_getElem h]
  have hg : zs[k] = (i : Int) := by rw [← hz, List.getD_eq_getElem?_getD, List.getElem?_eq_getElem h]; rfl
  by_cases hj : j = i
  · subst hj; simp [hg]
  · rw [if_neg hj, Bool.eq_iff_iff]
    have : ¬ (j : Int) = (i : Int) := by omega
    simp [hg, this]

theorem or_word (x r : Nat) (hx : x < 2 ^ 64) (hr : r < 64) : bits .or .u64 (x : Int) (IntKind.u64.wrap ((2 : Int) ^ r)) = ((x ||| 2 ^ r : Nat) : Int) := by
  have hp : 2 ^ r < 2 ^ 64 := Nat.pow_lt_pow_right (by omega) hr
  rw [pow_word r hr]
  exact u64_or_nat _ _ hx hp

set_option maxHeartbeats 1000000 in
theorem of_bad (n : Int) (h : n < 0 ∨ 4096 < n) (A : Option Addr) (l c : Nat) (w : World) :
    Calls Tryd.prog 15 #[.int .i64 n, .slice A l c] w fun e w' => e = .returned (.tuple #[.agg #[.int .i64 0, .slice none 0 0], .int .i64 3]) ∧ Below w.heap.size w w' := by
  have HH := Lib.hid h
  clear h
  go_enter Tryd.func15, Tryd.ntmps15
  go_wp2_with fail
  go_at_call 13
  refine (new_bad n HH.out _).mono ?_
  rintro e w2 ⟨rfl, hb⟩
  have HB := Lib.hid (Below.trans ((Below.refl _ _).alloc (Nat.le_refl _) _) (hb.mono (by simp)))
  have HR := Lib.hid (Cs.next (Cs.new w #[.int .i64 0, .slice none 0 0] 24) hb)
  clear hb
  have hs := HB.out.size
  have r0 := HR.out.at 0 _ rfl
  have r1 := HR.out.at 1 _ rfl
  have f0 := HR.out.free 0
  have f1 := HR.out.free 1
  have hlt := HR.out.lt
  go_wp2_with fail
  obtain ⟨k0, k1⟩ := two_cells HR.out (.int .i64 0) (.slice none 0 0)
  refine bodyPost_ret (v := .tuple #[.agg #[.int .i64 0, .slice none 0 0], .int .i64 3]) (by simp [results, Tryd.results15, go_sem, k0, k1, hlt]) rfl ⟨rfl, ?_⟩
  exact ((HB.out.setCell (Nat.le_refl _) _).setCell (Nat.le_refl _) _).alloc (by simp; omega) _

set_option maxHeartbeats 1000000 in
theorem of_b (n : Int) (A : Option Addr) (l c : Nat) (zs : List Int) (hl5 : l ≤ 5000) (R : Int × List Nat × Int) (H : Hid (ofR n zs = R)) (w : World) (hz : Zs w A l c zs) :
    Calls Tryd.prog 15 #[.int .i64 n, .slice A l c] w fun e w' => Post w R e w' := by
  by_cases h0 : n < 0 ∨ 4096 < n
  · have hR : R = (0, [], 3) := by rw [← H.out]; unfold ofR; rw [if_pos (by rcases h0 with h | h; exact .inl h; exact .inr (.inl h))]
    subst hR
    exact (of_bad n h0 A l c w).mono fun e w' h => post_bad h.1 h.2
  obtain ⟨m, rfl⟩ : ∃ m : Nat, n = m := ⟨n.toNat, by omega⟩
  have hm : m ≤ 4096 := by omega
  obtain ⟨L, hL⟩ : ∃ L, (m + 63) / 64 = L := ⟨_, rfl⟩
  have HL := Lib.hid hL
  have HLN := Lib.hid hz.len
  have HZ := Lib.hid hz
  clear hL hz h0
  go_enter Tryd.func15, Tryd.ntmps15
  go_wp2_with fail
  go_at_call 13
  refine (new_b m hm L HL _).mono ?_
  rintro e w2 ⟨rfl, hc, hb⟩
  have HB := Lib.hid (Below.trans ((Below.refl _ _).alloc (Nat.le_refl _) _) (hb.mono (by simp)))
  have HR := Lib.hid (Cs.next (Cs.new w #[.int .i64 0, .slice none 0 0] 24) hb)
  have hc' : Cs w2 (w.heap.size + 1 + 1) (vals (List.replicate L 0)) := by simpa using hc
  rw [rep_mk HL.out] at hc'
  clear hb hc
  have hs := HB.out.size
  have hlt := HR.out.lt
  have hlc := hc'.lt
  have HC := Lib.hid hc'
  clear hc'
  go_wp2_with fail
  go_loopw [21] (fun v wr => ∃ k : Nat, k ≤ l ∧ v = .int .i64 k ∧ Hid (∀ j, j < k → 0 ≤ zs.getD j 0 ∧ zs.getD j 0 < m) ∧ Hid (Cs wr w.heap.size [.int .i64 0, .slice none 0 0]) ∧ Hid (Cs wr w2.heap.size [.int .i64 m, .slice (some ⟨w.heap.size + 1 + 1, 0, none⟩) L L]) ∧ Hid (Cs wr (w.heap.size + 1 + 1) (vals (Bs.mk m fun i => (zs.take k).contains (i : Int)))) ∧ Hid (Below w.heap.size w wr)) (fun v _ => l - (intOf v).toNat)
  case atStart => exact ⟨0, by omega, rfl, fun j hj => absurd hj (by omega), HR.out.alloc _, Cs.new _ _ _, HC.out.alloc _, HB.out.alloc HB.out.size _⟩
  case round =>
    clear HR HC HB
    obtain ⟨k, hk, rfl, HK, HR, HS, HC, HB⟩ := hrel
    have r0 := HR.out.at 0 _ rfl
    have r1 := HR.out.at 1 _ rfl
    have f0 := HR.out.free 0
    have f1 := HR.out.free 1
    have s0 := HS.out.at 0 _ rfl
    have s1 := HS.out.at 1 _ rfl
    have hsl := HS.out.lt
    by_cases hlt : k < l
    · obtain ⟨g, f, hA, hg, hzc⟩ := (HZ.out.below HB.out).mem (by omega)
      subst hA
      have hcell := hzc k hlt
      obtain ⟨z, hzz⟩ : ∃ z, zs.getD k 0 = z := ⟨_, rfl⟩
      rw [hzz] at hcell
      have hmem : z ∈ zs := by rw [← hzz]; exact getD_mem (by rw [HLN.out]; exact hlt)
      clear hzc
      by_cases hz0 : z < 0
      · have hR : R = (0, [], 3) := by rw [← H.out]; unfold ofR; rw [if_pos (.inr (.inr ⟨z, hmem, .inl hz0⟩))]
        subst hR
        clear HK HC
        go_wp2_with fail
        obtain ⟨k0, k1⟩ := two_cells HR.out (.int .i64 0) (.slice none 0 0)
        refine bodyPost_ret (v := .tuple #[.agg #[.int .i64 0, .slice none 0 0], .int .i64 3]) (by simp [results, Tryd.results15, go_sem, k0, k1]) rfl ?_
        exact post_bad rfl ((HB.out.setCell (Nat.le_refl _) _).setCell (Nat.le_refl _) _)
      · obtain ⟨i, rfl⟩ : ∃ i : Nat, z = i := ⟨z.toNat, by omega⟩
        by_cases him : m ≤ i
        · have hR : R = (0, [], 3) := by rw [← H.out]; unfold ofR; rw [if_pos (.inr (.inr ⟨_, hmem, .inr (by omega)⟩))]
          subst hR
          have him' : (m : Int) ≤ (i : Int) := by omega
          clear HK HC hz0
          go_wp2_with fail
          obtain ⟨k0, k1⟩ := two_cells HR.out (.int .i64 0) (.slice none 0 0)
          refine bodyPost_ret (v := .tuple #[.agg #[.int .i64 0, .slice none 0 0], .int .i64 3]) (by simp [results, Tryd.results15, go_sem, k0, k1]) rfl ?_
          exact post_bad rfl ((HB.out.setCell (Nat.le_refl _) _).setCell (Nat.le_refl _) _)
        · have him' : (i : Int) < (m : Int) := by omega
          have hix : i / 64 < L := by have := HL.out; omega
          have hix' : (i : Int) / 64 < (L : Int) := by omega
          have hwc := HC.out.at (i / 64) _ (vals_get _ (i / 64) (by rw [Bs.mk_len, HL.out]; exact hix))
          have hwf := HC.out.free (i / 64)
          have hwl := HC.out.lt
          have hxl := Bs.mk_fits m (fun i => (zs.take k).contains (i : Int)) (i / 64)
          obtain ⟨x, hx⟩ : ∃ x, (Bs.mk m fun i => (zs.take k).contains (i : Int)).getD (i / 64) 0 = x := ⟨_, rfl⟩
          rw [hx] at hwc hxl
          have HK' : Hid (∀ j, j < k + 1 → 0 ≤ zs.getD j 0 ∧ zs.getD j 0 < m) := fun j hj => by
            by_cases hjk : j = k
            · subst hjk; rw [hzz]; omega
            · exact HK.out j (by omega)
          clear HK hz0
          go_wp2_with fail
          go_region
          go_wp2_with fail
          rw [or_word x (i % 64) hxl (by omega)]
          have HC' := HC.out.set (i / 64) (.int .u64 (x ||| 2 ^ (i % 64) : Nat)) (by rw [vals_len, Bs.mk_len, HL.out]; exact hix)
          rw [vals_set, ← hx, set_mk hm _ i (by omega), take_contains zs k (by rw [HLN.out]; exact hlt) i hzz m, hx] at HC'
          go_roundw
          case rel => exact ⟨k + 1, by omega, by go_num, HK', (HR.out.other (by show _ + 1 + 1 ≠ _; omega) _).drew, (HS.out.other (by show _ + 1 + 1 ≠ _; omega) _).drew, HC'.drew, (HB.out.setCell (by show _ ≤ _ + 1 + 1; omega) _).drew⟩
          case measure => simp [intOf]; omega
    · obtain rfl : k = l := by omega
      rw [List.take_of_length_le (by rw [HLN.out]; exact Nat.le_refl _)] at HC
      have hR : R = ((m : Int), (Bs.mk m fun i => zs.contains (i : Int)), 0) := by
        rw [← H.out]
        unfold ofR
        rw [if_neg, Int.toNat_natCast]
        rintro (h | h | ⟨z, hz, h⟩)
        · omega
        · omega
        · obtain ⟨j, hj, rfl⟩ := List.mem_iff_getElem.1 hz
          have := HK.out j (by rw [HLN.out] at hj; exact hj)
          rw [List.getD_eq_getElem?_getD, List.getElem?_eq_getElem hj, Option.getD_some] at this
          omega
      subst hR
      clear HK
      go_wp2_with fail
      obtain ⟨k0, k1⟩ := two_cells HR.out (.int .i64 m) (.slice (some ⟨w.heap.size + 1 + 1, 0, none⟩) L L)
      refine bodyPost_ret (v := .tuple #[.agg #[.int .i64 m, .slice (some ⟨w.heap.size + 1 + 1, 0, none⟩) L L], .int .i64 0]) (by simp [results, Tryd.results15, go_sem, k0, k1]) rfl ?_
      have hlen : (Bs.mk m fun i => zs.contains (i : Int)).length = L := by rw [Bs.mk_len, HL.out]
      refine ⟨⟨some ⟨w.heap.size + 1 + 1, 0, none⟩, L, ?_, ?_⟩, (HB.out.setCell (Nat.le_refl _) _).setCell (Nat.le_refl _) _⟩
      · show _ = Ending.returned (.tuple #[.agg #[_, .slice _ (Bs.mk m fun i => zs.contains (i : Int)).length _], _])
        rw [hlen]
      · show Ow _ _ _ (Bs.mk m fun i => zs.contains (i : Int)).length _ _
        rw [hlen]
        have hfit := Bs.mk_fits m fun i => zs.contains (i : Int)
        have hLm : L ≤ maxLen := by have := HL.out; unfold maxLen; omega
        have hC2 := (HC.out.other (p := ⟨w.heap.size, 0, none⟩) (by show w.heap.size ≠ _; omega) (.int .i64 m)).other (p := ⟨w.heap.size, 1, none⟩) (by show w.heap.size ≠ _; omega) (.slice (some ⟨w.heap.size + 1 + 1, 0, none⟩) L L)
        refine ⟨hlen, Nat.le_refl _, hLm, hfit, fun _ => ⟨w.heap.size + 1 + 1, rfl, by omega, hC2⟩⟩
end Go.Proofs.YtpapbpekihgnlaaDoor
