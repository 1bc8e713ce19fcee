/-
  The walk over PolicyBlanks.
-/
import Derived.Test.YtnipigninbeplaaDoorQoV
import Derived.Test.YtnipigninbeplaaDoorPm
namespace Go.Proofs.YtnipigninbeplaaDoor
open Go.RowKit

/-- Bytes in memory. -/
structure BOk (w : World) (A : Option Addr) (l c : Nat) (zs : List Nat) : Prop where
  len : zs.length = l
  cap : l ≤ c
  big : c ≤ maxLen
  sm : ∀ z ∈ zs, z < 256
  mem : 0 < l → ∃ g f, A = some ⟨g, f, none⟩ ∧ g < w.heap.size ∧ ∀ j (h : j < zs.length), w.cell? ⟨g, f + j, none⟩ = some (.int .u8 zs[j])
/-- The line before line j. -/
def kinF (zs : List Nat) (j : Nat) : List UInt8 := kindU (zs.getD (j % zs.length) 0)
theorem kinF_len (zs : List Nat) (j : Nat) : (kinF zs j).length ≤ 10 := kindU_len _
theorem kinF_flat (zs : List Nat) (j : Nat) : Flat (kinF zs j) := kindU_flat _
theorem kinF_nil (zs : List Nat) (h : zs.length = 0) (j : Nat) : kinF zs j = kindU 0 := by
  rw [List.length_eq_zero_iff] at h
  subst h
  rfl
theorem kinF_at (zs : List Nat) (j l : Nat) (hl : l = zs.length) (hj : j % l < l) : kinF zs j = kindU (zs[j % l]'(by omega)) := by
  subst hl
  unfold kinF
  rw [List.getD_eq_getElem?_getD, List.getElem?_eq_getElem hj]
  rfl
theorem kind_ix (k : Nat) : ∃ kb : ByteArray, kb.data.toList = kindU k ++ [10] ∧ ∀ wx, (Instr.index 39 (.agg #[.string ⟨#[10]⟩, .string ⟨#[32, 32, 32, 10]⟩, .string ⟨#[35, 32, 108, 101, 118, 101, 108, 115, 32, 120, 10]⟩, .string ⟨#[32, 32, 35, 10]⟩]) (.int .u8 ((k : Int) % 4))).run Tryd.prog wx = .ok (.string kb) wx := by
  unfold kindU
  by_cases h0 : k % 4 = 0
  · rw [if_pos h0, show ((k : Int) % 4) = 0 by omega]
    exact ⟨⟨#[10]⟩, rfl, fun wx => by kernel_rfl⟩
  · rw [if_neg h0]
    by_cases h1 : k % 4 = 1
    · rw [if_pos h1, show ((k : Int) % 4) = 1 by omega]
      exact ⟨⟨#[32, 32, 32, 10]⟩, rfl, fun wx => by kernel_rfl⟩
    · rw [if_neg h1]
      by_cases h2 : k % 4 = 2
      · rw [if_pos h2, show ((k : Int) % 4) = 2 by omega]
        exact ⟨⟨#[35, 32, 108, 101, 118, 101, 108, 115, 32, 120, 10]⟩, rfl, fun wx => by kernel_rfl⟩
      · rw [if_neg h2, show ((k : Int) % 4) = 3 by omega]
        exact ⟨⟨#[32, 32, 35, 10]⟩, rfl, fun wx => by kernel_rfl⟩
theorem kind_zero : ∃ kb : ByteArray, kb.data.toList = kindU 0 ++ [10] ∧ ∀ wx, (Instr.index 39 (.agg #[.string ⟨#[10]⟩, .string ⟨#[32, 32, 32, 10]⟩, .string ⟨#[35, 32, 108, 101, 118, 101, 108, 115, 32, 120, 10]⟩, .string ⟨#[32, 32, 35, 10]⟩]) (.int .u8 0)).run Tryd.prog wx = .ok (.string kb) wx := ⟨⟨#[10]⟩, rfl, fun wx => by kernel_rfl⟩
theorem slice_to (s : ByteArray) (a k : Nat) (h1 : a ≤ k + 1) (h2 : k + 1 ≤ s.size) (wx : World) : (Instr.slice 9 (.string s) (some (.int .i64 (a : Int))) (some (.int .i64 ((k : Int) + 1))) none).run Tryd.prog wx = .ok (.string (s.extract a (k + 1))) wx := by
  have := run_slice_string (P := Tryd.prog) (w := wx) 9 s .i64 .i64 (a : Int) ((k : Int) + 1) Tryd.underlying9 (by omega) (by omega) (by omega)
  rw [show ((k : Int) + 1).toNat = k + 1 by omega, Int.toNat_natCast] at this
  exact this
theorem slice_end (s : ByteArray) (a : Nat) (h1 : a ≤ s.size) (wx : World) : (Instr.slice 9 (.string s) (some (.int .i64 (a : Int))) none none).run Tryd.prog wx = .ok (.string (s.extract a s.size)) wx := by
  have := run_slice_string_from_if (P := Tryd.prog) (w := wx) 9 s .i64 (a : Int) Tryd.underlying9
  rw [if_pos ⟨by omega, by omega⟩, Int.toNat_natCast] at this
  exact this
set_option maxRecDepth 100000 in
set_option maxHeartbeats 8000000 in
theorem blanks_b (s : ByteArray) (hs : s.size ≤ maxLen) (A : Option Addr) (l c : Nat) (zs : List Nat) (m : Int) (w : World) (hm : w.cell? ⟨0, 0, none⟩ = some (.int .i64 m)) (hz : BOk w A l c zs) :
    Calls Tryd.prog 6 #[.string s, .slice A l c] w fun e w' => e = .returned (.bool true) ∧ Below w.heap.size w w' := by
  have HMB : Hid (∀ W, Below w.heap.size w W → W.cell? ⟨0, 0, none⟩ = some (.int .i64 m)) := Lib.hid (fun W hb => (hb.cell (p := ⟨0, 0, none⟩) (World.block_lt_of_cell? _ _ hm)).trans hm)
  have hs9 : s.size ≤ 9223372036854775807 := by unfold maxLen at hs; omega
  have hlc : l ≤ 9223372036854775807 := by have := hz.cap; have := hz.big; unfold maxLen at this; omega
  have HZL := Lib.hid hz.len
  have HZ := Lib.hid hz
  have HZS : Hid (∀ i (h : i < l), zs[i]'(by rw [HZL.out]; exact h) < 256) := Lib.hid (fun i h => hz.sm _ (List.getElem_mem _))
  clear hm hz hs
  go_enter Tryd.func6, Tryd.ntmps6
  go_upto_region 3 with (first | (go_at_call 8; refine (known_b m _ (HMB.out _ (Below.refl _ _))).mono ?_; rintro e w2 ⟨rfl, hb2⟩; have HB2 := Lib.hid hb2; clear hb2) | fail)
  by_cases hbig : 2000 < s.size
  · have hbi : (2000 : Int) < (s.size : Int) := by omega
    go_wp2_with fail
    go_ret
    exact ⟨rfl, HB2.out⟩
  have hbi : ¬ (2000 : Int) < (s.size : Int) := by omega
  obtain ⟨g, f, HZC⟩ : ∃ g f, Hid (0 < l → A = some ⟨g, f, none⟩ ∧ g < w2.heap.size) ∧ Hid (∀ i (h : i < l), w2.cell? ⟨g, f + i, none⟩ = some (.int .u8 ((zs[i]'(by rw [HZL.out]; exact h) : Nat) : Int))) := by
    by_cases h0 : 0 < l
    · obtain ⟨g, f, e, h1, h2⟩ := HZ.out.mem h0
      exact ⟨g, f, Lib.hid (fun _ => ⟨e, Nat.lt_of_lt_of_le h1 HB2.out.size⟩), Lib.hid (fun i h => (HB2.out.cell (p := ⟨g, f + i, none⟩) h1).trans (h2 i (by rw [HZL.out]; exact h)))⟩
    · exact ⟨0, 0, Lib.hid (fun h => absurd h h0), Lib.hid (fun i h => absurd h (by omega))⟩
  obtain ⟨HZA, HZC⟩ := HZC
  clear hbig
  go_wp2_with fail
  go_loop [5, 6, 7, 8] (fun o v u i => ∃ (ob : ByteArray) (j fm k : Nat), o = .string ob ∧ v = .int .i64 j ∧ u = .int .i64 fm ∧ i = .int .i64 k ∧ k ≤ s.size + 1 ∧
    Hid ((k ≤ s.size ∧ Bl s.data.toList (kinF zs) k fm j ob.data.toList) ∨ (k = s.size + 1 ∧ linS ob.data.toList = inter (kinF zs) 0 (linS s.data.toList) ∧ ob.data.toList.length ≤ s.size + 11 * j ∧ j ≤ 3000))) (fun _ _ _ i => s.size + 1 - (intOf i).toNat)
  case atStart => exact ⟨⟨#[]⟩, 0, 0, 0, rfl, rfl, rfl, rfl, by omega, Lib.hid (.inl ⟨by omega, Bl.zero _ _⟩)⟩
  case round =>
    obtain ⟨ob, j, fm, k, rfl, rfl, rfl, rfl, hk, HS⟩ := hrel
    have hk0 : (0 : Int) ≤ (k : Int) := by omega
    by_cases hkn : k = s.size + 1
    · have hki : ¬ ((k : Int) ≤ (s.size : Int)) := by omega
      obtain ⟨hl, hlen, hj3⟩ : linS ob.data.toList = inter (kinF zs) 0 (linS s.data.toList) ∧ ob.data.toList.length ≤ s.size + 11 * j ∧ j ≤ 3000 := by
        rcases HS.out with h | h
        · omega
        · exact h.2
      clear HS hk hkn
      by_cases h60 : 60 < j
      · have h6i : (60 : Int) < (j : Int) := by omega
        go_wp2_with fail
        go_ret
        exact ⟨rfl, HB2.out⟩
      · have h6i : ¬ (60 : Int) < (j : Int) := by omega
        obtain ⟨⟨⟨nn, ee⟩, q⟩, hr⟩ : ∃ r, parC s.data.toList = r := ⟨_, rfl⟩
        have HR := Lib.hid hr
        have HR2 : Hid (parC ob.data.toList = ((2 * nn, ee), q)) := Lib.hid (by
          have h := parC_inter (kinF zs) (fun i => kindU_skip _) s.data.toList ob.data.toList (by rw [← bsize_len]; omega) (by omega) hl
          rw [hr] at h
          exact h)
        have hn0 : 0 ≤ nn ∧ nn ≤ 3000 := by
          have h := parC_num s.data.toList
          rw [hr, ← bsize_len] at h
          simp only at h
          omega
        have HWF : Hid (∀ x ∈ q.order, (Lit.int .i64 x.1).wf = true ∧ (Lit.int .i64 x.2).wf = true) := Lib.hid (fun x hx => by
          have h := parC_od s.data.toList x (by rw [hr]; exact hx)
          exact ⟨wf_of h.1.1 h.1.2, wf_of h.2.1 h.2.2⟩)
        obtain ⟨hn0, hn1⟩ := hn0
        have HOZ : Hid (ob.size ≤ maxLen) := Lib.hid (by rw [bsize_len]; unfold maxLen; omega)
        have HSZ : Hid (s.size ≤ maxLen) := Lib.hid (by unfold maxLen; omega)
        clear hr hl hlen hj3 h60
        go_upto_region 24 with (first | (go_at_call 14; refine (parse_b s HSZ.out ((nn, ee), q) HR m _ (HMB.out _ HB2.out)).mono ?_; rintro e w3 ⟨hb3, An3, ln3, cn3, Ao3, lo3, co3, Ai3, li3, ci3, Ah3, lh3, ch3, he, hp3⟩; have he' : e = .returned (.tuple #[.agg #[.slice An3 ln3 cn3, .slice Ao3 lo3 co3, .slice Ai3 li3 ci3, .slice Ah3 lh3 ch3, .int .i64 q.obs, .bool q.timed], .int .i64 nn, .int .i64 ee]) := he; subst he'; have HE3 := Lib.hid hp3; have HB3 := Lib.hid (HB2.out.trans (hb3.mono HB2.out.size)); clear hb3 hp3 he) | fail)
        have HC4 := Lib.hid (Cs.new w3 #[.slice An3 ln3 cn3, .slice Ao3 lo3 co3, .slice Ai3 li3 ci3, .slice Ah3 lh3 ch3, .int .i64 q.obs, .bool q.timed] 26)
        have HB4 := Lib.hid (HB3.out.alloc HB3.out.size (.cells #[.slice An3 ln3 cn3, .slice Ao3 lo3 co3, .slice Ai3 li3 ci3, .slice Ah3 lh3 ch3, .int .i64 q.obs, .bool q.timed] 26))
        have HE4 := Lib.hid (HE3.out.below ((Below.refl _ _).alloc (Nat.le_refl _) (.cells #[.slice An3 ln3 cn3, .slice Ao3 lo3 co3, .slice Ai3 li3 ci3, .slice Ah3 lh3 ch3, .int .i64 q.obs, .bool q.timed] 26)))
        obtain ⟨w4, hw4⟩ : ∃ z, w3.alloc (.cells #[.slice An3 ln3 cn3, .slice Ao3 lo3 co3, .slice Ai3 li3 ci3, .slice Ah3 lh3 ch3, .int .i64 q.obs, .bool q.timed] 26) = z := ⟨_, rfl⟩
        obtain ⟨q4, hq4⟩ : ∃ z, w3.heap.size = z := ⟨_, rfl⟩
        rw [hw4, hq4] at HC4
        rw [hw4] at HB4 HE4
        rw [hw4, hq4]
        clear hw4 hq4 HE3 HB3
        go_upto_region 25 with (first | (go_at_call 14; refine (parse_b ob HOZ.out ((2 * nn, ee), q) HR2 m _ (HMB.out _ HB4.out)).mono ?_; rintro e w5 ⟨hb5, An5, ln5, cn5, Ao5, lo5, co5, Ai5, li5, ci5, Ah5, lh5, ch5, he, hp5⟩; obtain rfl : ln3 = ln5 := HE4.out.n.len.symm.trans hp5.n.len; obtain rfl : lo3 = lo5 := HE4.out.o.len.symm.trans hp5.o.len; obtain rfl : li3 = li5 := HE4.out.i.len.symm.trans hp5.i.len; obtain rfl : lh3 = lh5 := HE4.out.h.len.symm.trans hp5.h.len; have he' : e = .returned (.tuple #[.agg #[.slice An5 ln3 cn5, .slice Ao5 lo3 co5, .slice Ai5 li3 ci5, .slice Ah5 lh3 ch5, .int .i64 q.obs, .bool q.timed], .int .i64 (2 * nn), .int .i64 ee]) := he; subst he'; have HE5 := Lib.hid hp5; have HX5 := Lib.hid (HE4.out.below hb5); have HC5 := Lib.hid (HC4.out.next hb5); have HB5 := Lib.hid (HB4.out.trans (hb5.mono HB4.out.size)); clear hb5 hp5 he) | fail)
        have HC6 := Lib.hid (HC5.out.alloc (.cells #[.slice An5 ln3 cn5, .slice Ao5 lo3 co5, .slice Ai5 li3 ci5, .slice Ah5 lh3 ch5, .int .i64 q.obs, .bool q.timed] 26))
        have HD6 := Lib.hid (Cs.new w5 #[.slice An5 ln3 cn5, .slice Ao5 lo3 co5, .slice Ai5 li3 ci5, .slice Ah5 lh3 ch5, .int .i64 q.obs, .bool q.timed] 26)
        have HB6 := Lib.hid (HB5.out.alloc HB5.out.size (.cells #[.slice An5 ln3 cn5, .slice Ao5 lo3 co5, .slice Ai5 li3 ci5, .slice Ah5 lh3 ch5, .int .i64 q.obs, .bool q.timed] 26))
        have HE6 := Lib.hid (HE5.out.below ((Below.refl _ _).alloc (Nat.le_refl _) (.cells #[.slice An5 ln3 cn5, .slice Ao5 lo3 co5, .slice Ai5 li3 ci5, .slice Ah5 lh3 ch5, .int .i64 q.obs, .bool q.timed] 26)))
        have HX6 := Lib.hid (HX5.out.below ((Below.refl _ _).alloc (Nat.le_refl _) (.cells #[.slice An5 ln3 cn5, .slice Ao5 lo3 co5, .slice Ai5 li3 ci5, .slice Ah5 lh3 ch5, .int .i64 q.obs, .bool q.timed] 26)))
        obtain ⟨w6, hw6⟩ : ∃ z, w5.alloc (.cells #[.slice An5 ln3 cn5, .slice Ao5 lo3 co5, .slice Ai5 li3 ci5, .slice Ah5 lh3 ch5, .int .i64 q.obs, .bool q.timed] 26) = z := ⟨_, rfl⟩
        obtain ⟨q6, hq6⟩ : ∃ z, w5.heap.size = z := ⟨_, rfl⟩
        rw [hw6] at HC6 HB6 HE6 HX6
        rw [hw6, hq6] at HD6
        rw [hw6, hq6]
        clear hw6 hq6 HC5 HB5 HE5 HX5
        obtain ⟨c0, c1, c2, c3, c4, c5⟩ := HC6.out.six
        obtain ⟨d0, d1, d2, d3, d4, d5⟩ := HD6.out.six
        go_wp2_with (first | (go_at_call 16; refine (same_b q ln3 lo3 li3 lh3 An3 cn3 Ao3 co3 Ai3 ci3 Ah3 ch3 An5 cn5 Ao5 co5 Ai5 ci5 Ah5 ch5 _ HX6.out HE6.out HWF.out).mono ?_; rintro e w8 ⟨rfl, hb8⟩; have HB9 := Lib.hid (HB6.out.trans (hb8.mono HB6.out.size)); clear hb8) | fail)
        go_ret
        exact ⟨rfl, HB9.out⟩
    · have hki : (k : Int) ≤ (s.size : Int) := by omega
      have HB : Hid (Bl s.data.toList (kinF zs) k fm j ob.data.toList) := Lib.hid (by
        rcases HS.out with h | h
        · exact h.2
        · exact absurd h.1 hkn)
      have hfm := HB.out.lo
      have hjf := HB.out.jl
      clear HS hk
      by_cases hlt : k < s.size
      · have hki2 : (k : Int) < (s.size : Int) := by omega
        have HK0 : Hid (s.data.toList[k]? = some s[k]) := Lib.hid (by rw [List.getElem?_eq_getElem (by rw [← bsize_len]; exact hlt)]; rfl)
        by_cases h10 : s[k].toNat = 10
        · have HK : Hid (s.data.toList[k]? = some 10) := Lib.hid (by rw [HK0.out, show s[k] = 10 from UInt8.toNat_inj.1 (h10.trans rfl)])
          have h10i : (s[k].toNat : Int) = 10 := by omega
          clear h10
          by_cases hl0 : 0 < l
          · obtain ⟨rfl, hg⟩ := HZA.out hl0
            have hjm : j % l < l := Nat.mod_lt _ (by omega)
            have k0 := HZC.out (j % l) hjm
            have HF : Hid (kinF zs j = kindU (zs[j % l]'(by rw [HZL.out]; exact hjm))) := Lib.hid (kinF_at zs j l HZL.out.symm hjm)
            have hk256 := HZS.out (j % l) hjm
            obtain ⟨ka, hka⟩ : ∃ z, zs[j % l]'(by rw [HZL.out]; exact hjm) = z := ⟨_, rfl⟩
            rw [hka] at k0 HF hk256
            obtain ⟨kb, hkb, hix⟩ := kind_ix ka
            have hj0 : (0 : Int) ≤ ((j % l : Nat) : Int) := by omega
            have hj1 : ((j % l : Nat) : Int) < (l : Int) := by omega
            have hll : (0 : Int) < (l : Int) := by omega
            obtain ⟨jm, hjm2⟩ : ∃ z, j % l = z := ⟨_, rfl⟩
            have hjm3 : (j : Int) % (l : Int) = (jm : Int) := by rw [← hjm2]; omega
            rw [hjm2] at hj0 hj1 k0
            clear hka hjm hjm2
            obtain ⟨d, hd⟩ : ∃ d, s.extract fm (k + 1) = d := ⟨_, rfl⟩
            obtain ⟨o1, ho1⟩ := mk_bytes (ob.data.toList ++ kb.data.toList)
            obtain ⟨o2, ho2⟩ := mk_bytes (o1.data.toList ++ d.data.toList)
            have HD : Hid (d.data.toList = (s.data.toList.drop fm).take (k + 1 - fm)) := Lib.hid (by rw [← hd]; exact Lib.extract_data s fm (k + 1))
            have hsl := hd ▸ slice_to s fm k (by omega) (by omega)
            have HO2 : Hid (o2.data.toList = ob.data.toList ++ (kinF zs j ++ [10]) ++ (s.data.toList.drop fm).take (k + 1 - fm)) := Lib.hid (by rw [ho2, ho1, HF.out, HD.out, hkb])
            have HN : Hid (Bl s.data.toList (kinF zs) (k + 1) (k + 1) (j + 1) o2.data.toList) := Lib.hid (by rw [HO2.out]; exact HB.out.cut HK.out (fun i => kinF_len zs i))
            have ha1 := add_fact ob kb o1 ho1.symm (by rw [ho1, hkb]; have h1 := HB.out.len; have h2 := kindU_len ka; simp only [List.length_append, List.length_singleton]; omega)
            have ha2 := add_fact o1 d o2 ho2.symm (by have := HN.out.len; omega)
            clear ho1 ho2 hd hkb
            go_wp2_with fail
            go_round
            case rel => exact ⟨o2, j + 1, k + 1, k + 1, rfl, by go_num, by go_num, by go_num, by omega, Lib.hid (.inl ⟨by omega, HN.out⟩)⟩
            case measure => simp [intOf]; omega
          · skip
            have HF : Hid (kinF zs j = kindU 0) := Lib.hid (kinF_nil zs (by rw [HZL.out]; omega) j)
            have hl0 : ¬ ((0 : Int) < (l : Int)) := by omega
            obtain ⟨kb, hkb, hix⟩ := kind_zero
            obtain ⟨d, hd⟩ : ∃ d, s.extract fm (k + 1) = d := ⟨_, rfl⟩
            obtain ⟨o1, ho1⟩ := mk_bytes (ob.data.toList ++ kb.data.toList)
            obtain ⟨o2, ho2⟩ := mk_bytes (o1.data.toList ++ d.data.toList)
            have HD : Hid (d.data.toList = (s.data.toList.drop fm).take (k + 1 - fm)) := Lib.hid (by rw [← hd]; exact Lib.extract_data s fm (k + 1))
            have hsl := hd ▸ slice_to s fm k (by omega) (by omega)
            have HO2 : Hid (o2.data.toList = ob.data.toList ++ (kinF zs j ++ [10]) ++ (s.data.toList.drop fm).take (k + 1 - fm)) := Lib.hid (by rw [ho2, ho1, HF.out, HD.out, hkb])
            have HN : Hid (Bl s.data.toList (kinF zs) (k + 1) (k + 1) (j + 1) o2.data.toList) := Lib.hid (by rw [HO2.out]; exact HB.out.cut HK.out (fun i => kinF_len zs i))
            have ha1 := add_fact ob kb o1 ho1.symm (by rw [ho1, hkb]; have h1 := HB.out.len; have h2 := kindU_len 0; simp only [List.length_append, List.length_singleton]; omega)
            have ha2 := add_fact o1 d o2 ho2.symm (by have := HN.out.len; omega)
            clear ho1 ho2 hd hkb
            go_wp2_with fail
            go_round
            case rel => exact ⟨o2, j + 1, k + 1, k + 1, rfl, by go_num, by go_num, by go_num, by omega, Lib.hid (.inl ⟨by omega, HN.out⟩)⟩
            case measure => simp [intOf]; omega
        · have HN : Hid (Bl s.data.toList (kinF zs) (k + 1) fm j ob.data.toList) := Lib.hid (HB.out.skip HK0.out (fun e => h10 (by rw [e]; rfl)))
          have h10i : ¬ (s[k].toNat : Int) = 10 := by omega
          have h10b : ((s[k].toNat : Int) != 10) = true := by simpa using h10i
          clear h10
          go_wp2_with fail
          go_round
          case rel => exact ⟨ob, j, fm, k + 1, rfl, rfl, rfl, by go_num, by omega, Lib.hid (.inl ⟨by omega, HN.out⟩)⟩
          case measure => simp [intOf]; omega
      · have hki2 : ¬ ((k : Int) < (s.size : Int)) := by omega
        obtain rfl : k = s.size := by omega
        by_cases hl0 : 0 < l
        · obtain ⟨rfl, hg⟩ := HZA.out hl0
          have hjm : j % l < l := Nat.mod_lt _ (by omega)
          have k0 := HZC.out (j % l) hjm
          have HF : Hid (kinF zs j = kindU (zs[j % l]'(by rw [HZL.out]; exact hjm))) := Lib.hid (kinF_at zs j l HZL.out.symm hjm)
          have hk256 := HZS.out (j % l) hjm
          obtain ⟨ka, hka⟩ : ∃ z, zs[j % l]'(by rw [HZL.out]; exact hjm) = z := ⟨_, rfl⟩
          rw [hka] at k0 HF hk256
          obtain ⟨kb, hkb, hix⟩ := kind_ix ka
          have hj0 : (0 : Int) ≤ ((j % l : Nat) : Int) := by omega
          have hj1 : ((j % l : Nat) : Int) < (l : Int) := by omega
          have hll : (0 : Int) < (l : Int) := by omega
          obtain ⟨jm, hjm2⟩ : ∃ z, j % l = z := ⟨_, rfl⟩
          have hjm3 : (j : Int) % (l : Int) = (jm : Int) := by rw [← hjm2]; omega
          rw [hjm2] at hj0 hj1 k0
          clear hka hjm hjm2
          obtain ⟨d, hd⟩ : ∃ d, s.extract fm s.size = d := ⟨_, rfl⟩
          obtain ⟨o1, ho1⟩ := mk_bytes (ob.data.toList ++ kb.data.toList)
          obtain ⟨o2, ho2⟩ := mk_bytes (o1.data.toList ++ d.data.toList)
          have HD : Hid (d.data.toList = s.data.toList.drop fm) := Lib.hid (by rw [← hd]; exact Lib.extract_to_end s fm)
          have hsl := hd ▸ slice_end s fm (by omega)
          have HO2 : Hid (o2.data.toList = ob.data.toList ++ (kinF zs j ++ [10]) ++ s.data.toList.drop fm) := Lib.hid (by rw [ho2, ho1, HF.out, HD.out, hkb])
          have HN : Hid (linS o2.data.toList = inter (kinF zs) 0 (linS s.data.toList) ∧ o2.data.toList.length ≤ s.size + 11 * (j + 1)) := Lib.hid (by
            have hb := HB.out
            rw [bsize_len] at hb
            refine ⟨by rw [HO2.out]; exact hb.done (fun i => kinF_flat zs i), ?_⟩
            have h1 := hb.len
            have h2 := kinF_len zs j
            have h3 := hb.lo
            rw [HO2.out, bsize_len]
            simp only [List.length_append, List.length_singleton, List.length_drop]
            omega)
          have ha1 := add_fact ob kb o1 ho1.symm (by rw [ho1, hkb]; have h1 := HB.out.len; have h2 := kindU_len ka; simp only [List.length_append, List.length_singleton]; omega)
          have ha2 := add_fact o1 d o2 ho2.symm (by have := HN.out.2; omega)
          clear ho1 ho2 hd hkb
          go_wp2_with fail
          go_round
          case rel => exact ⟨o2, j + 1, s.size + 1, s.size + 1, rfl, by go_num, by go_num, by go_num, by omega, Lib.hid (.inr ⟨by omega, HN.out.1, HN.out.2, by omega⟩)⟩
          case measure => simp [intOf]
        · skip
          have HF : Hid (kinF zs j = kindU 0) := Lib.hid (kinF_nil zs (by rw [HZL.out]; omega) j)
          have hl0 : ¬ ((0 : Int) < (l : Int)) := by omega
          obtain ⟨kb, hkb, hix⟩ := kind_zero
          obtain ⟨d, hd⟩ : ∃ d, s.extract fm s.size = d := ⟨_, rfl⟩
          obtain ⟨o1, ho1⟩ := mk_bytes (ob.data.toList ++ kb.data.toList)
          obtain ⟨o2, ho2⟩ := mk_bytes (o1.data.toList ++ d.data.toList)
          have HD : Hid (d.data.toList = s.data.toList.drop fm) := Lib.hid (by rw [← hd]; exact Lib.extract_to_end s fm)
          have hsl := hd ▸ slice_end s fm (by omega)
          have HO2 : Hid (o2.data.toList = ob.data.toList ++ (kinF zs j ++ [10]) ++ s.data.toList.drop fm) := Lib.hid (by rw [ho2, ho1, HF.out, HD.out, hkb])
          have HN : Hid (linS o2.data.toList = inter (kinF zs) 0 (linS s.data.toList) ∧ o2.data.toList.length ≤ s.size + 11 * (j + 1)) := Lib.hid (by
            have hb := HB.out
            rw [bsize_len] at hb
            refine ⟨by rw [HO2.out]; exact hb.done (fun i => kinF_flat zs i), ?_⟩
            have h1 := hb.len
            have h2 := kinF_len zs j
            have h3 := hb.lo
            rw [HO2.out, bsize_len]
            simp only [List.length_append, List.length_singleton, List.length_drop]
            omega)
          have ha1 := add_fact ob kb o1 ho1.symm (by rw [ho1, hkb]; have h1 := HB.out.len; have h2 := kindU_len 0; simp only [List.length_append, List.length_singleton]; omega)
          have ha2 := add_fact o1 d o2 ho2.symm (by have := HN.out.2; omega)
          clear ho1 ho2 hd hkb
          go_wp2_with fail
          go_round
          case rel => exact ⟨o2, j + 1, s.size + 1, s.size + 1, rfl, by go_num, by go_num, by go_num, by omega, Lib.hid (.inr ⟨by omega, HN.out.1, HN.out.2, by omega⟩)⟩
          case measure => simp [intOf]
end Go.Proofs.YtnipigninbeplaaDoor
