/-
  Texts of cost models: the walk over the reference's Print.
-/
import Derived.Test.YthlhicegchkjjaaGreatDoorCtO
import Derived.Deep.RegionHeld3
namespace Go.Proofs.YthlhicegchkjjaaGreatDoor
open Go.RowKit

/-- The first k pieces, joined. -/
def textU (v : List Nat) (k : Nat) : List UInt8 := textT 0 1 ((List.range k).map (pieceT v))
theorem textU_one (v : List Nat) (k : Nat) : textU v (k + 1) = (if k = 0 then [] else textU v k ++ [44, 32]) ++ pieceT v k := by
  unfold textU
  rw [List.range_succ, List.map_append, List.map_singleton]
  by_cases h : k = 0
  · subst h; rfl
  · rw [if_neg h, textT_snoc 0 1 _ _ (by simpa using h)]
    rfl
set_option maxRecDepth 100000 in
set_option maxHeartbeats 8000000 in
theorem rprint_b (C : CM) (r : ByteArray) (kc : Int) (H : Hid (printP C = (r.data.toList, kc))) (w : World) :
    Calls Tryz.prog 7 #[.agg #[.int .i64 C.c0, .int .i64 C.c1, .int .i64 C.c2, .int .i64 C.c3, .int .i64 C.c4, .int .i64 C.c5, .int .i64 C.c6, .int .i64 C.c7, .int .i64 C.c8, .int .i64 C.c9, .int .i64 C.c10, .int .i64 C.c11, .int .i64 C.c12]] w fun e w' => e = .returned (.tuple #[.string r, .int .i64 kc]) ∧ Below w.heap.size w w' := by
  have HPP : Hid (Cs (w.alloc (.cells #[.int .i64 C.c0, .int .i64 C.c1, .int .i64 C.c2, .int .i64 C.c3, .int .i64 C.c4, .int .i64 C.c5, .int .i64 C.c6, .int .i64 C.c7, .int .i64 C.c8, .int .i64 C.c9, .int .i64 C.c10, .int .i64 C.c11, .int .i64 C.c12] 23)) w.heap.size [.int .i64 C.c0, .int .i64 C.c1, .int .i64 C.c2, .int .i64 C.c3, .int .i64 C.c4, .int .i64 C.c5, .int .i64 C.c6, .int .i64 C.c7, .int .i64 C.c8, .int .i64 C.c9, .int .i64 C.c10, .int .i64 C.c11, .int .i64 C.c12] ∧ Below w.heap.size w (w.alloc (.cells #[.int .i64 C.c0, .int .i64 C.c1, .int .i64 C.c2, .int .i64 C.c3, .int .i64 C.c4, .int .i64 C.c5, .int .i64 C.c6, .int .i64 C.c7, .int .i64 C.c8, .int .i64 C.c9, .int .i64 C.c10, .int .i64 C.c11, .int .i64 C.c12] 23))) := Lib.hid ⟨Cs.new _ _ _, (Below.refl _ _).alloc (Nat.le_refl _) _⟩
  go_enter Tryz.func7, Tryz.ntmps7
  go_upto_region 1 with fail
  obtain ⟨w1, hw1⟩ : ∃ z, w.alloc (.cells #[.int .i64 C.c0, .int .i64 C.c1, .int .i64 C.c2, .int .i64 C.c3, .int .i64 C.c4, .int .i64 C.c5, .int .i64 C.c6, .int .i64 C.c7, .int .i64 C.c8, .int .i64 C.c9, .int .i64 C.c10, .int .i64 C.c11, .int .i64 C.c12] 23) = z := ⟨_, rfl⟩
  obtain ⟨p, hp⟩ : ∃ z, w.heap.size = z := ⟨_, rfl⟩
  have HPP : Hid (Cs w1 p [.int .i64 C.c0, .int .i64 C.c1, .int .i64 C.c2, .int .i64 C.c3, .int .i64 C.c4, .int .i64 C.c5, .int .i64 C.c6, .int .i64 C.c7, .int .i64 C.c8, .int .i64 C.c9, .int .i64 C.c10, .int .i64 C.c11, .int .i64 C.c12] ∧ Below w.heap.size w w1) := Lib.hid ⟨by have := HPP.out.1; rw [hw1, hp] at this; exact this, by have := HPP.out.2; rw [hw1] at this; exact this⟩
  rw [hw1, hp]
  clear hw1 hp
  have c0 := HPP.out.1.at 0 _ rfl
  have c1 := HPP.out.1.at 1 _ rfl
  have c2 := HPP.out.1.at 2 _ rfl
  have c3 := HPP.out.1.at 3 _ rfl
  have c4 := HPP.out.1.at 4 _ rfl
  have c5 := HPP.out.1.at 5 _ rfl
  have c6 := HPP.out.1.at 6 _ rfl
  have c7 := HPP.out.1.at 7 _ rfl
  have c8 := HPP.out.1.at 8 _ rfl
  have c9 := HPP.out.1.at 9 _ rfl
  have c10 := HPP.out.1.at 10 _ rfl
  have c11 := HPP.out.1.at 11 _ rfl
  have c12 := HPP.out.1.at 12 _ rfl
  rcases C.chk_cases with ⟨h0, hok⟩ | h3
  case inr =>
    have hr := H.out
    unfold printP at hr
    rw [if_neg (by rw [h3]; decide)] at hr
    simp only [Prod.mk.injEq] at hr
    obtain ⟨hr1, rfl⟩ := hr
    obtain rfl : r = ⟨#[]⟩ := bytes_eq hr1.symm
    have HR := Lib.hid h3
    clear H hr1 h3
    go_wp2_with (first | (go_at_call 10; refine (rcheckC_b C 3 HR _).mono ?_; rintro e w2 ⟨rfl, hb⟩; have HB2 : Hid (Below w.heap.size w w2) := Lib.hid (HPP.out.2.trans (hb.mono HPP.out.2.size)); clear hb) | fail)
    go_returns
    exact ⟨rfl, HB2.out⟩
  have hr := H.out
  unfold printP at hr
  rw [if_pos h0] at hr
  simp only [Prod.mk.injEq] at hr
  obtain ⟨hr1, rfl⟩ := hr
  have HR := Lib.hid h0
  have HOK := Lib.hid hok
  have HRT := Lib.hid hr1
  have HVL := Lib.hid (nats_le hok)
  clear H h0 hok hr1
  go_upto_region 5 with (first
    | (go_at_call 10; refine (rcheckC_b C 0 HR _).mono ?_; rintro e w2 ⟨rfl, hb⟩; have HB2 : Hid (Below w.heap.size w w2) := Lib.hid (HPP.out.2.trans (hb.mono HPP.out.2.size)); have HC2 := Lib.hid (HPP.out.1.next hb); clear hb; clear c0 c1 c2 c3 c4 c5 c6 c7 c8 c9 c10 c11 c12; have c0 := HC2.out.at 0 _ rfl; have c1 := HC2.out.at 1 _ rfl; have c2 := HC2.out.at 2 _ rfl; have c3 := HC2.out.at 3 _ rfl; have c4 := HC2.out.at 4 _ rfl; have c5 := HC2.out.at 5 _ rfl; have c6 := HC2.out.at 6 _ rfl; have c7 := HC2.out.at 7 _ rfl; have c8 := HC2.out.at 8 _ rfl; have c9 := HC2.out.at 9 _ rfl; have c10 := HC2.out.at 10 _ rfl; have c11 := HC2.out.at 11 _ rfl; have c12 := HC2.out.at 12 _ rfl)
    | (go_at_call 13; refine (rlist_b C _).mono ?_; rintro e w3 ⟨⟨v, rfl, hl⟩, hb⟩; have HL3 := Lib.hid hl; have HB3 : Hid (Below w.heap.size w w3) := Lib.hid (HB2.out.trans (hb.mono HB2.out.size)); clear hb hl)
    | (go_at_call 12; refine (rnames_b _).mono ?_; rintro e w4 ⟨g, rfl, _, hc, hb⟩; have HN4 := Lib.hid hc; have HB34 := Lib.hid hb; have HB4 : Hid (Below w.heap.size w w4) := Lib.hid (HB3.out.trans (hb.mono HB3.out.size)); clear hb hc) | fail)
  clear c0 c1 c2 c3 c4 c5 c6 c7 c8 c9 c10 c11 c12
  obtain ⟨gl, fl, cl, hvl, hgl, hcl⟩ := HL3.out
  subst hvl
  have HL4 : Hid (gl < w4.heap.size ∧ ∀ j, j < 13 → w4.cell? ⟨gl, fl + j, none⟩ = some (.int .i64 (C.get j))) := Lib.hid ⟨Nat.lt_of_lt_of_le hgl HB34.out.size, fun j hj => (HB34.out.cell (p := ⟨gl, fl + j, none⟩) hgl).trans (hcl j hj)⟩
  have HW0 := Lib.hid (Below.refl w4.heap.size w4)
  clear hgl hcl
  go_wp2_with fail
  go_loopw [7, 8] (fun u v wr => ∃ (k : Nat) (s : ByteArray), k ≤ 13 ∧ v = .int .i64 k ∧ u = .string s ∧ Hid (s.data.toList = textU C.nats k) ∧ Hid (Below w4.heap.size w4 wr)) (fun _ v _ => 13 - (intOf v).toNat)
  case atStart => exact ⟨0, ⟨#[]⟩, by omega, rfl, rfl, Lib.hid rfl, HW0⟩
  case round =>
    clear HW0
    obtain ⟨k, s, hk, rfl, rfl, HT, HW⟩ := hrel
    have hk0 : (0 : Int) ≤ (k : Int) := by omega
    by_cases hlt : k < 13
    · have hlt' : (k : Int) < 13 := by omega
      obtain ⟨m, hm⟩ : ∃ m : Nat, C.get k = (m : Int) := ⟨(C.get k).toNat, by have := HOK.out k hlt; omega⟩
      have hm100 : m ≤ 100 := by have := HOK.out k hlt; omega
      have hmn : C.nats.getD k 0 = m := by rw [nats_at C k hlt, hm]; omega
      obtain ⟨x, hx⟩ : ∃ x, nmB k = x := ⟨_, rfl⟩
      have hgs : g < wr.heap.size := Nat.lt_of_lt_of_le HN4.out.lt HW.out.size
      have hgls : gl < wr.heap.size := Nat.lt_of_lt_of_le HL4.out.1 HW.out.size
      have hc1 : wr.cell? ⟨g, k, none⟩ = some (.string x) := by rw [← hx]; exact (HW.out.cell (p := ⟨g, k, none⟩) HN4.out.lt).trans (HN4.out.at k _ (nmsL_at k hlt))
      have hc2 : wr.cell? ⟨gl, fl + k, none⟩ = some (.int .i64 m) := by rw [← hm]; exact (HW.out.cell (p := ⟨gl, fl + k, none⟩) HL4.out.1).trans (HL4.out.2 k hlt)
      have HSS : Hid (∀ w', Below wr.heap.size wr w' → w'.cell? ⟨g, k, none⟩ = some (.string x) ∧ w'.cell? ⟨gl, fl + k, none⟩ = some (.int .i64 m)) := Lib.hid fun w' hb => ⟨(hb.cell (p := ⟨g, k, none⟩) hgs).trans hc1, (hb.cell (p := ⟨gl, fl + k, none⟩) hgls).trans hc2⟩
      obtain ⟨s1, hs1⟩ := mk_bytes (if k = 0 then [] else s.data.toList ++ [44, 32])
      obtain ⟨z1, hz1⟩ := mk_bytes (s1.data.toList ++ x.data.toList)
      obtain ⟨z2, hz2⟩ := mk_bytes (z1.data.toList ++ [32])
      obtain ⟨d, hd⟩ := mk_bytes (decT m)
      obtain ⟨z3, hz3⟩ := mk_bytes (z2.data.toList ++ d.data.toList)
      have hz3e : z3.data.toList = textU C.nats (k + 1) := by
        rw [textU_one, hz3, hz2, hz1, hs1, hd, HT.out, List.append_assoc, List.append_assoc]
        congr 1
        unfold pieceT
        rw [hmn, ← hx, nmB_data]
        rfl
      have HZ3 := Lib.hid hz3e
      have hzl : z3.data.toList.length ≤ 200 := by rw [hz3e]; exact printT_len HVL.out (k + 1) (by omega)
      have hl2 : z2.data.toList.length ≤ 200 := by rw [hz3, List.length_append] at hzl; omega
      have hl1 : z1.data.toList.length ≤ 200 := by rw [hz2, List.length_append] at hl2; omega
      have hl0 : s1.data.toList.length ≤ 200 := by rw [hz1, List.length_append] at hl1; omega
      have ad1 := add_fact s1 x z1 hz1.symm (by omega)
      have ad2 := add_fact z1 ⟨#[32]⟩ z2 (by rw [hz2]) (by omega)
      have ad3 := add_fact z2 d z3 hz3.symm (by omega)
      have HD := Lib.hid hd
      by_cases hk00 : k = 0
      · obtain rfl : s = ⟨#[]⟩ := bytes_eq (by rw [HT.out, hk00]; rfl)
        obtain rfl : s1 = ⟨#[]⟩ := bytes_eq (by rw [hs1, if_pos hk00])
        clear hz3 hz2 hz1 hs1 hd hx hm hmn hzl hl2 hl1 hl0 hz3e HT hlt'
        subst hk00; have HSS : Hid (∀ w', Below wr.heap.size wr w' → w'.cell? ⟨g, 0, none⟩ = some (.string x) ∧ w'.cell? ⟨gl, fl, none⟩ = some (.int .i64 m)) := HSS
        go_upto_region 11 with fail
        go_region_held3 (fun W => W.cell? ⟨g, 0, none⟩ = some (.string x) ∧ W.cell? ⟨gl, fl, none⟩ = some (.int .i64 m)) (with_reducible first | exact HSS.out _ (Below.refl _ _).drew | exact HSS.out _ HB5.out) (first | (go_at_call 14; refine (num_c m hm100 d HD _).mono ?_; rintro e w5 ⟨rfl, hb⟩; have HB5 : Hid (Below wr.heap.size wr w5) := Lib.hid ((Below.refl _ _).drew.trans hb); clear hb))
        have HW5 := Lib.hid (HW.out.trans (HB5.out.mono HW.out.size))
        go_wp2_with fail
        go_roundw
        case rel => exact ⟨1, z3, by omega, rfl, rfl, HZ3, HW5⟩
        case measure => simp [intOf]
      · have ad0 := add_fact s ⟨#[44, 32]⟩ s1 (by rw [hs1, if_neg hk00]) (by omega)
        clear hz3 hz2 hz1 hs1 hd hx hm hmn hzl hl2 hl1 hl0 hz3e HT
        have hk2 : (0 : Int) < (k : Int) := by omega
        go_upto_region 11 with fail
        go_region_held3 (fun W => W.cell? ⟨g, k, none⟩ = some (.string x) ∧ W.cell? ⟨gl, fl + k, none⟩ = some (.int .i64 m)) (with_reducible first | exact HSS.out _ (Below.refl _ _).drew | exact HSS.out _ HB5.out) (first | (go_at_call 14; refine (num_c m hm100 d HD _).mono ?_; rintro e w5 ⟨rfl, hb⟩; have HB5 : Hid (Below wr.heap.size wr w5) := Lib.hid ((Below.refl _ _).drew.trans hb); clear hb))
        have HW5 := Lib.hid (HW.out.trans (HB5.out.mono HW.out.size))
        go_wp2_with fail
        go_roundw
        case rel => exact ⟨k + 1, z3, by omega, by go_num, rfl, HZ3, HW5⟩
        case measure => simp [intOf]; omega
    · obtain rfl : k = 13 := by omega
      obtain rfl : s = r := bytes_eq (by rw [HT.out, ← HRT.out]; rfl)
      have HB6 := Lib.hid (HB4.out.trans (HW.out.mono HB4.out.size))
      clear HT HRT
      go_wp2_with fail
      go_returns
      exact ⟨rfl, HB6.out⟩
end Go.Proofs.YthlhicegchkjjaaGreatDoor
