/-
  Texts of cost models: the walk over the program's Print.
-/
import Derived.Test.YthlhicegchkjjaaGreatDoorCtL
import Derived.Deep.RegionLaw
import Derived.Deep.RegionHeldLaw
namespace Go.Proofs.YthlhicegchkjjaaGreatDoor
open Go.RowKit

theorem own_fr {S : Nat → Prop} {W W' : World} {B : Nat} {E : TypeId} {V : Value} {n : Nat} {xs : List Value} (h : W.ownsRow B E 1 V n xs) (hf : Fr S W W') (hs : ∀ k, V.ownBlock = some k → ¬ S k) : W'.ownsRow B E 1 V n xs := by
  refine ⟨h.1, ?_⟩
  rcases h.2 with hn | ⟨g, cap, cur, rfl, hB, hgg, rest⟩
  · exact .inl hn
  · refine .inr ⟨g, cap, cur, rfl, hB, ?_, rest⟩
    rw [hf.block g (Array.getElem?_eq_some_iff.1 hgg).1 (hs g rfl)]
    exact hgg
theorem own_below {W W' : World} {B : Nat} {E : TypeId} {V : Value} {n : Nat} {xs : List Value} (h : W.ownsRow B E 1 V n xs) (hb : Below W.heap.size W W') : W'.ownsRow B E 1 V n xs := own_fr h (Fr.of (S := fun _ => False) hb) (fun _ _ h => h)
def svals (xs : List ByteArray) : List Value := xs.map Value.string
theorem grown_cell {W W' : World} {r : Option Nat} (hg : W.grownBy W' r) {g o : Nat} (hl : g < W.heap.size) (hn : some g ≠ r) : W'.cell? ⟨g, o, none⟩ = W.cell? ⟨g, o, none⟩ := World.cell?_of_block (w := W) (hg.block g hl hn)
/-- A model's entries. -/
def CM.nats (C : CM) : List Nat := (List.range 13).map fun k => (C.get k).toNat
theorem nats_at (C : CM) (k : Nat) (hk : k < 13) : C.nats.getD k 0 = (C.get k).toNat := by
  unfold CM.nats
  rw [List.getD_eq_getElem?_getD, List.getElem?_map, List.getElem?_range hk]
  rfl
theorem nats_len (C : CM) : C.nats.length = 13 := by simp [CM.nats]
theorem nats_le {C : CM} (h : C.ok) : ∀ k < 13, C.nats.getD k 0 ≤ 100 := fun k hk => by rw [nats_at C k hk]; have := h k hk; omega
theorem nats_toL {C : CM} (h : C.ok) : C.nats.map Int.ofNat = C.toL := by
  have e : C.toL = (List.range 13).map C.get := rfl
  rw [e]
  unfold CM.nats
  rw [List.map_map]
  refine List.map_congr_left fun k hk => ?_
  have := h k (List.mem_range.1 hk)
  show Int.ofNat (C.get k).toNat = C.get k
  simp only [Int.ofNat_eq_natCast]
  omega
/-- What Print returns. -/
def printP (C : CM) : List UInt8 × Int := if C.chk = 0 then (printT C.nats, 0) else ([], 3)
def pieceB (v : List Nat) (k : Nat) : ByteArray := ⟨(pieceT v k).toArray⟩
def outB (v : List Nat) (k : Nat) : List ByteArray := (List.range k).map (pieceB v)
theorem outB_len (v : List Nat) (k : Nat) : (outB v k).length = k := by simp [outB]
theorem outB_one (v : List Nat) (k : Nat) : outB v (k + 1) = outB v k ++ [pieceB v k] := by simp [outB, List.range_succ]
theorem join_textT : ∀ ps : List (List UInt8), Lib.join ps [44, 32] = textT 0 1 ps
  | [] => rfl
  | [p] => by simp [Lib.join, textT, List.intercalate]
  | p :: q :: r => by
    have ih := join_textT (q :: r)
    rw [textT, ← ih]
    simp [Lib.join, List.intercalate, spc]
theorem outB_join (v : List Nat) (k : Nat) : Lib.join ((outB v k).map (·.data.toList)) [44, 32] = textT 0 1 ((List.range k).map (pieceT v)) := by
  rw [join_textT]
  refine congrArg _ ?_
  unfold outB
  rw [List.map_map]
  rfl
theorem printT_len {v : List Nat} (hv : ∀ k < 13, v.getD k 0 ≤ 100) (k : Nat) (hk : k ≤ 13) : (textT 0 1 ((List.range k).map (pieceT v))).length ≤ 200 := by
  have h := textT_len 0 1 ((List.range k).map (pieceT v)) (fun p hp => by
    obtain ⟨j, hj, rfl⟩ := List.mem_map.1 hp
    have hj2 := List.mem_range.1 hj
    exact pieceT_len v j (by omega) (hv j (by omega)))
  simp only [List.length_map, List.length_range] at h
  omega
theorem itoa_c (B : Nat) (m : Nat) (hm : m ≤ 100) (d : ByteArray) (HD : Hid (d.data.toList = decT m)) (w : World) (hE : Env B w) :
    Calls Tryz.prog 21 #[.int .i64 (m : Int)] w fun e w' => e = .returned (.string d) ∧ Below w.heap.size w w' := by
  refine (Tryz.strconv_Itoa (m : Int) (by omega) (by omega) w hE.pow).mono fun e w' ⟨he, k, os, hw⟩ => ⟨?_, ?_⟩
  · rw [he]
    refine congrArg (fun z => Ending.returned (.string z)) (bytes_eq ?_)
    rw [HD.out, ← itoa_dec m hm]
  · rw [hw]
    exact ⟨rfl, rfl, rfl, by show _ ≤ (w.heap ++ os).size; rw [Array.size_append]; omega, fun g hg => by show (w.heap ++ os)[g]? = _; rw [Array.getElem?_append_left hg]⟩
theorem join_c (B n c : Nat) (A : Option Addr) (xs : List ByteArray) (js : ByteArray) (H : Hid (js.data.toList = Lib.join (xs.map (·.data.toList)) [44, 32])) (hn : 1 ≤ n) (hn2 : n ≤ 1000) (hx : xs.length = n) (w : World) (ho : w.ownsRow B 9 1 (.slice A n c) n (svals xs)) (hl : js.data.toList.length ≤ 100000) :
    Calls Tryz.prog 22 #[.slice A n c, .string ⟨#[44, 32]⟩] w fun e w' => e = .returned (.string js) ∧ Below w.heap.size w w' := by
  rcases ho.2 with ⟨hv, hn0⟩ | ⟨g, cap, cur, hv, hB, hg, hnc, hcm, _, _⟩
  · omega
  · simp only [Value.slice.injEq] at hv
    obtain ⟨rfl, _, rfl⟩ := hv
    subst hx
    refine (Tryz.strings_Join g 0 c xs ⟨#[44, 32]⟩ w (fun j x hj => ?_) (Array.getElem?_eq_some_iff.1 hg).1 (by omega) hnc ?_).mono fun e w' ⟨he, hb⟩ => ⟨?_, hb⟩
    · have hjl := (List.getElem?_eq_some_iff.1 hj).1
      rw [ho.cellAt (0 + j) (by omega), Nat.zero_add]
      unfold svals
      rw [List.getElem?_map, hj]
      rfl
    · have := H.out
      show (Lib.join (xs.map (·.data.toList)) [44, 32]).length ≤ _
      rw [← this]
      omega
    · rw [he]
      exact congrArg (fun z => Ending.returned (.string z)) (bytes_eq H.out.symm)
set_option maxRecDepth 100000 in
set_option maxHeartbeats 8000000 in
theorem print_b (B : Nat) (C : CM) (r : ByteArray) (kc : Int) (H : Hid (printP C = (r.data.toList, kc))) (w : World) (hE : Env B w) (hB : B ≤ w.heap.size) :
    Calls Tryz.prog 6 #[.agg #[.int .i64 C.c0, .int .i64 C.c1, .int .i64 C.c2, .int .i64 C.c3, .int .i64 C.c4, .int .i64 C.c5, .int .i64 C.c6, .int .i64 C.c7, .int .i64 C.c8, .int .i64 C.c9, .int .i64 C.c10, .int .i64 C.c11, .int .i64 C.c12]] w fun e w' => e = .returned (.tuple #[.string r, .int .i64 kc]) ∧ Below w.heap.size w w' := by
  have HE := Lib.hid hE
  have HB0 := Lib.hid hB
  have HPP : Hid (Cs (w.alloc (.cells #[.int .i64 C.c0, .int .i64 C.c1, .int .i64 C.c2, .int .i64 C.c3, .int .i64 C.c4, .int .i64 C.c5, .int .i64 C.c6, .int .i64 C.c7, .int .i64 C.c8, .int .i64 C.c9, .int .i64 C.c10, .int .i64 C.c11, .int .i64 C.c12] 23)) w.heap.size [.int .i64 C.c0, .int .i64 C.c1, .int .i64 C.c2, .int .i64 C.c3, .int .i64 C.c4, .int .i64 C.c5, .int .i64 C.c6, .int .i64 C.c7, .int .i64 C.c8, .int .i64 C.c9, .int .i64 C.c10, .int .i64 C.c11, .int .i64 C.c12] ∧ Below w.heap.size w (w.alloc (.cells #[.int .i64 C.c0, .int .i64 C.c1, .int .i64 C.c2, .int .i64 C.c3, .int .i64 C.c4, .int .i64 C.c5, .int .i64 C.c6, .int .i64 C.c7, .int .i64 C.c8, .int .i64 C.c9, .int .i64 C.c10, .int .i64 C.c11, .int .i64 C.c12] 23))) := Lib.hid ⟨Cs.new _ _ _, (Below.refl _ _).alloc (Nat.le_refl _) _⟩
  obtain ⟨i0, hi0, hz0, hz1, hz2⟩ := info_parts (P := Tryz.prog) (e := 9) (z := .string ⟨#[]⟩) (size := 1) (bytes := 16) (by kernel_rfl)
  have HIN := Lib.hid (And.intro hi0 (And.intro hz0 (And.intro hz1 hz2)))
  clear hE hB hi0 hz0 hz1 hz2
  go_enter Tryz.func6, Tryz.ntmps6
  go_upto_region 1 with fail
  obtain ⟨w1, hw1⟩ : ∃ z, w.alloc (.cells #[.int .i64 C.c0, .int .i64 C.c1, .int .i64 C.c2, .int .i64 C.c3, .int .i64 C.c4, .int .i64 C.c5, .int .i64 C.c6, .int .i64 C.c7, .int .i64 C.c8, .int .i64 C.c9, .int .i64 C.c10, .int .i64 C.c11, .int .i64 C.c12] 23) = z := ⟨_, rfl⟩
  obtain ⟨p, hp⟩ : ∃ z, w.heap.size = z := ⟨_, rfl⟩
  have HPP : Hid (Cs w1 p [.int .i64 C.c0, .int .i64 C.c1, .int .i64 C.c2, .int .i64 C.c3, .int .i64 C.c4, .int .i64 C.c5, .int .i64 C.c6, .int .i64 C.c7, .int .i64 C.c8, .int .i64 C.c9, .int .i64 C.c10, .int .i64 C.c11, .int .i64 C.c12] ∧ Below w.heap.size w w1) := Lib.hid ⟨by have := HPP.out.1; rw [hw1, hp] at this; exact this, by have := HPP.out.2; rw [hw1] at this; exact this⟩
  rw [hw1, hp]
  clear hw1 hp
  have c0 := HPP.out.1.at 0 _ rfl
  have c1 := HPP.out.1.at 1 _ rfl
  have c2 := HPP.out.1.at 2 _ rfl
  have c3 := HPP.out.1.at 3 _ rfl
  have c4 := HPP.out.1.at 4 _ rfl
  have c5 := HPP.out.1.at 5 _ rfl
  have c6 := HPP.out.1.at 6 _ rfl
  have c7 := HPP.out.1.at 7 _ rfl
  have c8 := HPP.out.1.at 8 _ rfl
  have c9 := HPP.out.1.at 9 _ rfl
  have c10 := HPP.out.1.at 10 _ rfl
  have c11 := HPP.out.1.at 11 _ rfl
  have c12 := HPP.out.1.at 12 _ rfl
  rcases C.chk_cases with ⟨h0, hok⟩ | h3
  case inr =>
    have hr := H.out
    unfold printP at hr
    rw [if_neg (by rw [h3]; decide)] at hr
    simp only [Prod.mk.injEq] at hr
    obtain ⟨hr1, rfl⟩ := hr
    obtain rfl : r = ⟨#[]⟩ := bytes_eq hr1.symm
    have HR := Lib.hid h3
    clear H hr1 h3
    go_wp2_with (first | (go_at_call 19; refine (check_b C 3 HR _).mono ?_; rintro e w2 ⟨rfl, hb⟩; have HB2 : Hid (Below w.heap.size w w2) := Lib.hid (HPP.out.2.trans (hb.mono HPP.out.2.size)); clear hb) | fail)
    go_returns
    exact ⟨rfl, HB2.out⟩
  have hr := H.out
  unfold printP at hr
  rw [if_pos h0] at hr
  simp only [Prod.mk.injEq] at hr
  obtain ⟨hr1, rfl⟩ := hr
  have HR := Lib.hid h0
  have HOK := Lib.hid hok
  have HRT := Lib.hid hr1
  have HVL := Lib.hid (nats_le hok)
  clear H h0 hok hr1
  go_upto_region 5 with (first
    | (go_at_call 19; refine (check_b C 0 HR _).mono ?_; rintro e w2 ⟨rfl, hb⟩; have HB2 : Hid (Below w.heap.size w w2) := Lib.hid (HPP.out.2.trans (hb.mono HPP.out.2.size)); have HC2 := Lib.hid (HPP.out.1.next hb); clear hb; clear c0 c1 c2 c3 c4 c5 c6 c7 c8 c9 c10 c11 c12; have c0 := HC2.out.at 0 _ rfl; have c1 := HC2.out.at 1 _ rfl; have c2 := HC2.out.at 2 _ rfl; have c3 := HC2.out.at 3 _ rfl; have c4 := HC2.out.at 4 _ rfl; have c5 := HC2.out.at 5 _ rfl; have c6 := HC2.out.at 6 _ rfl; have c7 := HC2.out.at 7 _ rfl; have c8 := HC2.out.at 8 _ rfl; have c9 := HC2.out.at 9 _ rfl; have c10 := HC2.out.at 10 _ rfl; have c11 := HC2.out.at 11 _ rfl; have c12 := HC2.out.at 12 _ rfl)
    | (go_at_call 20; refine (unpack_b C _).mono ?_; rintro e w3 ⟨rfl, hb⟩; have HB3 : Hid (Below w.heap.size w w3) := Lib.hid (HB2.out.trans (hb.mono HB2.out.size)); clear hb) | fail)
  clear c0 c1 c2 c3 c4 c5 c6 c7 c8 c9 c10 c11 c12
  obtain ⟨Bb, hBb⟩ : ∃ z, w3.heap.size = z := ⟨_, rfl⟩
  have HBb : Hid (Bb ≤ w3.heap.size ∧ w.heap.size ≤ Bb) := Lib.hid ⟨by omega, by rw [← hBb]; exact HB3.out.size⟩
  have HO0 : Hid (w3.ownsRow Bb 9 1 (.slice none 0 0) 0 (svals (outB C.nats 0))) := Lib.hid (World.ownsRow_nil _ _ _ _)
  clear hBb
  go_loopw [4, 12] (fun u v wr => ∃ (k : Nat) (V : Value), k ≤ 13 ∧ v = .int .i64 k ∧ V = u ∧ Hid (wr.ownsRow Bb 9 1 V k (svals (outB C.nats k))) ∧ Hid (Below w.heap.size w wr ∧ Bb ≤ wr.heap.size)) (fun _ v _ => 13 - (intOf v).toNat)
  case atStart => exact ⟨0, _, by omega, rfl, rfl, HO0, Lib.hid ⟨HB3.out, HBb.out.1⟩⟩
  case round =>
    clear HO0
    obtain ⟨k, V0, hk, rfl, hu, HO, HW⟩ := hrel
    subst hu
    by_cases hlt : k < 13
    · have hi := arr_at C k hlt
      have hlt' : (k : Int) < 13 := by omega
      have hk0 : (0 : Int) ≤ (k : Int) := by omega
      obtain ⟨m, hm⟩ : ∃ m : Nat, C.get k = (m : Int) := ⟨(C.get k).toNat, by have := HOK.out k hlt; omega⟩
      have hm100 : m ≤ 100 := by have := HOK.out k hlt; omega
      have hmn : C.nats.getD k 0 = m := by rw [nats_at C k hlt, hm]; omega
      rw [hm] at hi
      have HEW := Lib.hid (HE.out.below (HW.out.1.mono HB0.out))
      have hnc := HEW.out.nt.cell k hlt
      have hnl := HEW.out.nt.lt
      obtain ⟨x, hx⟩ : ∃ x, nmB k = x := ⟨_, rfl⟩
      rw [hx] at hnc
      obtain ⟨x1, hx1⟩ := mk_bytes (x.data.toList ++ [32])
      obtain ⟨d, hd⟩ := mk_bytes (decT m)
      have hz : x1.data.toList ++ d.data.toList = (pieceB C.nats k).data.toList := by
        show _ = pieceT C.nats k
        unfold pieceT
        rw [hx1, hd, hmn, ← hx, nmB_data, List.append_assoc]
        rfl
      have hzl : (pieceB C.nats k).data.toList.length ≤ 12 := pieceT_len C.nats k hlt (HVL.out k hlt)
      have hx1l : x1.data.toList.length ≤ 12 := by rw [← hz, List.length_append] at hzl; omega
      obtain ⟨z, hzz⟩ : ∃ z, pieceB C.nats k = z := ⟨_, rfl⟩
      have HZZ := Lib.hid hzz
      rw [hzz] at hz hzl
      have ad1 := add_fact x ⟨#[32]⟩ x1 (by rw [hx1]) (by omega)
      have ad2 := add_fact x1 d z hz (by omega)
      have HD := Lib.hid hd
      have HKL : Hid (k ≤ 13) := Lib.hid hk
      clear hm hmn hx hx1 hd hz hzl hx1l hzz
      go_upto_region 7 with fail
      have hgl : 0 < wr.heap.size := hnl
      have HN0 := Lib.hid hnc
      have HNO : Hid (some 0 ≠ V0.ownBlock) := Lib.hid (fun e => by have := (HO.out.lt _ e.symm).1; have := HEW.out.bd.1; have := HBb.out.2; have := HB0.out; omega)
      go_region_held_law (fun W => W.cell? ⟨0, k, none⟩ = some (.string x))
        (first | exact HN0.out | exact N5.out | exact N5a.out | exact N6.out | go_keep)
        (first
          | (refine step_append_lies _ (by rfl) _ _ _ (by rfl) Bb 9 i0 _ 1 16 Tryz.underlying35 HIN.out.1 HIN.out.2.1 HIN.out.2.2.1 HIN.out.2.2.2 rfl (by omega) V0 k (svals (outB C.nats k)) (by rfl) (own_below (own_below HO.out HB5.out) ((Below.refl _ _).alloc (Nat.le_refl _) _)) ⟨w5.heap.size, 0, none⟩ 1 1 [.string z] (by rfl) (by rfl) (World.news_of_block (cs := #[.string z]) (t := 9) (fr := (0, 0)) (heap_alloc_new w5 _)) (by simp [Value.oneCell']) (by omega) (by have := HKL.out; unfold maxLen; omega) (by have := HKL.out; omega) HL5.out (w5.heap.size + 1) (by simp) ?_; intro gg cap w6 hown6 hgrow6 hat6 hlt6; have N6 : Hid (w6.cell? ⟨0, k, none⟩ = some (.string x)) := Lib.hid ((grown_cell hgrow6 HLS.out HNO.out).trans N5a.out))
          | (go_simp; go_at_call 21; refine (itoa_c B m hm100 d HD _ (HEW.out.below (Below.refl _ _).drew)).mono ?_; rintro e w5 ⟨rfl, hb⟩; have HB5 : Hid (Below wr.heap.size wr w5) := Lib.hid ((Below.refl _ _).drew.trans hb); have N5 : Hid (w5.cell? ⟨0, k, none⟩ = some (.string x)) := Lib.hid ((HB5.out.cell (p := ⟨_, k, none⟩) hgl).trans HN0.out); have N5a : Hid ((w5.alloc (.cells #[.string z] 9)).cell? ⟨0, k, none⟩ = some (.string x)) := Lib.hid ((((Below.refl w5.heap.size w5).alloc (Nat.le_refl _) _).cell (p := ⟨_, k, none⟩) (Nat.lt_of_lt_of_le hgl HB5.out.size)).trans N5.out); have HLS : Hid (0 < (w5.alloc (.cells #[.string z] 9)).heap.size) := Lib.hid (Nat.lt_of_lt_of_le hgl (Nat.le_trans HB5.out.size (by simp))); have HL5 : Hid (Bb ≤ (w5.alloc (.cells #[.string z] 9)).heap.size) := Lib.hid (by have := HB5.out.size; have := HW.out.2; simp; omega); clear hb))
      all_goals
        have HW6 : Hid (Below w.heap.size w w6 ∧ Bb ≤ w6.heap.size) := Lib.hid ⟨((HW.out.1.trans (HB5.out.mono HW.out.1.size)).alloc (Nat.le_trans HW.out.1.size HB5.out.size) (.cells #[.string z] 9)).grown hgrow6 (by have := HL5.out; have := HBb.out.2; omega) (fun q hq => by have := (HO.out.lt _ hq).1; have := HBb.out.2; omega), Nat.le_trans HL5.out hgrow6.size⟩
        have HO6 : Hid (w6.ownsRow Bb 9 1 (.slice (some ⟨gg, 0, none⟩) (k + 1) cap) (k + 1) (svals (outB C.nats (k + 1)))) := Lib.hid (by
          rw [outB_one, HZZ.out]
          unfold svals at hown6 ⊢
          rw [List.map_append]
          exact hown6)
        clear hown6 hgrow6 hat6 hlt6 ad1 ad2
        go_wp2_with fail
        go_roundw
        case rel => exact ⟨k + 1, _, by omega, by go_num, rfl, HO6, HW6⟩
        case measure => simp [intOf]; omega
    · obtain rfl : k = 13 := by omega
      obtain ⟨A, cp, hV⟩ : ∃ A cp, V0 = .slice A 13 cp := by
        rcases HO.out.2 with ⟨hv, hn⟩ | ⟨g, cap, cur, hv, _⟩
        · omega
        · exact ⟨_, _, hv⟩
      subst hV
      have HJ : Hid (r.data.toList = Lib.join ((outB C.nats 13).map (·.data.toList)) [44, 32]) := Lib.hid (by rw [outB_join, ← HRT.out]; rfl)
      have HJL : Hid (r.data.toList.length ≤ 100000) := Lib.hid (by rw [← HRT.out]; have := printT_len HVL.out 13 (Nat.le_refl _); unfold printT; omega)
      go_wp2_with (first | (go_at_call 22; refine (join_c Bb 13 cp A (outB C.nats 13) r HJ (by omega) (by omega) (outB_len _ _) _ HO.out HJL.out).mono ?_; rintro e w6 ⟨rfl, hb⟩; have HB6 : Hid (Below w.heap.size w w6) := Lib.hid (HW.out.1.trans (hb.mono HW.out.1.size)); clear hb) | fail)
      go_returns
      exact ⟨rfl, HB6.out⟩
end Go.Proofs.YthlhicegchkjjaaGreatDoor
