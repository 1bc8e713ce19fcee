/-
  Texts of cost models: the walk over CostInverse.
-/
import Derived.Test.YthlhicegchkjjaaGreatDoorCtT
import Derived.Test.YthlhicegchkjjaaGreatDoorCtY
import Derived.Deep.RegionHeld3
namespace Go.Proofs.YthlhicegchkjjaaGreatDoor
open Go.RowKit

/-- A turn. -/
structure TM where
  (u0 u1 u2 u3 u4 u5 u6 u7 u8 u9 u10 u11 u12 : Nat)
namespace TM
def get (T : TM) : Nat → Nat
  | 0 => T.u0 | 1 => T.u1 | 2 => T.u2 | 3 => T.u3 | 4 => T.u4 | 5 => T.u5 | 6 => T.u6 | 7 => T.u7 | 8 => T.u8 | 9 => T.u9 | 10 => T.u10 | 11 => T.u11 | 12 => T.u12 | _ => 0
def toL (T : TM) : List Nat := (List.range 13).map T.get
theorem len (T : TM) : T.toL.length = 13 := by simp [toL]
theorem take_one (T : TM) (k : Nat) (h : k < 13) : T.toL.take (k + 1) = T.toL.take k ++ [T.get k] := by
  have hl : k < T.toL.length := by rw [T.len]; exact h
  have e : T.toL[k] = T.get k := by simp [toL]
  rw [List.take_succ_eq_append_getElem hl, e]
end TM
theorem ordT_last : ∀ (ks : List Nat) (i : Nat) (o : List Nat) (k : Nat), ordT i o (ks ++ [k]) = insAt (ordT i o ks) (k % ((ordT i o ks).length + 1)) (i + ks.length)
  | [], _, _, _ => rfl
  | j :: ks, i, o, k => by
    rw [List.cons_append, ordT, ordT_last ks, ordT, List.length_cons, show i + 1 + ks.length = i + (ks.length + 1) by omega]
theorem turn_at (T : TM) : ∀ k : Nat, k < 13 → ∀ w, (Instr.index 31 (.agg #[.int .u8 (T.u0 : Int), .int .u8 (T.u1 : Int), .int .u8 (T.u2 : Int), .int .u8 (T.u3 : Int), .int .u8 (T.u4 : Int), .int .u8 (T.u5 : Int), .int .u8 (T.u6 : Int), .int .u8 (T.u7 : Int), .int .u8 (T.u8 : Int), .int .u8 (T.u9 : Int), .int .u8 (T.u10 : Int), .int .u8 (T.u11 : Int), .int .u8 (T.u12 : Int)]) (.int .i64 k)).run Tryz.prog w = .ok (.int .u8 (T.get k : Int)) w :=
  forall13 (fun _ => by kernel_rfl) (fun _ => by kernel_rfl) (fun _ => by kernel_rfl) (fun _ => by kernel_rfl) (fun _ => by kernel_rfl) (fun _ => by kernel_rfl) (fun _ => by kernel_rfl) (fun _ => by kernel_rfl) (fun _ => by kernel_rfl) (fun _ => by kernel_rfl) (fun _ => by kernel_rfl) (fun _ => by kernel_rfl) (fun _ => by kernel_rfl)
/-- The order behind k entries. -/
def ordK (T : TM) (k : Nat) : List Nat := ordT 0 [] (T.toL.take k)
theorem ordK_one (T : TM) (k : Nat) (h : k < 13) (hl : (ordK T k).length = k) : ordK T (k + 1) = insAt (ordK T k) (T.get k % (k + 1)) k := by
  unfold ordK at hl ⊢
  rw [T.take_one k h, ordT_last, hl, List.length_take, T.len, Nat.zero_add, Nat.min_eq_left (by omega)]
/-- The first k entries in an order, joined. -/
def textO (v : List Nat) (O : List Nat) (k : Nat) : List UInt8 := textT 2 1 ((O.take k).map (pieceT v))
theorem textO_one (v O : List Nat) (k : Nat) (h : k < O.length) : textO v O (k + 1) = (if k = 0 then [] else textO v O k ++ [32, 32, 44, 32]) ++ pieceT v (O.getD k 0) := by
  unfold textO
  have hg : O.getD k 0 = O[k] := by rw [List.getD_eq_getElem?_getD, List.getElem?_eq_getElem h]; rfl
  rw [List.take_succ_eq_append_getElem h, List.map_append, List.map_singleton, hg]
  by_cases h0 : k = 0
  · subst h0; rfl
  · rw [if_neg h0, textT_snoc 2 1 _ _ (fun e => h0 (by
      have := congrArg List.length e
      rw [List.length_map, List.length_take, List.length_nil] at this
      omega))]
    rfl
theorem textO_len {v O : List Nat} (hv : ∀ k < 13, v.getD k 0 ≤ 100) (ho : ∀ k ∈ O, k < 13) (k : Nat) (hk : k ≤ 13) : (textO v O k).length ≤ 300 := by
  have h := textT_len 2 1 ((O.take k).map (pieceT v)) (fun p hp => by
    obtain ⟨j, hj, rfl⟩ := List.mem_map.1 hp
    have hj2 := ho j (List.mem_of_mem_take hj)
    exact pieceT_len v j hj2 (hv j hj2))
  unfold textO
  rw [List.length_map, List.length_take] at h
  have : min k O.length ≤ 13 := by omega
  have h2 : min k O.length * (13 + 2 + 1) ≤ 13 * (13 + 2 + 1) := Nat.mul_le_mul_right _ this
  omega
/-- The model's two variables. -/
structure Kp (w : World) (p q : Nat) (C : CM) (W : World) : Prop where
  bel : Below w.heap.size w W
  cp : Cs W p [.int .i64 C.c0, .int .i64 C.c1, .int .i64 C.c2, .int .i64 C.c3, .int .i64 C.c4, .int .i64 C.c5, .int .i64 C.c6, .int .i64 C.c7, .int .i64 C.c8, .int .i64 C.c9, .int .i64 C.c10, .int .i64 C.c11, .int .i64 C.c12]
  cq : Cs W q [.int .i64 C.c0, .int .i64 C.c1, .int .i64 C.c2, .int .i64 C.c3, .int .i64 C.c4, .int .i64 C.c5, .int .i64 C.c6, .int .i64 C.c7, .int .i64 C.c8, .int .i64 C.c9, .int .i64 C.c10, .int .i64 C.c11, .int .i64 C.c12]
theorem Kp.next {w W W' : World} {p q : Nat} {C : CM} (h : Kp w p q C W) (hb : Below W.heap.size W W') : Kp w p q C W' := ⟨h.bel.trans (hb.mono h.bel.size), h.cp.next hb, h.cq.next hb⟩
theorem Os.alloc {W : World} {b n c : Nat} {ks : List Nat} (h : Os W b n c ks) (o : Obj) : Os (W.alloc o) b n c ks := by
  obtain ⟨f, hr, hf⟩ := h.row
  exact ⟨⟨f, hr.alloc o, hf⟩, h.len, h.nc, h.cm⟩
theorem Os.next {W W' : World} {b n c : Nat} {ks : List Nat} (h : Os W b n c ks) (hb : Below W.heap.size W W') : Os W' b n c ks := by
  obtain ⟨f, hr, hf⟩ := h.row
  exact ⟨⟨f, hr.of_block (hb.block b hr.lt), hf⟩, h.len, h.nc, h.cm⟩
theorem Os.at {W : World} {b n c : Nat} {ks : List Nat} (h : Os W b n c ks) (j : Nat) (hj : j < n) : W.cell? ⟨b, j, none⟩ = some (.int .i64 ((ks.getD j 0 : Nat) : Int)) := by
  obtain ⟨f, hr, hf⟩ := h.row
  rw [hr.cell (by have := h.nc; omega), hf j hj]
  rfl
theorem Os.lt {W : World} {b n c : Nat} {ks : List Nat} (h : Os W b n c ks) : b < W.heap.size := by
  obtain ⟨f, hr, _⟩ := h.row
  exact hr.lt
set_option maxRecDepth 100000 in
set_option maxHeartbeats 20000000 in
theorem inverse_walk (B : Nat) (C : CM) (T : TM) (hT : ∀ k < 13, T.get k < 256) (w : World) (hE : Env B w) (hB : B ≤ w.heap.size) :
    Calls Tryz.prog 4 #[.agg #[.int .i64 C.c0, .int .i64 C.c1, .int .i64 C.c2, .int .i64 C.c3, .int .i64 C.c4, .int .i64 C.c5, .int .i64 C.c6, .int .i64 C.c7, .int .i64 C.c8, .int .i64 C.c9, .int .i64 C.c10, .int .i64 C.c11, .int .i64 C.c12], .agg #[.int .u8 (T.u0 : Int), .int .u8 (T.u1 : Int), .int .u8 (T.u2 : Int), .int .u8 (T.u3 : Int), .int .u8 (T.u4 : Int), .int .u8 (T.u5 : Int), .int .u8 (T.u6 : Int), .int .u8 (T.u7 : Int), .int .u8 (T.u8 : Int), .int .u8 (T.u9 : Int), .int .u8 (T.u10 : Int), .int .u8 (T.u11 : Int), .int .u8 (T.u12 : Int)]] w fun e w' => e = .returned (.bool true) ∧ Below w.heap.size w w' := by
  have HE := Lib.hid hE
  have HB0 := Lib.hid hB
  have HTT := Lib.hid hT
  have HPP : Hid (Cs ((w.alloc (.cells #[.int .i64 C.c0, .int .i64 C.c1, .int .i64 C.c2, .int .i64 C.c3, .int .i64 C.c4, .int .i64 C.c5, .int .i64 C.c6, .int .i64 C.c7, .int .i64 C.c8, .int .i64 C.c9, .int .i64 C.c10, .int .i64 C.c11, .int .i64 C.c12] 23)).alloc (.cells #[.int .u8 (T.u0 : Int), .int .u8 (T.u1 : Int), .int .u8 (T.u2 : Int), .int .u8 (T.u3 : Int), .int .u8 (T.u4 : Int), .int .u8 (T.u5 : Int), .int .u8 (T.u6 : Int), .int .u8 (T.u7 : Int), .int .u8 (T.u8 : Int), .int .u8 (T.u9 : Int), .int .u8 (T.u10 : Int), .int .u8 (T.u11 : Int), .int .u8 (T.u12 : Int)] 31)) w.heap.size [.int .i64 C.c0, .int .i64 C.c1, .int .i64 C.c2, .int .i64 C.c3, .int .i64 C.c4, .int .i64 C.c5, .int .i64 C.c6, .int .i64 C.c7, .int .i64 C.c8, .int .i64 C.c9, .int .i64 C.c10, .int .i64 C.c11, .int .i64 C.c12] ∧ Below w.heap.size w ((w.alloc (.cells #[.int .i64 C.c0, .int .i64 C.c1, .int .i64 C.c2, .int .i64 C.c3, .int .i64 C.c4, .int .i64 C.c5, .int .i64 C.c6, .int .i64 C.c7, .int .i64 C.c8, .int .i64 C.c9, .int .i64 C.c10, .int .i64 C.c11, .int .i64 C.c12] 23)).alloc (.cells #[.int .u8 (T.u0 : Int), .int .u8 (T.u1 : Int), .int .u8 (T.u2 : Int), .int .u8 (T.u3 : Int), .int .u8 (T.u4 : Int), .int .u8 (T.u5 : Int), .int .u8 (T.u6 : Int), .int .u8 (T.u7 : Int), .int .u8 (T.u8 : Int), .int .u8 (T.u9 : Int), .int .u8 (T.u10 : Int), .int .u8 (T.u11 : Int), .int .u8 (T.u12 : Int)] 31)) ∧ Cs ((w.alloc (.cells #[.int .i64 C.c0, .int .i64 C.c1, .int .i64 C.c2, .int .i64 C.c3, .int .i64 C.c4, .int .i64 C.c5, .int .i64 C.c6, .int .i64 C.c7, .int .i64 C.c8, .int .i64 C.c9, .int .i64 C.c10, .int .i64 C.c11, .int .i64 C.c12] 23)).alloc (.cells #[.int .u8 (T.u0 : Int), .int .u8 (T.u1 : Int), .int .u8 (T.u2 : Int), .int .u8 (T.u3 : Int), .int .u8 (T.u4 : Int), .int .u8 (T.u5 : Int), .int .u8 (T.u6 : Int), .int .u8 (T.u7 : Int), .int .u8 (T.u8 : Int), .int .u8 (T.u9 : Int), .int .u8 (T.u10 : Int), .int .u8 (T.u11 : Int), .int .u8 (T.u12 : Int)] 31)) (w.heap.size + 1) [.int .u8 (T.u0 : Int), .int .u8 (T.u1 : Int), .int .u8 (T.u2 : Int), .int .u8 (T.u3 : Int), .int .u8 (T.u4 : Int), .int .u8 (T.u5 : Int), .int .u8 (T.u6 : Int), .int .u8 (T.u7 : Int), .int .u8 (T.u8 : Int), .int .u8 (T.u9 : Int), .int .u8 (T.u10 : Int), .int .u8 (T.u11 : Int), .int .u8 (T.u12 : Int)]) := Lib.hid ⟨(Cs.new w _ _).alloc _, ((Below.refl _ _).alloc (Nat.le_refl _) _).alloc (by simp) _, by
    have h := Cs.new (w.alloc (.cells #[.int .i64 C.c0, .int .i64 C.c1, .int .i64 C.c2, .int .i64 C.c3, .int .i64 C.c4, .int .i64 C.c5, .int .i64 C.c6, .int .i64 C.c7, .int .i64 C.c8, .int .i64 C.c9, .int .i64 C.c10, .int .i64 C.c11, .int .i64 C.c12] 23)) #[.int .u8 (T.u0 : Int), .int .u8 (T.u1 : Int), .int .u8 (T.u2 : Int), .int .u8 (T.u3 : Int), .int .u8 (T.u4 : Int), .int .u8 (T.u5 : Int), .int .u8 (T.u6 : Int), .int .u8 (T.u7 : Int), .int .u8 (T.u8 : Int), .int .u8 (T.u9 : Int), .int .u8 (T.u10 : Int), .int .u8 (T.u11 : Int), .int .u8 (T.u12 : Int)] 31
    rw [show (w.alloc (.cells #[.int .i64 C.c0, .int .i64 C.c1, .int .i64 C.c2, .int .i64 C.c3, .int .i64 C.c4, .int .i64 C.c5, .int .i64 C.c6, .int .i64 C.c7, .int .i64 C.c8, .int .i64 C.c9, .int .i64 C.c10, .int .i64 C.c11, .int .i64 C.c12] 23)).heap.size = w.heap.size + 1 by simp] at h
    exact h⟩
  clear hE hB hT
  go_enter Tryz.func4, Tryz.ntmps4
  go_upto_region 1 with fail
  obtain ⟨w1, hw1⟩ : ∃ z, (w.alloc (.cells #[.int .i64 C.c0, .int .i64 C.c1, .int .i64 C.c2, .int .i64 C.c3, .int .i64 C.c4, .int .i64 C.c5, .int .i64 C.c6, .int .i64 C.c7, .int .i64 C.c8, .int .i64 C.c9, .int .i64 C.c10, .int .i64 C.c11, .int .i64 C.c12] 23)).alloc (.cells #[.int .u8 (T.u0 : Int), .int .u8 (T.u1 : Int), .int .u8 (T.u2 : Int), .int .u8 (T.u3 : Int), .int .u8 (T.u4 : Int), .int .u8 (T.u5 : Int), .int .u8 (T.u6 : Int), .int .u8 (T.u7 : Int), .int .u8 (T.u8 : Int), .int .u8 (T.u9 : Int), .int .u8 (T.u10 : Int), .int .u8 (T.u11 : Int), .int .u8 (T.u12 : Int)] 31) = z := ⟨_, rfl⟩
  obtain ⟨p, hp⟩ : ∃ z, w.heap.size = z := ⟨_, rfl⟩
  have HPP : Hid (Cs w1 p [.int .i64 C.c0, .int .i64 C.c1, .int .i64 C.c2, .int .i64 C.c3, .int .i64 C.c4, .int .i64 C.c5, .int .i64 C.c6, .int .i64 C.c7, .int .i64 C.c8, .int .i64 C.c9, .int .i64 C.c10, .int .i64 C.c11, .int .i64 C.c12] ∧ Below w.heap.size w w1 ∧ Cs w1 (p + 1) [.int .u8 (T.u0 : Int), .int .u8 (T.u1 : Int), .int .u8 (T.u2 : Int), .int .u8 (T.u3 : Int), .int .u8 (T.u4 : Int), .int .u8 (T.u5 : Int), .int .u8 (T.u6 : Int), .int .u8 (T.u7 : Int), .int .u8 (T.u8 : Int), .int .u8 (T.u9 : Int), .int .u8 (T.u10 : Int), .int .u8 (T.u11 : Int), .int .u8 (T.u12 : Int)]) := Lib.hid ⟨by have := HPP.out.1; rw [hw1, hp] at this; exact this, by have := HPP.out.2.1; rw [hw1] at this; exact this, by have := HPP.out.2.2; rw [hw1, hp] at this; exact this⟩
  rw [hw1, hp]
  clear hw1 hp
  have HEb : Hid (∀ W, Below w.heap.size w W → Env B W ∧ B ≤ W.heap.size) := Lib.hid fun W hb => ⟨HE.out.below (hb.mono HB0.out), Nat.le_trans HB0.out hb.size⟩
  obtain ⟨r, hr⟩ := mk_bytes (printP C).1
  obtain ⟨kc, hkc⟩ : ∃ kc, (printP C).2 = kc := ⟨_, rfl⟩
  have HPR : Hid (printP C = (r.data.toList, kc)) := Lib.hid (by rw [hr, ← hkc])
  obtain ⟨ck, hck⟩ : ∃ ck, C.chk = ck := ⟨_, rfl⟩
  have HCK := Lib.hid hck
  clear hr hkc hck
  go_upto_region 3 with (first | (go_at_call 5; refine (known_t _ (HEb.out _ HPP.out.2.1).1.ml).mono ?_; rintro e w2 ⟨rfl, hb⟩; have HB2 : Hid (Below w.heap.size w w2) := Lib.hid (HPP.out.2.1.trans (hb.mono HPP.out.2.1.size)); have HC2 := Lib.hid (HPP.out.1.next hb); have HT2 := Lib.hid (HPP.out.2.2.next hb); clear hb) | fail)
  have k0 := HC2.out.at 0 _ rfl
  have k1 := HC2.out.at 1 _ rfl
  have k2 := HC2.out.at 2 _ rfl
  have k3 := HC2.out.at 3 _ rfl
  have k4 := HC2.out.at 4 _ rfl
  have k5 := HC2.out.at 5 _ rfl
  have k6 := HC2.out.at 6 _ rfl
  have k7 := HC2.out.at 7 _ rfl
  have k8 := HC2.out.at 8 _ rfl
  have k9 := HC2.out.at 9 _ rfl
  have k10 := HC2.out.at 10 _ rfl
  have k11 := HC2.out.at 11 _ rfl
  have k12 := HC2.out.at 12 _ rfl
  go_upto_region 4 with (first | (go_at_call 6; refine (print_b B C r kc HPR _ (HEb.out _ HB2.out).1 (HEb.out _ HB2.out).2).mono ?_; rintro e w3 ⟨rfl, hb⟩; have HB3 : Hid (Below w.heap.size w w3) := Lib.hid (HB2.out.trans (hb.mono HB2.out.size)); have HC3 := Lib.hid (HC2.out.next hb); have HT3 := Lib.hid (HT2.out.next hb); clear hb) | fail)
  clear k0 k1 k2 k3 k4 k5 k6 k7 k8 k9 k10 k11 k12
  have k0 := HC3.out.at 0 _ rfl
  have k1 := HC3.out.at 1 _ rfl
  have k2 := HC3.out.at 2 _ rfl
  have k3 := HC3.out.at 3 _ rfl
  have k4 := HC3.out.at 4 _ rfl
  have k5 := HC3.out.at 5 _ rfl
  have k6 := HC3.out.at 6 _ rfl
  have k7 := HC3.out.at 7 _ rfl
  have k8 := HC3.out.at 8 _ rfl
  have k9 := HC3.out.at 9 _ rfl
  have k10 := HC3.out.at 10 _ rfl
  have k11 := HC3.out.at 11 _ rfl
  have k12 := HC3.out.at 12 _ rfl
  rcases C.chk_cases with ⟨h0, hok⟩ | h3
  case inr =>
    obtain rfl : ck = 3 := by rw [← HCK.out, h3]
    have hpr := HPR.out
    unfold printP at hpr
    rw [if_neg (by rw [h3]; decide)] at hpr
    simp only [Prod.mk.injEq] at hpr
    obtain ⟨hr1, rfl⟩ := hpr
    obtain rfl : r = ⟨#[]⟩ := bytes_eq hr1.symm
    clear hr1 h3 HPR
    go_wp2_with (first | (go_at_call 10; refine (rcheckC_b C 3 HCK _).mono ?_; rintro e w4 ⟨rfl, hb⟩; have HB4 : Hid (Below w.heap.size w w4) := Lib.hid (HB3.out.trans (hb.mono HB3.out.size)); clear hb) | fail)
    go_returns
    exact ⟨rfl, HB4.out⟩
  obtain rfl : ck = 0 := by rw [← HCK.out, h0]
  have hpr := HPR.out
  unfold printP at hpr
  rw [if_pos h0] at hpr
  simp only [Prod.mk.injEq] at hpr
  obtain ⟨hr1, rfl⟩ := hpr
  have HVL := Lib.hid (nats_le hok)
  have HPA : Hid (parT r.data.toList = (0, C.toL)) := Lib.hid (by rw [← hr1, parT_print C.nats (nats_len C) (nats_le hok), nats_toL hok])
  have hr8 : r.size ≤ 8000 := by rw [bsize_len, ← hr1]; have := printT_len (nats_le hok) 13 (Nat.le_refl _); unfold printT; omega
  have HOK := Lib.hid hok
  clear hr1 h0 hok HPR
  go_upto_region 6 with (first | (go_at_call 10; refine (rcheckC_b C 0 HCK _).mono ?_; rintro e w4 ⟨rfl, hb⟩; have HB4 : Hid (Below w.heap.size w w4) := Lib.hid (HB3.out.trans (hb.mono HB3.out.size)); have HC4 := Lib.hid (HC3.out.next hb); have HT4 := Lib.hid (HT3.out.next hb); clear hb) | fail)
  clear k0 k1 k2 k3 k4 k5 k6 k7 k8 k9 k10 k11 k12
  go_upto_region 7 with (first | (go_at_call 8; refine (parse_b B r hr8 C 0 HPA _ (HEb.out _ HB4.out).1 (HEb.out _ HB4.out).2).mono ?_; rintro e w5 ⟨rfl, hb⟩; have HB5 : Hid (Below w.heap.size w w5) := Lib.hid (HB4.out.trans (hb.mono HB4.out.size)); have HC5 := Lib.hid (HC4.out.next hb); have HT5 := Lib.hid (HT4.out.next hb); have HX5 := Lib.hid (cs_box w5 C); clear hb) | fail)
  obtain ⟨w6, hw6⟩ : ∃ z, (w5.alloc (.cells #[.int .i64 C.c0, .int .i64 C.c1, .int .i64 C.c2, .int .i64 C.c3, .int .i64 C.c4, .int .i64 C.c5, .int .i64 C.c6, .int .i64 C.c7, .int .i64 C.c8, .int .i64 C.c9, .int .i64 C.c10, .int .i64 C.c11, .int .i64 C.c12] 23)) = z := ⟨_, rfl⟩
  obtain ⟨q, hq⟩ : ∃ z, w5.heap.size = z := ⟨_, rfl⟩
  have HB56 : Hid (Below w5.heap.size w5 w6) := Lib.hid (by have := HX5.out.2; rw [hw6] at this; exact this)
  have HK6 : Hid (Kp w p q C w6) := Lib.hid ⟨HB5.out.trans (HB56.out.mono HB5.out.size), HC5.out.next HB56.out, by have := HX5.out.1; rw [hw6, hq] at this; exact this⟩
  have HT6 := Lib.hid (HT5.out.next HB56.out)
  have HPQ : Hid (p < q) := Lib.hid (by have := HC5.out.lt; omega)
  have HPQ2 : Hid (w.heap.size ≤ q) := Lib.hid (by rw [← hq]; exact HB5.out.size)
  rw [hw6, hq]
  clear hw6 hq HX5 HB56
  have k0 := HK6.out.cp.at 0 _ rfl
  have k1 := HK6.out.cp.at 1 _ rfl
  have k2 := HK6.out.cp.at 2 _ rfl
  have k3 := HK6.out.cp.at 3 _ rfl
  have k4 := HK6.out.cp.at 4 _ rfl
  have k5 := HK6.out.cp.at 5 _ rfl
  have k6 := HK6.out.cp.at 6 _ rfl
  have k7 := HK6.out.cp.at 7 _ rfl
  have k8 := HK6.out.cp.at 8 _ rfl
  have k9 := HK6.out.cp.at 9 _ rfl
  have k10 := HK6.out.cp.at 10 _ rfl
  have k11 := HK6.out.cp.at 11 _ rfl
  have k12 := HK6.out.cp.at 12 _ rfl
  have m0 := HK6.out.cq.at 0 _ rfl
  have m1 := HK6.out.cq.at 1 _ rfl
  have m2 := HK6.out.cq.at 2 _ rfl
  have m3 := HK6.out.cq.at 3 _ rfl
  have m4 := HK6.out.cq.at 4 _ rfl
  have m5 := HK6.out.cq.at 5 _ rfl
  have m6 := HK6.out.cq.at 6 _ rfl
  have m7 := HK6.out.cq.at 7 _ rfl
  have m8 := HK6.out.cq.at 8 _ rfl
  have m9 := HK6.out.cq.at 9 _ rfl
  have m10 := HK6.out.cq.at 10 _ rfl
  have m11 := HK6.out.cq.at 11 _ rfl
  have m12 := HK6.out.cq.at 12 _ rfl
  have n0 := HT6.out.at 0 _ rfl
  have n1 := HT6.out.at 1 _ rfl
  have n2 := HT6.out.at 2 _ rfl
  have n3 := HT6.out.at 3 _ rfl
  have n4 := HT6.out.at 4 _ rfl
  have n5 := HT6.out.at 5 _ rfl
  have n6 := HT6.out.at 6 _ rfl
  have n7 := HT6.out.at 7 _ rfl
  have n8 := HT6.out.at 8 _ rfl
  have n9 := HT6.out.at 9 _ rfl
  have n10 := HT6.out.at 10 _ rfl
  have n11 := HT6.out.at 11 _ rfl
  have n12 := HT6.out.at 12 _ rfl
  have hg1 := costGuard
  have hg2 := costHeld
  go_upto_region 9 with fail
  clear hg1 hg2
  clear k0 k1 k2 k3 k4 k5 k6 k7 k8 k9 k10 k11 k12
  clear m0 m1 m2 m3 m4 m5 m6 m7 m8 m9 m10 m11 m12
  have HW6 : Hid (Os (w6.alloc (.cells #[] 3)) w6.heap.size 0 0 (ordK T 0)) := Lib.hid ⟨⟨_, row_any w6 #[] 3, fun j hj => by omega⟩, rfl, Nat.le_refl _, by decide⟩
  have HBB : Hid (Below w6.heap.size w6 (w6.alloc (.cells #[] 3))) := Lib.hid ((Below.refl _ _).alloc (Nat.le_refl _) _)
  have HT7 : Hid (Cs (w6.alloc (.cells #[] 3)) (p + 1) [.int .u8 (T.u0 : Int), .int .u8 (T.u1 : Int), .int .u8 (T.u2 : Int), .int .u8 (T.u3 : Int), .int .u8 (T.u4 : Int), .int .u8 (T.u5 : Int), .int .u8 (T.u6 : Int), .int .u8 (T.u7 : Int), .int .u8 (T.u8 : Int), .int .u8 (T.u9 : Int), .int .u8 (T.u10 : Int), .int .u8 (T.u11 : Int), .int .u8 (T.u12 : Int)]) := Lib.hid (HT6.out.next HBB.out)
  clear n0 n1 n2 n3 n4 n5 n6 n7 n8 n9 n10 n11 n12
  have n0 := HT7.out.at 0 _ rfl
  have n1 := HT7.out.at 1 _ rfl
  have n2 := HT7.out.at 2 _ rfl
  have n3 := HT7.out.at 3 _ rfl
  have n4 := HT7.out.at 4 _ rfl
  have n5 := HT7.out.at 5 _ rfl
  have n6 := HT7.out.at 6 _ rfl
  have n7 := HT7.out.at 7 _ rfl
  have n8 := HT7.out.at 8 _ rfl
  have n9 := HT7.out.at 9 _ rfl
  have n10 := HT7.out.at 10 _ rfl
  have n11 := HT7.out.at 11 _ rfl
  have n12 := HT7.out.at 12 _ rfl
  go_wp2_with fail
  clear n0 n1 n2 n3 n4 n5 n6 n7 n8 n9 n10 n11 n12
  go_loopw [9, 51] (fun u v wr => ∃ (k b c : Nat), k ≤ 13 ∧ v = .int .i64 k ∧ u = .slice (some ⟨b, 0, none⟩) k c ∧ Hid (Os wr b k c (ordK T k)) ∧ Hid (w6.heap.size ≤ b ∧ Below w6.heap.size w6 wr)) (fun _ v _ => 13 - (intOf v).toNat)
  case atStart => exact ⟨0, _, 0, by omega, rfl, rfl, HW6, Lib.hid ⟨Nat.le_refl _, HBB.out⟩⟩
  case round =>
  clear HW6 HBB
  obtain ⟨k, b, c, hk, rfl, rfl, HO, HW⟩ := hrel
  have hk0 : (0 : Int) ≤ (k : Int) := by omega
  by_cases hlt : k < 13
  case pos =>
    have hlt' : (k : Int) < 13 := by omega
    have hi := turn_at T k hlt
    obtain ⟨m, hm⟩ : ∃ m, T.get k = m := ⟨_, rfl⟩
    rw [hm] at hi
    obtain ⟨pp, hpp⟩ : ∃ pp, m % (k + 1) = pp := ⟨_, rfl⟩
    have hpk : pp ≤ k := by have := Nat.mod_lt m (show 0 < k + 1 by omega); omega
    have hrem2 : (m : Int) % ((k : Int) + 1) = (pp : Int) := by
      have := Int.natCast_emod m (k + 1)
      rw [hpp] at this
      push_cast at this
      exact this.symm
    have hrem : (m : Int).tmod ((k : Int) + 1) = (pp : Int) := by rw [Int.tmod_eq_emod_of_nonneg (by omega)]; exact hrem2
    have hm256 : m < 256 := by rw [← hm]; exact HTT.out k hlt
    have hwm : wrap64 (m : Int) = (m : Int) := by unfold wrap64; omega
    have hwm2 : IntKind.i64.wrap (m : Int) = (m : Int) := IntWalk.i64_in _ (by omega)
    have hne0 : ¬ ((k : Int) + 1 = 0) := by omega
    have HOE : Hid (ordK T (k + 1) = insAt (ordK T k) pp k) := Lib.hid (by rw [ordK_one T k hlt HO.out.len, hm, hpp])
    have HRV : Hid ((wr.alloc (.cells #[.int .i64 (k : Int)] 3)).rowIs wr.heap.size 3 1 (fun _ => .int .i64 (k : Int))) := Lib.hid (World.rowIs_alloc wr #[.int .i64 (k : Int)] 3 _ (fun i hi => by
      have : i = 0 := by simpa using hi
      subst this
      rfl))
    have HOA := Lib.hid (HO.out.alloc (.cells #[.int .i64 (k : Int)] 3))
    have hbn : wr.heap.size ≠ b := by have := HO.out.lt; omega
    have hk100 : k ≤ 100 := by omega
    clear hm hpp hlt
    go_upto_region 14 with (first | (go_at_call 11; refine (insert_b _ b k c wr.heap.size pp k (ordK T k) HOA.out hpk hk100 HRV.out hbn).mono ?_; rintro e w8 ⟨b2, c2, rfl, ho, hb2, hf⟩; have HO8 : Hid (Os w8 b2 (k + 1) c2 (ordK T (k + 1))) := Lib.hid (by rw [HOE.out]; exact ho); have HF8 := Lib.hid (And.intro hb2 hf); clear ho hb2 hf) | fail)
    have HW8 : Hid (w6.heap.size ≤ b2 ∧ Below w6.heap.size w6 w8) := Lib.hid ⟨by
      rcases HF8.out.1 with h | h
      · rw [h]; exact HW.out.1
      · refine Nat.le_trans (Nat.le_trans HW.out.2.size ?_) h; simp, HF8.out.2.below (HW.out.2.alloc HW.out.2.size _) (fun j hj => by have := HW.out.1; omega) (by have := HW.out.2.size; simp; omega)⟩
    go_wp2_with fail
    go_roundw
    case rel => exact ⟨k + 1, b2, c2, by omega, by go_num, rfl, HO8, HW8⟩
    case measure => simp [intOf]; omega
  have hge : ¬ ((k : Int) < 13) := by omega
  obtain rfl : k = 13 := by omega
  obtain ⟨O, hO⟩ : ∃ O, ordK T 13 = O := ⟨_, rfl⟩
  have hall := ordT_all T.toL T.len
  have hO2 : O = ordT 0 [] T.toL := by rw [← hO]; unfold ordK; rw [List.take_of_length_le (by rw [T.len]; exact Nat.le_refl _)]
  rw [← hO2] at hall
  rw [hO] at HO
  have HAL := Lib.hid hall
  have HO2 := Lib.hid hO2
  have HKr := Lib.hid (HK6.out.next HW.out.2)
  have HKS : Hid (∀ w', Below wr.heap.size wr w' → w'.cell? ⟨p, 0, none⟩ = some (.int .i64 C.c0) ∧ w'.cell? ⟨p, 1, none⟩ = some (.int .i64 C.c1) ∧ w'.cell? ⟨p, 2, none⟩ = some (.int .i64 C.c2) ∧ w'.cell? ⟨p, 3, none⟩ = some (.int .i64 C.c3) ∧ w'.cell? ⟨p, 4, none⟩ = some (.int .i64 C.c4) ∧ w'.cell? ⟨p, 5, none⟩ = some (.int .i64 C.c5) ∧ w'.cell? ⟨p, 6, none⟩ = some (.int .i64 C.c6) ∧ w'.cell? ⟨p, 7, none⟩ = some (.int .i64 C.c7) ∧ w'.cell? ⟨p, 8, none⟩ = some (.int .i64 C.c8) ∧ w'.cell? ⟨p, 9, none⟩ = some (.int .i64 C.c9) ∧ w'.cell? ⟨p, 10, none⟩ = some (.int .i64 C.c10) ∧ w'.cell? ⟨p, 11, none⟩ = some (.int .i64 C.c11) ∧ w'.cell? ⟨p, 12, none⟩ = some (.int .i64 C.c12)) := Lib.hid fun w' hb => by
    have h := HKr.out.cp.next hb
    exact ⟨h.at 0 _ rfl, h.at 1 _ rfl, h.at 2 _ rfl, h.at 3 _ rfl, h.at 4 _ rfl, h.at 5 _ rfl, h.at 6 _ rfl, h.at 7 _ rfl, h.at 8 _ rfl, h.at 9 _ rfl, h.at 10 _ rfl, h.at 11 _ rfl, h.at 12 _ rfl⟩
  clear hO hO2 hall hlt hk
  have k0 := HKr.out.cp.at 0 _ rfl
  have k1 := HKr.out.cp.at 1 _ rfl
  have k2 := HKr.out.cp.at 2 _ rfl
  have k3 := HKr.out.cp.at 3 _ rfl
  have k4 := HKr.out.cp.at 4 _ rfl
  have k5 := HKr.out.cp.at 5 _ rfl
  have k6 := HKr.out.cp.at 6 _ rfl
  have k7 := HKr.out.cp.at 7 _ rfl
  have k8 := HKr.out.cp.at 8 _ rfl
  have k9 := HKr.out.cp.at 9 _ rfl
  have k10 := HKr.out.cp.at 10 _ rfl
  have k11 := HKr.out.cp.at 11 _ rfl
  have k12 := HKr.out.cp.at 12 _ rfl
  go_upto_region 15 with fail
  go_region_held3 (fun W => W.cell? ⟨p, 0, none⟩ = some (.int .i64 C.c0) ∧ W.cell? ⟨p, 1, none⟩ = some (.int .i64 C.c1) ∧ W.cell? ⟨p, 2, none⟩ = some (.int .i64 C.c2) ∧ W.cell? ⟨p, 3, none⟩ = some (.int .i64 C.c3) ∧ W.cell? ⟨p, 4, none⟩ = some (.int .i64 C.c4) ∧ W.cell? ⟨p, 5, none⟩ = some (.int .i64 C.c5) ∧ W.cell? ⟨p, 6, none⟩ = some (.int .i64 C.c6) ∧ W.cell? ⟨p, 7, none⟩ = some (.int .i64 C.c7) ∧ W.cell? ⟨p, 8, none⟩ = some (.int .i64 C.c8) ∧ W.cell? ⟨p, 9, none⟩ = some (.int .i64 C.c9) ∧ W.cell? ⟨p, 10, none⟩ = some (.int .i64 C.c10) ∧ W.cell? ⟨p, 11, none⟩ = some (.int .i64 C.c11) ∧ W.cell? ⟨p, 12, none⟩ = some (.int .i64 C.c12)) (with_reducible first | exact HKS.out _ (Below.refl _ _).drew | exact HKS.out _ HB10.out | exact HKS.out _ HB9.out) (first | (go_at_call 13; refine (rlist_b C _).mono ?_; rintro e w9 ⟨⟨v, rfl, hl⟩, hb⟩; have HB9 : Hid (Below wr.heap.size wr w9) := Lib.hid (HB10.out.trans (hb.mono HB10.out.size)); have HN9 := Lib.hid (HN10.out.next hb); have HL9 := Lib.hid hl; clear hb hl) | (go_at_call 12; refine (rnames_b _).mono ?_; rintro e w10 ⟨g, rfl, _, hc, hb⟩; have HB10 : Hid (Below wr.heap.size wr w10) := Lib.hid ((Below.refl _ _).drew.trans hb); have HN10 := Lib.hid hc; clear hb hc))
  clear k0 k1 k2 k3 k4 k5 k6 k7 k8 k9 k10 k11 k12
  have HK9 := Lib.hid (HKr.out.next HB9.out)
  have HO9 := Lib.hid (HO.out.next HB9.out)
  obtain ⟨gl, fl, cl, hvl, hgl, hcl⟩ := HL9.out
  subst hvl
  have HLC := Lib.hid (And.intro hgl hcl)
  have HW0 := Lib.hid (Below.refl w9.heap.size w9)
  clear hgl hcl HKr HO HKS
  go_wp2_with fail
  go_loopw [14, 71] (fun u v wr => ∃ (k : Nat) (s : ByteArray), k ≤ 13 ∧ v = .int .i64 k ∧ u = .string s ∧ Hid (s.data.toList = textO C.nats O k) ∧ Hid (Below w9.heap.size w9 wr)) (fun _ v _ => 13 - (intOf v).toNat)
  case atStart => exact ⟨0, ⟨#[]⟩, by omega, rfl, rfl, Lib.hid rfl, HW0⟩
  case round =>
  clear HW0
  obtain ⟨k, s, hk, rfl, rfl, HT, HW9⟩ := hrel
  have hk0 : (0 : Int) ≤ (k : Int) := by omega
  by_cases hlt : k < 13
  case pos =>
    have hlt' : (k : Int) < 13 := by omega
    have hOl : O.length = 13 := HAL.out.2.2.2
    obtain ⟨o, ho⟩ : ∃ o, O.getD k 0 = o := ⟨_, rfl⟩
    have ho13 : o < 13 := by
      rw [← ho, List.getD_eq_getElem?_getD, List.getElem?_eq_getElem (by omega)]
      exact HAL.out.2.1 _ (List.getElem_mem _)
    obtain ⟨m, hm⟩ : ∃ m : Nat, C.get o = (m : Int) := ⟨(C.get o).toNat, by have := HOK.out o ho13; omega⟩
    have hm100 : m ≤ 100 := by have := HOK.out o ho13; omega
    have hmn : C.nats.getD o 0 = m := by rw [nats_at C o ho13, hm]; omega
    obtain ⟨x, hx⟩ : ∃ x, nmB o = x := ⟨_, rfl⟩
    have hgs : g < wr.heap.size := Nat.lt_of_lt_of_le HN9.out.lt HW9.out.size
    have hgls : gl < wr.heap.size := Nat.lt_of_lt_of_le HLC.out.1 HW9.out.size
    have hc1 : wr.cell? ⟨g, o, none⟩ = some (.string x) := by rw [← hx]; exact (HW9.out.cell (p := ⟨g, o, none⟩) HN9.out.lt).trans (HN9.out.at o _ (nmsL_at o ho13))
    have hc2 : wr.cell? ⟨gl, fl + o, none⟩ = some (.int .i64 m) := by rw [← hm]; exact (HW9.out.cell (p := ⟨gl, fl + o, none⟩) HLC.out.1).trans (HLC.out.2 o ho13)
    have HOw := Lib.hid (HO9.out.next HW9.out)
    have hc0 : wr.cell? ⟨b, k, none⟩ = some (.int .i64 (o : Int)) := by rw [← ho]; exact HOw.out.at k hlt
    have hbl := HOw.out.lt
    have HSS : Hid (∀ w', Below wr.heap.size wr w' → w'.cell? ⟨g, o, none⟩ = some (.string x) ∧ w'.cell? ⟨gl, fl + o, none⟩ = some (.int .i64 m)) := Lib.hid fun w' hb => ⟨(hb.cell (p := ⟨g, o, none⟩) hgs).trans hc1, (hb.cell (p := ⟨gl, fl + o, none⟩) hgls).trans hc2⟩
    obtain ⟨s1, hs1⟩ := mk_bytes (if k = 0 then [] else s.data.toList ++ [32, 32, 44, 32])
    obtain ⟨z1, hz1⟩ := mk_bytes (x.data.toList ++ [32])
    obtain ⟨d, hd⟩ := mk_bytes (decT m)
    obtain ⟨z2, hz2⟩ := mk_bytes (z1.data.toList ++ d.data.toList)
    obtain ⟨z3, hz3⟩ := mk_bytes (s1.data.toList ++ z2.data.toList)
    have hz3e : z3.data.toList = textO C.nats O (k + 1) := by
      rw [textO_one _ _ _ (by omega), hz3, hz2, hz1, hs1, hd, HT.out, ho]
      congr 1
      unfold pieceT
      rw [hmn, ← hx, nmB_data, List.append_assoc]
      rfl
    have HZ3 := Lib.hid hz3e
    have hzl : z3.data.toList.length ≤ 300 := by rw [hz3e]; exact textO_len HVL.out HAL.out.2.1 (k + 1) (by omega)
    have hl2 : s1.data.toList.length + z2.data.toList.length ≤ 300 := by rw [hz3, List.length_append] at hzl; exact hzl
    have hl1 : z1.data.toList.length ≤ 300 := by rw [hz2, List.length_append] at hl2; omega
    have ad1 := add_fact x ⟨#[32]⟩ z1 (by rw [hz1]) (by omega)
    have ad2 := add_fact z1 d z2 hz2.symm (by omega)
    have ad3 := add_fact s1 z2 z3 hz3.symm (by omega)
    have HD := Lib.hid hd
    have ho0 : (0 : Int) ≤ (o : Int) := by omega
    have ho13' : (o : Int) < 13 := by omega
    by_cases hk00 : k = 0
    · obtain rfl : s = ⟨#[]⟩ := bytes_eq (by rw [HT.out, hk00]; rfl)
      obtain rfl : s1 = ⟨#[]⟩ := bytes_eq (by rw [hs1, if_pos hk00])
      have hkz : ¬ (0 : Int) < (k : Int) := by omega
      clear hz3 hz2 hz1 hs1 hd hx hm hmn hzl hl2 hl1 hz3e HT ho hOl hk00
      go_upto_region 22 with fail
      go_region_held3 (fun W => W.cell? ⟨g, o, none⟩ = some (.string x) ∧ W.cell? ⟨gl, fl + o, none⟩ = some (.int .i64 m)) (with_reducible first | exact HSS.out _ (Below.refl _ _).drew | exact HSS.out _ HB5z.out) (first | (go_at_call 14; refine (num_c m hm100 d HD _).mono ?_; rintro e w5z ⟨rfl, hb⟩; have HB5z : Hid (Below wr.heap.size wr w5z) := Lib.hid ((Below.refl _ _).drew.trans hb); clear hb))
      have HW5 := Lib.hid (HW9.out.trans (HB5z.out.mono HW9.out.size))
      go_wp2_with fail
      go_roundw
      case rel => exact ⟨k + 1, z3, by omega, by go_num, rfl, HZ3, HW5⟩
      case measure => simp [intOf]; omega
    · have ad0 := add_fact s ⟨#[32, 32, 44, 32]⟩ s1 (by rw [hs1, if_neg hk00]) (by omega)
      have hk2 : (0 : Int) < (k : Int) := by omega
      clear hz3 hz2 hz1 hs1 hd hx hm hmn hzl hl2 hl1 hz3e HT ho hOl
      go_upto_region 22 with fail
      go_region_held3 (fun W => W.cell? ⟨g, o, none⟩ = some (.string x) ∧ W.cell? ⟨gl, fl + o, none⟩ = some (.int .i64 m)) (with_reducible first | exact HSS.out _ (Below.refl _ _).drew | exact HSS.out _ HB5z.out) (first | (go_at_call 14; refine (num_c m hm100 d HD _).mono ?_; rintro e w5z ⟨rfl, hb⟩; have HB5z : Hid (Below wr.heap.size wr w5z) := Lib.hid ((Below.refl _ _).drew.trans hb); clear hb))
      have HW5 := Lib.hid (HW9.out.trans (HB5z.out.mono HW9.out.size))
      go_wp2_with fail
      go_roundw
      case rel => exact ⟨k + 1, z3, by omega, by go_num, rfl, HZ3, HW5⟩
      case measure => simp [intOf]; omega
  have hge : ¬ ((k : Int) < 13) := by omega
  obtain rfl : k = 13 := by omega
  have HKz := Lib.hid (HK9.out.next HW9.out)
  have hsd : s.data.toList = textT 2 1 ((ordT 0 [] T.toL).map (pieceT C.nats)) := by
    rw [HT.out]
    unfold textO
    rw [List.take_of_length_le (by rw [HAL.out.2.2.2]; exact Nat.le_refl _), HO2.out]
  have HPB : Hid (parT s.data.toList = (0, C.toL)) := Lib.hid (by rw [hsd, parT_turn C.nats (nats_len C) HVL.out T.toL T.len, nats_toL HOK.out])
  have hs8 : s.size ≤ 8000 := by rw [bsize_len, HT.out]; have := textO_len HVL.out HAL.out.2.1 13 (Nat.le_refl _); omega
  have hpq : ¬ p = q := by have := HPQ.out; omega
  have hqp : ¬ q = p := by have := HPQ.out; omega
  clear hsd HT hlt
  go_upto_region 24 with fail
  go_upto_region 25 with (first | (go_at_call 8; refine (parse_b B s hs8 C 0 HPB _ (HEb.out _ HKz.out.bel).1 (HEb.out _ HKz.out.bel).2).mono ?_; rintro e wz ⟨rfl, hb⟩; have HKy := Lib.hid (HKz.out.next hb); clear hb; have k0 := HKy.out.cp.at 0 _ rfl; have m0 := HKy.out.cq.at 0 _ rfl; have f0 := HKy.out.cq.free 0; have k1 := HKy.out.cp.at 1 _ rfl; have m1 := HKy.out.cq.at 1 _ rfl; have f1 := HKy.out.cq.free 1; have k2 := HKy.out.cp.at 2 _ rfl; have m2 := HKy.out.cq.at 2 _ rfl; have f2 := HKy.out.cq.free 2; have k3 := HKy.out.cp.at 3 _ rfl; have m3 := HKy.out.cq.at 3 _ rfl; have f3 := HKy.out.cq.free 3; have k4 := HKy.out.cp.at 4 _ rfl; have m4 := HKy.out.cq.at 4 _ rfl; have f4 := HKy.out.cq.free 4; have k5 := HKy.out.cp.at 5 _ rfl; have m5 := HKy.out.cq.at 5 _ rfl; have f5 := HKy.out.cq.free 5; have k6 := HKy.out.cp.at 6 _ rfl; have m6 := HKy.out.cq.at 6 _ rfl; have f6 := HKy.out.cq.free 6; have k7 := HKy.out.cp.at 7 _ rfl; have m7 := HKy.out.cq.at 7 _ rfl; have f7 := HKy.out.cq.free 7; have k8 := HKy.out.cp.at 8 _ rfl; have m8 := HKy.out.cq.at 8 _ rfl; have f8 := HKy.out.cq.free 8; have k9 := HKy.out.cp.at 9 _ rfl; have m9 := HKy.out.cq.at 9 _ rfl; have f9 := HKy.out.cq.free 9; have k10 := HKy.out.cp.at 10 _ rfl; have m10 := HKy.out.cq.at 10 _ rfl; have f10 := HKy.out.cq.free 10; have k11 := HKy.out.cp.at 11 _ rfl; have m11 := HKy.out.cq.at 11 _ rfl; have f11 := HKy.out.cq.free 11; have k12 := HKy.out.cp.at 12 _ rfl; have m12 := HKy.out.cq.at 12 _ rfl; have f12 := HKy.out.cq.free 12; have hql := HKy.out.cq.lt) | fail)
  obtain ⟨wf, hwf⟩ : ∃ z, (((((((((((((wz.setCell ⟨q, 0, none⟩ (.int .i64 C.c0)).setCell ⟨q, 1, none⟩ (.int .i64 C.c1)).setCell ⟨q, 2, none⟩ (.int .i64 C.c2)).setCell ⟨q, 3, none⟩ (.int .i64 C.c3)).setCell ⟨q, 4, none⟩ (.int .i64 C.c4)).setCell ⟨q, 5, none⟩ (.int .i64 C.c5)).setCell ⟨q, 6, none⟩ (.int .i64 C.c6)).setCell ⟨q, 7, none⟩ (.int .i64 C.c7)).setCell ⟨q, 8, none⟩ (.int .i64 C.c8)).setCell ⟨q, 9, none⟩ (.int .i64 C.c9)).setCell ⟨q, 10, none⟩ (.int .i64 C.c10)).setCell ⟨q, 11, none⟩ (.int .i64 C.c11)).setCell ⟨q, 12, none⟩ (.int .i64 C.c12)) = z := ⟨_, rfl⟩
  have HCq : Hid (Cs wf q [.int .i64 C.c0, .int .i64 C.c1, .int .i64 C.c2, .int .i64 C.c3, .int .i64 C.c4, .int .i64 C.c5, .int .i64 C.c6, .int .i64 C.c7, .int .i64 C.c8, .int .i64 C.c9, .int .i64 C.c10, .int .i64 C.c11, .int .i64 C.c12]) := Lib.hid (by rw [← hwf]; exact HKy.out.cq.set13 rfl _ _ _ _ _ _ _ _ _ _ _ _ _)
  have HCp : Hid (Cs wf p [.int .i64 C.c0, .int .i64 C.c1, .int .i64 C.c2, .int .i64 C.c3, .int .i64 C.c4, .int .i64 C.c5, .int .i64 C.c6, .int .i64 C.c7, .int .i64 C.c8, .int .i64 C.c9, .int .i64 C.c10, .int .i64 C.c11, .int .i64 C.c12]) := Lib.hid (by rw [← hwf]; exact ((((((((((((HKy.out.cp.other (by show q ≠ p; exact hqp) _).other (by show q ≠ p; exact hqp) _).other (by show q ≠ p; exact hqp) _).other (by show q ≠ p; exact hqp) _).other (by show q ≠ p; exact hqp) _).other (by show q ≠ p; exact hqp) _).other (by show q ≠ p; exact hqp) _).other (by show q ≠ p; exact hqp) _).other (by show q ≠ p; exact hqp) _).other (by show q ≠ p; exact hqp) _).other (by show q ≠ p; exact hqp) _).other (by show q ≠ p; exact hqp) _).other (by show q ≠ p; exact hqp) _)
  have HBf : Hid (Below w.heap.size w wf) := Lib.hid (by rw [← hwf]; exact below13 HKy.out.bel (by have := HPP.out.2.1.size; have := HPQ2.out; omega) _ _ _ _ _ _ _ _ _ _ _ _ _)
  rw [hwf]
  clear hwf hql k0 m0 f0 k1 m1 f1 k2 m2 f2 k3 m3 f3 k4 m4 f4 k5 m5 f5 k6 m6 f6 k7 m7 f7 k8 m8 f8 k9 m9 f9 k10 m10 f10 k11 m11 f11 k12 m12 f12
  have k0 := HCp.out.at 0 _ rfl
  have k1 := HCp.out.at 1 _ rfl
  have k2 := HCp.out.at 2 _ rfl
  have k3 := HCp.out.at 3 _ rfl
  have k4 := HCp.out.at 4 _ rfl
  have k5 := HCp.out.at 5 _ rfl
  have k6 := HCp.out.at 6 _ rfl
  have k7 := HCp.out.at 7 _ rfl
  have k8 := HCp.out.at 8 _ rfl
  have k9 := HCp.out.at 9 _ rfl
  have k10 := HCp.out.at 10 _ rfl
  have k11 := HCp.out.at 11 _ rfl
  have k12 := HCp.out.at 12 _ rfl
  have m0 := HCq.out.at 0 _ rfl
  have m1 := HCq.out.at 1 _ rfl
  have m2 := HCq.out.at 2 _ rfl
  have m3 := HCq.out.at 3 _ rfl
  have m4 := HCq.out.at 4 _ rfl
  have m5 := HCq.out.at 5 _ rfl
  have m6 := HCq.out.at 6 _ rfl
  have m7 := HCq.out.at 7 _ rfl
  have m8 := HCq.out.at 8 _ rfl
  have m9 := HCq.out.at 9 _ rfl
  have m10 := HCq.out.at 10 _ rfl
  have m11 := HCq.out.at 11 _ rfl
  have m12 := HCq.out.at 12 _ rfl
  have hg1 := costGuard
  have hg2 := costHeld
  go_wp2_with fail
  go_returns
  exact ⟨rfl, HBf.out⟩
end Go.Proofs.YthlhicegchkjjaaGreatDoor
