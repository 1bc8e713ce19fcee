/-
  Texts of cost models: the walk over the reference's Parse.
-/
import Derived.Test.YthlhicegchkjjaaGreatDoorCtQ
import Derived.Test.YthlhicegchkjjaaGreatDoorCtOf
namespace Go.Proofs.YthlhicegchkjjaaGreatDoor
open Go.RowKit

/-- Between two pieces: the result's block, the entries, which are set. -/
structure Pr (w : World) (p b : Nat) (W : World) (L : List Int) (sn : List Bool) : Prop where
  bel : Below w.heap.size w W
  hp : w.heap.size ≤ p ∧ p < b
  c0 : Cs W p [.int .i64 0, .int .i64 0, .int .i64 0, .int .i64 0, .int .i64 0, .int .i64 0, .int .i64 0, .int .i64 0, .int .i64 0, .int .i64 0, .int .i64 0, .int .i64 0, .int .i64 0]
  cl : Cs W b (ivs L)
  cs : Cs W (b + 1) (sn.map Value.bool)
  ll : L.length = 13
  ls : sn.length = 13
theorem Pr.next {w W W' : World} {p b : Nat} {L : List Int} {sn : List Bool} (h : Pr w p b W L sn) (hb : Below W.heap.size W W') : Pr w p b W' L sn :=
  ⟨h.bel.trans (hb.mono h.bel.size), h.hp, h.c0.next hb, h.cl.next hb, h.cs.next hb, h.ll, h.ls⟩
theorem Pr.put {w W : World} {p b : Nat} {L : List Int} {sn : List Bool} (h : Pr w p b W L sn) (i : Nat) (hi : i < 13) (n : Int) : Pr w p b ((W.setCell ⟨b, i, none⟩ (.int .i64 n)).setCell ⟨b + 1, i, none⟩ (.bool true)) (L.set i n) (sn.set i true) := by
  have hp := h.hp
  refine ⟨(h.bel.setCell (by show w.heap.size ≤ b; omega) _).setCell (by show w.heap.size ≤ b + 1; omega) _, hp, (h.c0.other (by show b ≠ p; omega) _).other (by show b + 1 ≠ p; omega) _, ?_, ?_, by rw [List.length_set]; exact h.ll, by rw [List.length_set]; exact h.ls⟩
  · have := (h.cl.set i (.int .i64 n) (by unfold ivs; rw [List.length_map, h.ll]; exact hi)).other (p := ⟨b + 1, i, none⟩) (by show b + 1 ≠ b; omega) (.bool true)
    unfold ivs at this ⊢
    rw [List.map_set]
    exact this
  · have := (h.cs.other (p := ⟨b, i, none⟩) (by show b ≠ b + 1; omega) (.int .i64 n)).set i (.bool true) (by rw [List.length_map, h.ls]; exact hi)
    rw [List.map_set]
    exact this
theorem lc_of {W : World} {b : Nat} {C : CM} (h : Cs W b (ivs C.toL)) : LC W (.slice (some ⟨b, 0, none⟩) 13 13) C := by
  refine ⟨b, 0, 13, rfl, h.lt, ?_⟩
  rw [ivs_toL] at h
  exact forall13 (h.at 0 _ rfl) (h.at 1 _ rfl) (h.at 2 _ rfl) (h.at 3 _ rfl) (h.at 4 _ rfl) (h.at 5 _ rfl) (h.at 6 _ rfl) (h.at 7 _ rfl) (h.at 8 _ rfl) (h.at 9 _ rfl) (h.at 10 _ rfl) (h.at 11 _ rfl) (h.at 12 _ rfl)
/-- One piece, as the reference looks at it. -/
theorem step_syn {L : List Int} {sn : List Bool} {s : List UInt8} (h : partT (Lib.trimB s 32) = none) : stepT L sn s = (6, L, sn) := by
  unfold stepT; rw [h]
theorem step_some {L : List Int} {sn : List Bool} {s w d : List UInt8} (h : partT (Lib.trimB s 32) = some (w, d)) : stepT L sn s = if findT w < 0 then (7, L, sn) else if sn.getD (findT w).toNat false = true then (8, L, sn) else if 100 < satD 0 d then (3, L, sn) else (0, L.set (findT w).toNat (satD 0 d : Nat), sn.set (findT w).toNat true) := by
  unfold stepT findT
  rw [h]
  simp only
  cases hn : nameIx w with
  | none => simp
  | some i =>
    simp only
    rw [if_neg (show ¬ ((i : Nat) : Int) < 0 by omega), Int.toNat_natCast]
    obtain ⟨h1, h2⟩ := satD_val d 0
    by_cases hv : valD 0 d ≤ 100
    · rw [h1 hv]
    · rw [if_pos (show 100 < valD 0 d by omega), if_pos (h2 (by omega))]
theorem made_rep (z : Value) (hz : z.cells = #[z]) (n : Nat) : madeCells z.cells (n * 1) = (List.replicate n z).toArray := by
  refine Array.ext (by simp [madeCells, hz]) fun k h1 h2 => ?_
  simp [madeCells, hz, Nat.mod_one]
theorem make_ints (w : World) : (Instr.makeSlice 33 (.int .i64 13) (.int .i64 13)).run Tryz.prog w = .ok (.slice (some ⟨w.heap.size, 0, none⟩) 13 13) (w.alloc (.cells #[.int .i64 0, .int .i64 0, .int .i64 0, .int .i64 0, .int .i64 0, .int .i64 0, .int .i64 0, .int .i64 0, .int .i64 0, .int .i64 0, .int .i64 0, .int .i64 0, .int .i64 0] 3)) := by
  obtain ⟨i, hi, hz0, hz1, hz2⟩ := info_parts (P := Tryz.prog) (e := 3) (z := .int .i64 0) (size := 1) (bytes := 8) (by kernel_rfl)
  have h := run_make (P := Tryz.prog) w 33 3 i (.int .i64 0) Tryz.underlying33 hi hz0 .i64 .i64 13 13 (by omega) (by omega) (by rw [hz2]; omega) (by omega)
  rw [h, hz1, show (13 : Int).toNat = 13 from rfl, made_rep _ rfl]
  rfl
theorem make_bools (w : World) : (Instr.makeSlice 62 (.int .i64 13) (.int .i64 13)).run Tryz.prog w = .ok (.slice (some ⟨w.heap.size, 0, none⟩) 13 13) (w.alloc (.cells #[.bool false, .bool false, .bool false, .bool false, .bool false, .bool false, .bool false, .bool false, .bool false, .bool false, .bool false, .bool false, .bool false] 4)) := by
  obtain ⟨i, hi, hz0, hz1, hz2⟩ := info_parts (P := Tryz.prog) (e := 4) (z := .bool false) (size := 1) (bytes := 1) (by kernel_rfl)
  have h := run_make (P := Tryz.prog) w 62 4 i (.bool false) Tryz.underlying62 hi hz0 .i64 .i64 13 13 (by omega) (by omega) (by rw [hz2]; omega) (by omega)
  rw [h, hz1, show (13 : Int).toNat = 13 from rfl, made_rep _ rfl]
  rfl
theorem pr_new (w : World) (T1 T2 T3 : TypeId) : Pr w w.heap.size (w.heap.size + 1) (((w.alloc (.cells #[.int .i64 0, .int .i64 0, .int .i64 0, .int .i64 0, .int .i64 0, .int .i64 0, .int .i64 0, .int .i64 0, .int .i64 0, .int .i64 0, .int .i64 0, .int .i64 0, .int .i64 0] T1)).alloc (.cells #[.int .i64 0, .int .i64 0, .int .i64 0, .int .i64 0, .int .i64 0, .int .i64 0, .int .i64 0, .int .i64 0, .int .i64 0, .int .i64 0, .int .i64 0, .int .i64 0, .int .i64 0] T2)).alloc (.cells #[.bool false, .bool false, .bool false, .bool false, .bool false, .bool false, .bool false, .bool false, .bool false, .bool false, .bool false, .bool false, .bool false] T3)) zeroL (List.replicate 13 false) := by
  have e1 : (w.alloc (.cells #[.int .i64 0, .int .i64 0, .int .i64 0, .int .i64 0, .int .i64 0, .int .i64 0, .int .i64 0, .int .i64 0, .int .i64 0, .int .i64 0, .int .i64 0, .int .i64 0, .int .i64 0] T1)).heap.size = w.heap.size + 1 := by simp
  have e2 : ((w.alloc (.cells #[.int .i64 0, .int .i64 0, .int .i64 0, .int .i64 0, .int .i64 0, .int .i64 0, .int .i64 0, .int .i64 0, .int .i64 0, .int .i64 0, .int .i64 0, .int .i64 0, .int .i64 0] T1)).alloc (.cells #[.int .i64 0, .int .i64 0, .int .i64 0, .int .i64 0, .int .i64 0, .int .i64 0, .int .i64 0, .int .i64 0, .int .i64 0, .int .i64 0, .int .i64 0, .int .i64 0, .int .i64 0] T2)).heap.size = w.heap.size + 2 := by simp
  refine ⟨(((Below.refl _ _).alloc (Nat.le_refl _) _).alloc (by omega) _).alloc (by omega) _, ⟨Nat.le_refl _, by omega⟩, ((Cs.new w _ _).alloc _).alloc _, ?_, ?_, rfl, rfl⟩
  · have h := (Cs.new (w.alloc (.cells #[.int .i64 0, .int .i64 0, .int .i64 0, .int .i64 0, .int .i64 0, .int .i64 0, .int .i64 0, .int .i64 0, .int .i64 0, .int .i64 0, .int .i64 0, .int .i64 0, .int .i64 0] T1)) #[.int .i64 0, .int .i64 0, .int .i64 0, .int .i64 0, .int .i64 0, .int .i64 0, .int .i64 0, .int .i64 0, .int .i64 0, .int .i64 0, .int .i64 0, .int .i64 0, .int .i64 0] T2).alloc (.cells #[.bool false, .bool false, .bool false, .bool false, .bool false, .bool false, .bool false, .bool false, .bool false, .bool false, .bool false, .bool false, .bool false] T3)
    rw [e1] at h
    exact h
  · have h := Cs.new ((w.alloc (.cells #[.int .i64 0, .int .i64 0, .int .i64 0, .int .i64 0, .int .i64 0, .int .i64 0, .int .i64 0, .int .i64 0, .int .i64 0, .int .i64 0, .int .i64 0, .int .i64 0, .int .i64 0] T1)).alloc (.cells #[.int .i64 0, .int .i64 0, .int .i64 0, .int .i64 0, .int .i64 0, .int .i64 0, .int .i64 0, .int .i64 0, .int .i64 0, .int .i64 0, .int .i64 0, .int .i64 0, .int .i64 0] T2)) #[.bool false, .bool false, .bool false, .bool false, .bool false, .bool false, .bool false, .bool false, .bool false, .bool false, .bool false, .bool false, .bool false] T3
    rw [e2] at h
    exact h
theorem runT_cons (L : List Int) (sn : List Bool) (s : List UInt8) (r : List (List UInt8)) : runT L sn (s :: r) = if (stepT L sn s).1 ≠ 0 then ((stepT L sn s).1, zeroL) else runT (stepT L sn s).2.1 (stepT L sn s).2.2 r := rfl
set_option maxRecDepth 100000 in
set_option maxHeartbeats 8000000 in
theorem rparse_b (x : ByteArray) (hx : x.size ≤ 8000) (C : CM) (c : Int) (H : Hid (parT x.data.toList = (c, C.toL))) (w : World) :
    Calls Tryz.prog 9 #[.string x] w fun e w' => e = .returned (.tuple #[.agg #[.int .i64 C.c0, .int .i64 C.c1, .int .i64 C.c2, .int .i64 C.c3, .int .i64 C.c4, .int .i64 C.c5, .int .i64 C.c6, .int .i64 C.c7, .int .i64 C.c8, .int .i64 C.c9, .int .i64 C.c10, .int .i64 C.c11, .int .i64 C.c12], .int .i64 c]) ∧ Below w.heap.size w w' := by
  have hxl : x.data.toList.length ≤ 8000 := by rw [← bsize_len]; exact hx
  have hx9 : x.size ≤ 9000 := by omega
  have hxi : ¬ (8192 : Int) < (x.size : Int) := by omega
  obtain ⟨u, hu⟩ := mk_bytes (Lib.trimB x.data.toList 32)
  have HU := Lib.hid hu
  have HN := Lib.hid (pr_new w 23 3 4)
  have hmi := make_ints
  clear hu
  go_enter Tryz.func9, Tryz.ntmps9
  by_cases hu0 : u.toList.isEmpty = true
  · have hz : Lib.trimB x.data.toList 32 = [] := by rw [← HU.out, ← Lib.toList_data]; exact List.isEmpty_iff.1 hu0
    have hr := H.out
    unfold parT at hr
    rw [if_neg (by omega), if_pos hz] at hr
    simp only [Prod.mk.injEq] at hr
    obtain ⟨rfl, hr⟩ := hr
    obtain rfl := toL_zero hr.symm
    clear H hz hr
    have HC1 : Hid (Cs ((w.alloc (.cells #[.int .i64 0, .int .i64 0, .int .i64 0, .int .i64 0, .int .i64 0, .int .i64 0, .int .i64 0, .int .i64 0, .int .i64 0, .int .i64 0, .int .i64 0, .int .i64 0, .int .i64 0] 23)).alloc (.cells #[.int .i64 0, .int .i64 0, .int .i64 0, .int .i64 0, .int .i64 0, .int .i64 0, .int .i64 0, .int .i64 0, .int .i64 0, .int .i64 0, .int .i64 0, .int .i64 0, .int .i64 0] 3)) w.heap.size [.int .i64 0, .int .i64 0, .int .i64 0, .int .i64 0, .int .i64 0, .int .i64 0, .int .i64 0, .int .i64 0, .int .i64 0, .int .i64 0, .int .i64 0, .int .i64 0, .int .i64 0] ∧ LC ((w.alloc (.cells #[.int .i64 0, .int .i64 0, .int .i64 0, .int .i64 0, .int .i64 0, .int .i64 0, .int .i64 0, .int .i64 0, .int .i64 0, .int .i64 0, .int .i64 0, .int .i64 0, .int .i64 0] 23)).alloc (.cells #[.int .i64 0, .int .i64 0, .int .i64 0, .int .i64 0, .int .i64 0, .int .i64 0, .int .i64 0, .int .i64 0, .int .i64 0, .int .i64 0, .int .i64 0, .int .i64 0, .int .i64 0] 3)) (.slice (some ⟨w.heap.size + 1, 0, none⟩) 13 13) ⟨0, 0, 0, 0, 0, 0, 0, 0, 0, 0, 0, 0, 0⟩ ∧ Below w.heap.size w ((w.alloc (.cells #[.int .i64 0, .int .i64 0, .int .i64 0, .int .i64 0, .int .i64 0, .int .i64 0, .int .i64 0, .int .i64 0, .int .i64 0, .int .i64 0, .int .i64 0, .int .i64 0, .int .i64 0] 23)).alloc (.cells #[.int .i64 0, .int .i64 0, .int .i64 0, .int .i64 0, .int .i64 0, .int .i64 0, .int .i64 0, .int .i64 0, .int .i64 0, .int .i64 0, .int .i64 0, .int .i64 0, .int .i64 0] 3))) := Lib.hid ⟨(Cs.new w _ _).alloc _, lc_of (C := ⟨0, 0, 0, 0, 0, 0, 0, 0, 0, 0, 0, 0, 0⟩) (by
      have h := Cs.new (w.alloc (.cells #[.int .i64 0, .int .i64 0, .int .i64 0, .int .i64 0, .int .i64 0, .int .i64 0, .int .i64 0, .int .i64 0, .int .i64 0, .int .i64 0, .int .i64 0, .int .i64 0, .int .i64 0] 23)) #[.int .i64 0, .int .i64 0, .int .i64 0, .int .i64 0, .int .i64 0, .int .i64 0, .int .i64 0, .int .i64 0, .int .i64 0, .int .i64 0, .int .i64 0, .int .i64 0, .int .i64 0] 3
      rw [show (w.alloc (.cells #[.int .i64 0, .int .i64 0, .int .i64 0, .int .i64 0, .int .i64 0, .int .i64 0, .int .i64 0, .int .i64 0, .int .i64 0, .int .i64 0, .int .i64 0, .int .i64 0, .int .i64 0] 23)).heap.size = w.heap.size + 1 by simp] at h
      exact h), ((Below.refl _ _).alloc (Nat.le_refl _) _).alloc (by simp) _⟩
    clear HN
    go_upto_region 5 with (first | (go_at_call 27; refine (rtrim_b x u HU hx9 _).mono ?_; rintro e w2 ⟨rfl, rfl⟩) | fail)
    go_wp2_with (first | (go_at_call 28; refine (of_b ⟨0, 0, 0, 0, 0, 0, 0, 0, 0, 0, 0, 0, 0⟩ _ _ HC1.out.2.1).mono ?_; rintro e w3 ⟨rfl, hb⟩; have HB3 : Hid (Below w.heap.size w w3) := Lib.hid (HC1.out.2.2.trans (hb.mono HC1.out.2.2.size)); have HC3 := Lib.hid (HC1.out.1.next hb); clear hb; have d0 := HC3.out.at 0 _ rfl; have f0 := HC3.out.free 0; have d1 := HC3.out.at 1 _ rfl; have f1 := HC3.out.free 1; have d2 := HC3.out.at 2 _ rfl; have f2 := HC3.out.free 2; have d3 := HC3.out.at 3 _ rfl; have f3 := HC3.out.free 3; have d4 := HC3.out.at 4 _ rfl; have f4 := HC3.out.free 4; have d5 := HC3.out.at 5 _ rfl; have f5 := HC3.out.free 5; have d6 := HC3.out.at 6 _ rfl; have f6 := HC3.out.free 6; have d7 := HC3.out.at 7 _ rfl; have f7 := HC3.out.free 7; have d8 := HC3.out.at 8 _ rfl; have f8 := HC3.out.free 8; have d9 := HC3.out.at 9 _ rfl; have f9 := HC3.out.free 9; have d10 := HC3.out.at 10 _ rfl; have f10 := HC3.out.free 10; have d11 := HC3.out.at 11 _ rfl; have f11 := HC3.out.free 11; have d12 := HC3.out.at 12 _ rfl; have f12 := HC3.out.free 12; have hpl := HC3.out.lt) | fail)
    have k13 := HC3.out.set13 rfl (.int .i64 0) (.int .i64 0) (.int .i64 0) (.int .i64 0) (.int .i64 0) (.int .i64 0) (.int .i64 0) (.int .i64 0) (.int .i64 0) (.int .i64 0) (.int .i64 0) (.int .i64 0) (.int .i64 0)
    have k0 := k13.at 0 _ rfl
    have k1 := k13.at 1 _ rfl
    have k2 := k13.at 2 _ rfl
    have k3 := k13.at 3 _ rfl
    have k4 := k13.at 4 _ rfl
    have k5 := k13.at 5 _ rfl
    have k6 := k13.at 6 _ rfl
    have k7 := k13.at 7 _ rfl
    have k8 := k13.at 8 _ rfl
    have k9 := k13.at 9 _ rfl
    have k10 := k13.at 10 _ rfl
    have k11 := k13.at 11 _ rfl
    have k12 := k13.at 12 _ rfl
    refine bodyPost_ret (v := .tuple #[.agg #[.int .i64 0, .int .i64 0, .int .i64 0, .int .i64 0, .int .i64 0, .int .i64 0, .int .i64 0, .int .i64 0, .int .i64 0, .int .i64 0, .int .i64 0, .int .i64 0, .int .i64 0], .int .i64 0]) (by simp [results, Tryz.results9, go_sem, k0, k1, k2, k3, k4, k5, k6, k7, k8, k9, k10, k11, k12]) rfl ⟨rfl, below13 HB3.out (Nat.le_refl _) _ _ _ _ _ _ _ _ _ _ _ _ _⟩
  have hu1 : u.toList.isEmpty = false := by simpa using hu0
  have hz : ¬ Lib.trimB x.data.toList 32 = [] := fun e => hu0 (by rw [Lib.toList_data, HU.out, e]; rfl)
  have hr := H.out
  unfold parT at hr
  rw [if_neg (by omega), if_neg hz] at hr
  have HR0 : Hid (runT zeroL (List.replicate 13 false) (sepS 44 x.data.toList) = (c, C.toL)) := Lib.hid hr
  have hmb := make_bools
  clear H hu0 hz hr
  go_upto_region 7 with (first | (go_at_call 27; refine (rtrim_b x u HU hx9 _).mono ?_; rintro e w2 ⟨rfl, rfl⟩) | fail)
  clear hmi hmb
  go_loopw [0] (fun v wr => ∃ (t : ByteArray) (L : List Int) (sn : List Bool), v = .string t ∧ t.size ≤ x.size ∧ Hid (Pr w w.heap.size (w.heap.size + 1) wr L sn) ∧ Hid (runT L sn (sepS 44 t.data.toList) = (c, C.toL))) (fun v _ => Lib.strSize v)
  case atStart => exact ⟨x, _, _, rfl, Nat.le_refl _, HN, HR0⟩
  case round =>
    clear HN HR0
    obtain ⟨t, L, sn, rfl, htx, HS, HR⟩ := hrel
    have ht9 : t.size ≤ 9000 := by omega
    obtain ⟨e, he⟩ : ∃ e, (t.data.toList.takeWhile (· != 44)).length = e := ⟨_, rfl⟩
    have HE := Lib.hid he
    have het : e ≤ t.size := by rw [← he, bsize_len]; exact (List.takeWhile_sublist _).length_le
    obtain ⟨t1, ht1⟩ : ∃ t1, t.extract 0 e = t1 := ⟨_, rfl⟩
    have HT1 : Hid (t1.data.toList = t.data.toList.take e) := Lib.hid (by rw [← ht1, Lib.extract_upto])
    have ht19 : t1.size ≤ 9000 := by rw [bsize_len, HT1.out, List.length_take, ← bsize_len]; omega
    obtain ⟨v, hv⟩ := mk_bytes (Lib.trimB t1.data.toList 32)
    have HV := Lib.hid hv
    have hv9 : v.size ≤ 9000 := by rw [bsize_len, hv]; have := trimB_len t1.data.toList 32; rw [← bsize_len] at this; omega
    have he0 : (0 : Int) ≤ (e : Int) := by omega
    have het' : (e : Int) ≤ (t.size : Int) := by omega
    have hrest : ∃ rs, sepS 44 t.data.toList = t1.data.toList :: rs ∧ (e = t.size → rs = []) ∧ (¬ e = t.size → rs = sepS 44 (t.data.toList.drop (e + 1))) := by
      by_cases hee : e = t.size
      · refine ⟨[], ?_, fun _ => rfl, fun h => absurd hee h⟩
        rw [sepS_last 44 _ (by rw [he, ← bsize_len]; exact hee), HT1.out, hee, bsize_len, List.take_length]
      · refine ⟨_, ?_, fun h => absurd h hee, fun _ => rfl⟩
        rw [sepS_more 44 _ (by rw [he, ← bsize_len]; exact hee), he, HT1.out]
    obtain ⟨rs, hrs, hrs0, hrs1⟩ := hrest
    have hr := HR.out
    rw [hrs, runT_cons] at hr
    obtain ⟨pt, hpt⟩ : ∃ pt, partT (Lib.trimB t1.data.toList 32) = pt := ⟨_, rfl⟩
    have HRS := Lib.hid (And.intro hrs0 hrs1)
    clear HR hv he hrs hrs0 hrs1
    cases pt with
    | none =>
      have HRP : Hid (rpT v.data.toList = ((⟨#[]⟩ : ByteArray).data.toList, 0, false)) := Lib.hid (by unfold rpT; rw [HV.out, hpt])
      rw [step_syn hpt, if_pos (show (6 : Int) ≠ 0 by decide)] at hr
      simp only [Prod.mk.injEq] at hr
      obtain ⟨rfl, hz⟩ := hr
      obtain rfl := toL_zero hz.symm
      clear hz hpt
      go_upto_region 10 with (first | (go_at_call 29; refine (comma_b t e HE ht9 _).mono ?_; rintro e1 w4 ⟨rfl, rfl⟩) | (go_at_call 27; refine (rtrim_b t1 v HV ht19 _).mono ?_; rintro e1 w4 ⟨rfl, rfl⟩) | (go_at_call 30; refine (rpart_b v ⟨#[]⟩ 0 false HRP hv9 _).mono ?_; rintro e1 w4 ⟨rfl, rfl⟩) | fail)
      have d0 := HS.out.c0.at 0 _ rfl
      have d1 := HS.out.c0.at 1 _ rfl
      have d2 := HS.out.c0.at 2 _ rfl
      have d3 := HS.out.c0.at 3 _ rfl
      have d4 := HS.out.c0.at 4 _ rfl
      have d5 := HS.out.c0.at 5 _ rfl
      have d6 := HS.out.c0.at 6 _ rfl
      have d7 := HS.out.c0.at 7 _ rfl
      have d8 := HS.out.c0.at 8 _ rfl
      have d9 := HS.out.c0.at 9 _ rfl
      have d10 := HS.out.c0.at 10 _ rfl
      have d11 := HS.out.c0.at 11 _ rfl
      have d12 := HS.out.c0.at 12 _ rfl
      have f0 := HS.out.c0.free 0
      have f1 := HS.out.c0.free 1
      have f2 := HS.out.c0.free 2
      have f3 := HS.out.c0.free 3
      have f4 := HS.out.c0.free 4
      have f5 := HS.out.c0.free 5
      have f6 := HS.out.c0.free 6
      have f7 := HS.out.c0.free 7
      have f8 := HS.out.c0.free 8
      have f9 := HS.out.c0.free 9
      have f10 := HS.out.c0.free 10
      have f11 := HS.out.c0.free 11
      have f12 := HS.out.c0.free 12
      have hpl := HS.out.c0.lt
      go_wp2_with fail
      have k13 := HS.out.c0.set13 rfl (.int .i64 0) (.int .i64 0) (.int .i64 0) (.int .i64 0) (.int .i64 0) (.int .i64 0) (.int .i64 0) (.int .i64 0) (.int .i64 0) (.int .i64 0) (.int .i64 0) (.int .i64 0) (.int .i64 0)
      have k0 := k13.at 0 _ rfl
      have k1 := k13.at 1 _ rfl
      have k2 := k13.at 2 _ rfl
      have k3 := k13.at 3 _ rfl
      have k4 := k13.at 4 _ rfl
      have k5 := k13.at 5 _ rfl
      have k6 := k13.at 6 _ rfl
      have k7 := k13.at 7 _ rfl
      have k8 := k13.at 8 _ rfl
      have k9 := k13.at 9 _ rfl
      have k10 := k13.at 10 _ rfl
      have k11 := k13.at 11 _ rfl
      have k12 := k13.at 12 _ rfl
      refine bodyPost_ret (v := .tuple #[.agg #[.int .i64 0, .int .i64 0, .int .i64 0, .int .i64 0, .int .i64 0, .int .i64 0, .int .i64 0, .int .i64 0, .int .i64 0, .int .i64 0, .int .i64 0, .int .i64 0, .int .i64 0], .int .i64 6]) (by simp [results, Tryz.results9, go_sem, k0, k1, k2, k3, k4, k5, k6, k7, k8, k9, k10, k11, k12]) rfl ⟨rfl, below13 HS.out.bel (Nat.le_refl _) _ _ _ _ _ _ _ _ _ _ _ _ _⟩
    | some q =>
      obtain ⟨wd, d⟩ := q
      obtain ⟨y, hy⟩ := mk_bytes wd
      obtain ⟨n, hn⟩ : ∃ n : Nat, satD 0 d = n := ⟨_, rfl⟩
      obtain ⟨fi, hfi⟩ : ∃ fi, findT wd = fi := ⟨_, rfl⟩
      have hn101 : n ≤ 101 := by rw [← hn]; exact satD_le d 0 (by omega)
      have HRP : Hid (rpT v.data.toList = (y.data.toList, (n : Int), true)) := Lib.hid (by unfold rpT; rw [HV.out, hpt, hy, ← hn])
      have HF : Hid (findT y.data.toList = fi) := Lib.hid (by rw [hy]; exact hfi)
      have hfr : fi = -1 ∨ ∃ k : Nat, fi = k ∧ k < 13 := by
        rw [← hfi]
        unfold findT
        cases hix : nameIx wd with
        | none => exact .inl rfl
        | some k => exact .inr ⟨k, rfl, nameIx_lt hix⟩
      rw [step_some hpt, hfi, hn] at hr
      clear hpt hy hn hfi
      rcases hfr with rfl | ⟨k, rfl, hk⟩
      · rw [if_pos (show (-1 : Int) < 0 by decide), if_pos (show (7 : Int) ≠ 0 by decide)] at hr
        simp only [Prod.mk.injEq] at hr
        obtain ⟨rfl, hz⟩ := hr
        obtain rfl := toL_zero hz.symm
        clear hz
        go_upto_region 13 with (first | (go_at_call 29; refine (comma_b t e HE ht9 _).mono ?_; rintro e1 w4 ⟨rfl, rfl⟩) | (go_at_call 27; refine (rtrim_b t1 v HV ht19 _).mono ?_; rintro e1 w4 ⟨rfl, rfl⟩) | (go_at_call 30; refine (rpart_b v y n true HRP hv9 _).mono ?_; rintro e1 w4 ⟨rfl, rfl⟩) | (go_at_call 31; refine (rfind_b y _ HF _).mono ?_; rintro e1 w4 ⟨rfl, hb⟩; have HS4 := Lib.hid (HS.out.next hb); clear hb) | fail)
        have d0 := HS4.out.c0.at 0 _ rfl
        have d1 := HS4.out.c0.at 1 _ rfl
        have d2 := HS4.out.c0.at 2 _ rfl
        have d3 := HS4.out.c0.at 3 _ rfl
        have d4 := HS4.out.c0.at 4 _ rfl
        have d5 := HS4.out.c0.at 5 _ rfl
        have d6 := HS4.out.c0.at 6 _ rfl
        have d7 := HS4.out.c0.at 7 _ rfl
        have d8 := HS4.out.c0.at 8 _ rfl
        have d9 := HS4.out.c0.at 9 _ rfl
        have d10 := HS4.out.c0.at 10 _ rfl
        have d11 := HS4.out.c0.at 11 _ rfl
        have d12 := HS4.out.c0.at 12 _ rfl
        have f0 := HS4.out.c0.free 0
        have f1 := HS4.out.c0.free 1
        have f2 := HS4.out.c0.free 2
        have f3 := HS4.out.c0.free 3
        have f4 := HS4.out.c0.free 4
        have f5 := HS4.out.c0.free 5
        have f6 := HS4.out.c0.free 6
        have f7 := HS4.out.c0.free 7
        have f8 := HS4.out.c0.free 8
        have f9 := HS4.out.c0.free 9
        have f10 := HS4.out.c0.free 10
        have f11 := HS4.out.c0.free 11
        have f12 := HS4.out.c0.free 12
        have hpl := HS4.out.c0.lt
        go_wp2_with fail
        have k13 := HS4.out.c0.set13 rfl (.int .i64 0) (.int .i64 0) (.int .i64 0) (.int .i64 0) (.int .i64 0) (.int .i64 0) (.int .i64 0) (.int .i64 0) (.int .i64 0) (.int .i64 0) (.int .i64 0) (.int .i64 0) (.int .i64 0)
        have k0 := k13.at 0 _ rfl
        have k1 := k13.at 1 _ rfl
        have k2 := k13.at 2 _ rfl
        have k3 := k13.at 3 _ rfl
        have k4 := k13.at 4 _ rfl
        have k5 := k13.at 5 _ rfl
        have k6 := k13.at 6 _ rfl
        have k7 := k13.at 7 _ rfl
        have k8 := k13.at 8 _ rfl
        have k9 := k13.at 9 _ rfl
        have k10 := k13.at 10 _ rfl
        have k11 := k13.at 11 _ rfl
        have k12 := k13.at 12 _ rfl
        refine bodyPost_ret (v := .tuple #[.agg #[.int .i64 0, .int .i64 0, .int .i64 0, .int .i64 0, .int .i64 0, .int .i64 0, .int .i64 0, .int .i64 0, .int .i64 0, .int .i64 0, .int .i64 0, .int .i64 0, .int .i64 0], .int .i64 7]) (by simp [results, Tryz.results9, go_sem, k0, k1, k2, k3, k4, k5, k6, k7, k8, k9, k10, k11, k12]) rfl ⟨rfl, below13 HS4.out.bel (Nat.le_refl _) _ _ _ _ _ _ _ _ _ _ _ _ _⟩
      have hk0 : (0 : Int) ≤ (k : Int) := by omega
      have hk13 : (k : Int) < 13 := by omega
      have hkn : ¬ (k : Int) < 0 := by omega
      obtain ⟨b, hb⟩ : ∃ b, sn.getD k false = b := ⟨_, rfl⟩
      rw [if_neg hkn, Int.toNat_natCast, hb] at hr
      have HSB : Hid ((sn.map Value.bool)[k]? = some (.bool b)) := Lib.hid (by
        have hkl : k < sn.length := by rw [HS.out.ls]; exact hk
        rw [List.getElem?_map, List.getElem?_eq_getElem hkl, ← hb, List.getD_eq_getElem?_getD, List.getElem?_eq_getElem hkl]
        rfl)
      clear hb
      cases b with
      | true =>
        rw [if_pos rfl, if_pos (show (8 : Int) ≠ 0 by decide)] at hr
        simp only [Prod.mk.injEq] at hr
        obtain ⟨rfl, hz⟩ := hr
        obtain rfl := toL_zero hz.symm
        clear hz
        go_upto_region 14 with (first | (go_at_call 29; refine (comma_b t e HE ht9 _).mono ?_; rintro e1 w4 ⟨rfl, rfl⟩) | (go_at_call 27; refine (rtrim_b t1 v HV ht19 _).mono ?_; rintro e1 w4 ⟨rfl, rfl⟩) | (go_at_call 30; refine (rpart_b v y n true HRP hv9 _).mono ?_; rintro e1 w4 ⟨rfl, rfl⟩) | (go_at_call 31; refine (rfind_b y _ HF _).mono ?_; rintro e1 w4 ⟨rfl, hb⟩; have HS4 := Lib.hid (HS.out.next hb); clear hb) | fail)
        have q0 := HS4.out.cs.at k _ HSB.out
        have ql := HS4.out.cs.lt
        go_upto_region 15 with fail
        clear q0 ql
        have d0 := HS4.out.c0.at 0 _ rfl
        have d1 := HS4.out.c0.at 1 _ rfl
        have d2 := HS4.out.c0.at 2 _ rfl
        have d3 := HS4.out.c0.at 3 _ rfl
        have d4 := HS4.out.c0.at 4 _ rfl
        have d5 := HS4.out.c0.at 5 _ rfl
        have d6 := HS4.out.c0.at 6 _ rfl
        have d7 := HS4.out.c0.at 7 _ rfl
        have d8 := HS4.out.c0.at 8 _ rfl
        have d9 := HS4.out.c0.at 9 _ rfl
        have d10 := HS4.out.c0.at 10 _ rfl
        have d11 := HS4.out.c0.at 11 _ rfl
        have d12 := HS4.out.c0.at 12 _ rfl
        have f0 := HS4.out.c0.free 0
        have f1 := HS4.out.c0.free 1
        have f2 := HS4.out.c0.free 2
        have f3 := HS4.out.c0.free 3
        have f4 := HS4.out.c0.free 4
        have f5 := HS4.out.c0.free 5
        have f6 := HS4.out.c0.free 6
        have f7 := HS4.out.c0.free 7
        have f8 := HS4.out.c0.free 8
        have f9 := HS4.out.c0.free 9
        have f10 := HS4.out.c0.free 10
        have f11 := HS4.out.c0.free 11
        have f12 := HS4.out.c0.free 12
        have hpl := HS4.out.c0.lt
        go_wp2_with fail
        have k13 := HS4.out.c0.set13 rfl (.int .i64 0) (.int .i64 0) (.int .i64 0) (.int .i64 0) (.int .i64 0) (.int .i64 0) (.int .i64 0) (.int .i64 0) (.int .i64 0) (.int .i64 0) (.int .i64 0) (.int .i64 0) (.int .i64 0)
        have k0 := k13.at 0 _ rfl
        have k1 := k13.at 1 _ rfl
        have k2 := k13.at 2 _ rfl
        have k3 := k13.at 3 _ rfl
        have k4 := k13.at 4 _ rfl
        have k5 := k13.at 5 _ rfl
        have k6 := k13.at 6 _ rfl
        have k7 := k13.at 7 _ rfl
        have k8 := k13.at 8 _ rfl
        have k9 := k13.at 9 _ rfl
        have k10 := k13.at 10 _ rfl
        have k11 := k13.at 11 _ rfl
        have k12 := k13.at 12 _ rfl
        refine bodyPost_ret (v := .tuple #[.agg #[.int .i64 0, .int .i64 0, .int .i64 0, .int .i64 0, .int .i64 0, .int .i64 0, .int .i64 0, .int .i64 0, .int .i64 0, .int .i64 0, .int .i64 0, .int .i64 0, .int .i64 0], .int .i64 8]) (by simp [results, Tryz.results9, go_sem, k0, k1, k2, k3, k4, k5, k6, k7, k8, k9, k10, k11, k12]) rfl ⟨rfl, below13 HS4.out.bel (Nat.le_refl _) _ _ _ _ _ _ _ _ _ _ _ _ _⟩
      | false =>
        rw [if_neg (show ¬ false = true by decide)] at hr
        by_cases hbig : 100 < n
        · rw [if_pos hbig, if_pos (show (3 : Int) ≠ 0 by decide)] at hr
          simp only [Prod.mk.injEq] at hr
          obtain ⟨rfl, hz⟩ := hr
          obtain rfl := toL_zero hz.symm
          clear hz
          have hbig' : (100 : Int) < (n : Int) := by omega
          go_upto_region 14 with (first | (go_at_call 29; refine (comma_b t e HE ht9 _).mono ?_; rintro e1 w4 ⟨rfl, rfl⟩) | (go_at_call 27; refine (rtrim_b t1 v HV ht19 _).mono ?_; rintro e1 w4 ⟨rfl, rfl⟩) | (go_at_call 30; refine (rpart_b v y n true HRP hv9 _).mono ?_; rintro e1 w4 ⟨rfl, rfl⟩) | (go_at_call 31; refine (rfind_b y _ HF _).mono ?_; rintro e1 w4 ⟨rfl, hb⟩; have HS4 := Lib.hid (HS.out.next hb); clear hb) | fail)
          have q0 := HS4.out.cs.at k _ HSB.out
          have ql := HS4.out.cs.lt
          go_upto_region 17 with fail
          clear q0 ql
          have d0 := HS4.out.c0.at 0 _ rfl
          have d1 := HS4.out.c0.at 1 _ rfl
          have d2 := HS4.out.c0.at 2 _ rfl
          have d3 := HS4.out.c0.at 3 _ rfl
          have d4 := HS4.out.c0.at 4 _ rfl
          have d5 := HS4.out.c0.at 5 _ rfl
          have d6 := HS4.out.c0.at 6 _ rfl
          have d7 := HS4.out.c0.at 7 _ rfl
          have d8 := HS4.out.c0.at 8 _ rfl
          have d9 := HS4.out.c0.at 9 _ rfl
          have d10 := HS4.out.c0.at 10 _ rfl
          have d11 := HS4.out.c0.at 11 _ rfl
          have d12 := HS4.out.c0.at 12 _ rfl
          have f0 := HS4.out.c0.free 0
          have f1 := HS4.out.c0.free 1
          have f2 := HS4.out.c0.free 2
          have f3 := HS4.out.c0.free 3
          have f4 := HS4.out.c0.free 4
          have f5 := HS4.out.c0.free 5
          have f6 := HS4.out.c0.free 6
          have f7 := HS4.out.c0.free 7
          have f8 := HS4.out.c0.free 8
          have f9 := HS4.out.c0.free 9
          have f10 := HS4.out.c0.free 10
          have f11 := HS4.out.c0.free 11
          have f12 := HS4.out.c0.free 12
          have hpl := HS4.out.c0.lt
          go_wp2_with fail
          have k13 := HS4.out.c0.set13 rfl (.int .i64 0) (.int .i64 0) (.int .i64 0) (.int .i64 0) (.int .i64 0) (.int .i64 0) (.int .i64 0) (.int .i64 0) (.int .i64 0) (.int .i64 0) (.int .i64 0) (.int .i64 0) (.int .i64 0)
          have k0 := k13.at 0 _ rfl
          have k1 := k13.at 1 _ rfl
          have k2 := k13.at 2 _ rfl
          have k3 := k13.at 3 _ rfl
          have k4 := k13.at 4 _ rfl
          have k5 := k13.at 5 _ rfl
          have k6 := k13.at 6 _ rfl
          have k7 := k13.at 7 _ rfl
          have k8 := k13.at 8 _ rfl
          have k9 := k13.at 9 _ rfl
          have k10 := k13.at 10 _ rfl
          have k11 := k13.at 11 _ rfl
          have k12 := k13.at 12 _ rfl
          refine bodyPost_ret (v := .tuple #[.agg #[.int .i64 0, .int .i64 0, .int .i64 0, .int .i64 0, .int .i64 0, .int .i64 0, .int .i64 0, .int .i64 0, .int .i64 0, .int .i64 0, .int .i64 0, .int .i64 0, .int .i64 0], .int .i64 3]) (by simp [results, Tryz.results9, go_sem, k0, k1, k2, k3, k4, k5, k6, k7, k8, k9, k10, k11, k12]) rfl ⟨rfl, below13 HS4.out.bel (Nat.le_refl _) _ _ _ _ _ _ _ _ _ _ _ _ _⟩
        · rw [if_neg hbig] at hr
          simp only [ne_eq, not_true_eq_false, if_false] at hr
          have hbig' : ¬ (100 : Int) < (n : Int) := by omega
          have HR2 := Lib.hid hr
          clear hr
          go_upto_region 14 with (first | (go_at_call 29; refine (comma_b t e HE ht9 _).mono ?_; rintro e1 w4 ⟨rfl, rfl⟩) | (go_at_call 27; refine (rtrim_b t1 v HV ht19 _).mono ?_; rintro e1 w4 ⟨rfl, rfl⟩) | (go_at_call 30; refine (rpart_b v y n true HRP hv9 _).mono ?_; rintro e1 w4 ⟨rfl, rfl⟩) | (go_at_call 31; refine (rfind_b y _ HF _).mono ?_; rintro e1 w4 ⟨rfl, hb⟩; have HS4 := Lib.hid (HS.out.next hb); clear hb) | fail)
          have q0 := HS4.out.cs.at k _ HSB.out
          have qf := HS4.out.cs.free k
          have ql := HS4.out.cs.lt
          have q1 : w4.cell? ⟨w.heap.size + 1, k, none⟩ = some (.int .i64 (L.getD k 0)) := HS4.out.cl.at k _ (by unfold ivs; rw [List.getElem?_map, List.getD_eq_getElem?_getD, List.getElem?_eq_getElem (show k < L.length by rw [HS4.out.ll]; exact hk)]; rfl)
          have qg := HS4.out.cl.free k
          have qm := HS4.out.cl.lt
          have HS5 := Lib.hid (HS4.out.put k hk n)
          go_upto_region 19 with fail
          clear q0 qf ql q1 qg qm
          obtain ⟨w5, hw5⟩ : ∃ z, ((w4.setCell ⟨w.heap.size + 1, k, none⟩ (.int .i64 n)).setCell ⟨w.heap.size + 1 + 1, k, none⟩ (.bool true)) = z := ⟨_, rfl⟩
          have HS6 : Hid (Pr w w.heap.size (w.heap.size + 1) w5 (L.set k n) (sn.set k true)) := hw5 ▸ HS5
          simp only [hw5]
          clear hw5 HS5
          by_cases hee : e = t.size
          · subst hee
            have hr := HR2.out
            rw [HRS.out.1 rfl, runT] at hr
            simp only [Prod.mk.injEq] at hr
            obtain ⟨rfl, hcl⟩ := hr
            have HLC : Hid (LC w5 (.slice (some ⟨w.heap.size + 1, 0, none⟩) 13 13) C) := Lib.hid (lc_of (by have := HS6.out.cl; rw [hcl] at this; exact this))
            clear HR2 hcl HRS
            go_wp2_with (first | (go_at_call 28; refine (of_b C _ _ HLC.out).mono ?_; rintro e2 w6 ⟨rfl, hb⟩; have HS7 := Lib.hid (HS6.out.next hb); clear hb; have d0 := HS7.out.c0.at 0 _ rfl; have f0 := HS7.out.c0.free 0; have d1 := HS7.out.c0.at 1 _ rfl; have f1 := HS7.out.c0.free 1; have d2 := HS7.out.c0.at 2 _ rfl; have f2 := HS7.out.c0.free 2; have d3 := HS7.out.c0.at 3 _ rfl; have f3 := HS7.out.c0.free 3; have d4 := HS7.out.c0.at 4 _ rfl; have f4 := HS7.out.c0.free 4; have d5 := HS7.out.c0.at 5 _ rfl; have f5 := HS7.out.c0.free 5; have d6 := HS7.out.c0.at 6 _ rfl; have f6 := HS7.out.c0.free 6; have d7 := HS7.out.c0.at 7 _ rfl; have f7 := HS7.out.c0.free 7; have d8 := HS7.out.c0.at 8 _ rfl; have f8 := HS7.out.c0.free 8; have d9 := HS7.out.c0.at 9 _ rfl; have f9 := HS7.out.c0.free 9; have d10 := HS7.out.c0.at 10 _ rfl; have f10 := HS7.out.c0.free 10; have d11 := HS7.out.c0.at 11 _ rfl; have f11 := HS7.out.c0.free 11; have d12 := HS7.out.c0.at 12 _ rfl; have f12 := HS7.out.c0.free 12; have hpl := HS7.out.c0.lt) | fail)
            have k13 := HS7.out.c0.set13 rfl (.int .i64 C.c0) (.int .i64 C.c1) (.int .i64 C.c2) (.int .i64 C.c3) (.int .i64 C.c4) (.int .i64 C.c5) (.int .i64 C.c6) (.int .i64 C.c7) (.int .i64 C.c8) (.int .i64 C.c9) (.int .i64 C.c10) (.int .i64 C.c11) (.int .i64 C.c12)
            have k0 := k13.at 0 _ rfl
            have k1 := k13.at 1 _ rfl
            have k2 := k13.at 2 _ rfl
            have k3 := k13.at 3 _ rfl
            have k4 := k13.at 4 _ rfl
            have k5 := k13.at 5 _ rfl
            have k6 := k13.at 6 _ rfl
            have k7 := k13.at 7 _ rfl
            have k8 := k13.at 8 _ rfl
            have k9 := k13.at 9 _ rfl
            have k10 := k13.at 10 _ rfl
            have k11 := k13.at 11 _ rfl
            have k12 := k13.at 12 _ rfl
            refine bodyPost_ret (v := .tuple #[.agg #[.int .i64 C.c0, .int .i64 C.c1, .int .i64 C.c2, .int .i64 C.c3, .int .i64 C.c4, .int .i64 C.c5, .int .i64 C.c6, .int .i64 C.c7, .int .i64 C.c8, .int .i64 C.c9, .int .i64 C.c10, .int .i64 C.c11, .int .i64 C.c12], .int .i64 0]) (by simp [results, Tryz.results9, go_sem, k0, k1, k2, k3, k4, k5, k6, k7, k8, k9, k10, k11, k12]) rfl ⟨rfl, below13 HS7.out.bel (Nat.le_refl _) _ _ _ _ _ _ _ _ _ _ _ _ _⟩
          · have hne' : ¬ (e : Int) = (t.size : Int) := by omega
            have hb' : ((e : Int) == (t.size : Int)) = false := beq_eq_false_iff_ne.2 hne'
            have he1 : (e : Int) + 1 ≤ (t.size : Int) := by omega
            have he2 : (0 : Int) ≤ (e : Int) + 1 := by omega
            obtain ⟨t2, ht2⟩ : ∃ t2, t.extract (e + 1) t.size = t2 := ⟨_, rfl⟩
            have HT2 : Hid (t2.data.toList = t.data.toList.drop (e + 1)) := Lib.hid (by rw [← ht2, Lib.extract_from])
            have hsl2 : ∀ wx, (Instr.slice 9 (.string t) (some (.int .i64 ((e : Int) + 1))) none none).run Tryz.prog wx = .ok (.string t2) wx := fun wx => by
              rw [run_slice_string_l wx 9 t Tryz.underlying9 .i64 ((e : Int) + 1) he2 he1, show ((e : Int) + 1).toNat = e + 1 by omega, ht2]
            have HR3 : Hid (runT (L.set k n) (sn.set k true) (sepS 44 t2.data.toList) = (c, C.toL)) := Lib.hid (by rw [HT2.out, ← HRS.out.2 hee]; exact HR2.out)
            have ht2s : t2.size < t.size := by rw [bsize_len, HT2.out, List.length_drop, ← bsize_len]; omega
            clear HR2 HRS hee ht2
            go_wp2_with fail
            go_roundw
            case rel => exact ⟨t2, _, _, rfl, by omega, HS6, HR3⟩
            case measure => exact ht2s
end Go.Proofs.YthlhicegchkjjaaGreatDoor
