/-
  Texts of cost models: the walk over the program's Parse.
-/
import Derived.Test.YthlhicegchkjjaaGreatDoorCtK
import Derived.Lib.SplitLaws
namespace Go.Proofs.YthlhicegchkjjaaGreatDoor
open Go.RowKit

def CM.toL (C : CM) : List Int := [C.c0, C.c1, C.c2, C.c3, C.c4, C.c5, C.c6, C.c7, C.c8, C.c9, C.c10, C.c11, C.c12]
theorem toL_of : ∀ {L : List Int}, L.length = 13 → ∃ C : CM, C.toL = L
  | [a0, a1, a2, a3, a4, a5, a6, a7, a8, a9, a10, a11, a12], _ => ⟨⟨a0, a1, a2, a3, a4, a5, a6, a7, a8, a9, a10, a11, a12⟩, rfl⟩
theorem toL_zero {C : CM} (h : C.toL = zeroL) : C = ⟨0, 0, 0, 0, 0, 0, 0, 0, 0, 0, 0, 0, 0⟩ := by
  obtain ⟨a0, a1, a2, a3, a4, a5, a6, a7, a8, a9, a10, a11, a12⟩ := C
  simp only [CM.toL, zeroL, List.replicate, List.cons.injEq, and_true] at h
  obtain ⟨rfl, rfl, rfl, rfl, rfl, rfl, rfl, rfl, rfl, rfl, rfl, rfl, rfl⟩ := h
  rfl
def ivs (L : List Int) : List Value := L.map (Value.int .i64)
theorem ivs_toL (C : CM) : ivs C.toL = [.int .i64 C.c0, .int .i64 C.c1, .int .i64 C.c2, .int .i64 C.c3, .int .i64 C.c4, .int .i64 C.c5, .int .i64 C.c6, .int .i64 C.c7, .int .i64 C.c8, .int .i64 C.c9, .int .i64 C.c10, .int .i64 C.c11, .int .i64 C.c12] := rfl
/-- Thirteen cells, written one after another. -/
theorem Cs.set13 {W : World} {b : Nat} {vs : List Value} (h : Cs W b vs) (hv : vs.length = 13) (u0 u1 u2 u3 u4 u5 u6 u7 u8 u9 u10 u11 u12 : Value) : Cs (((((((((((((W.setCell ⟨b, 0, none⟩ u0).setCell ⟨b, 1, none⟩ u1).setCell ⟨b, 2, none⟩ u2).setCell ⟨b, 3, none⟩ u3).setCell ⟨b, 4, none⟩ u4).setCell ⟨b, 5, none⟩ u5).setCell ⟨b, 6, none⟩ u6).setCell ⟨b, 7, none⟩ u7).setCell ⟨b, 8, none⟩ u8).setCell ⟨b, 9, none⟩ u9).setCell ⟨b, 10, none⟩ u10).setCell ⟨b, 11, none⟩ u11).setCell ⟨b, 12, none⟩ u12) b [u0, u1, u2, u3, u4, u5, u6, u7, u8, u9, u10, u11, u12] := by
  match vs, hv with
  | [v0, v1, v2, v3, v4, v5, v6, v7, v8, v9, v10, v11, v12], _ =>
    exact (((((((((((((h.set 0 u0 (by simp)).set 1 u1 (by simp)).set 2 u2 (by simp)).set 3 u3 (by simp)).set 4 u4 (by simp)).set 5 u5 (by simp)).set 6 u6 (by simp)).set 7 u7 (by simp)).set 8 u8 (by simp)).set 9 u9 (by simp)).set 10 u10 (by simp)).set 11 u11 (by simp)).set 12 u12 (by simp))
theorem below13 {B b : Nat} {a W : World} (h : Below B a W) (hb : B ≤ b) (u0 u1 u2 u3 u4 u5 u6 u7 u8 u9 u10 u11 u12 : Value) : Below B a (((((((((((((W.setCell ⟨b, 0, none⟩ u0).setCell ⟨b, 1, none⟩ u1).setCell ⟨b, 2, none⟩ u2).setCell ⟨b, 3, none⟩ u3).setCell ⟨b, 4, none⟩ u4).setCell ⟨b, 5, none⟩ u5).setCell ⟨b, 6, none⟩ u6).setCell ⟨b, 7, none⟩ u7).setCell ⟨b, 8, none⟩ u8).setCell ⟨b, 9, none⟩ u9).setCell ⟨b, 10, none⟩ u10).setCell ⟨b, 11, none⟩ u11).setCell ⟨b, 12, none⟩ u12) :=
  ((((((((((((h.setCell (p := ⟨b, 0, none⟩) hb u0).setCell (p := ⟨b, 1, none⟩) hb u1).setCell (p := ⟨b, 2, none⟩) hb u2).setCell (p := ⟨b, 3, none⟩) hb u3).setCell (p := ⟨b, 4, none⟩) hb u4).setCell (p := ⟨b, 5, none⟩) hb u5).setCell (p := ⟨b, 6, none⟩) hb u6).setCell (p := ⟨b, 7, none⟩) hb u7).setCell (p := ⟨b, 8, none⟩) hb u8).setCell (p := ⟨b, 9, none⟩) hb u9).setCell (p := ⟨b, 10, none⟩) hb u10).setCell (p := ⟨b, 11, none⟩) hb u11).setCell (p := ⟨b, 12, none⟩) hb u12
def piecesZ (ps : List ByteArray) : Obj := .cells (ps.map Value.string).toArray 9
theorem split_c (x : ByteArray) (hx : x.size ≤ 9000) (W : World) (hm : ML W) (ps : List ByteArray) (HP : Hid (Lib.splitB ⟨#[44]⟩ 0 (Lib.countB x ⟨#[44]⟩) x = ps)) (g : Nat) (hg : W.heap.size = g) :
    Calls Tryz.prog 24 #[.string x, .string ⟨#[44]⟩] W fun e W' => e = .returned (.slice (some ⟨g, 0, none⟩) ps.length ps.length) ∧ W' = W.alloc (piecesZ ps) := by
  obtain ⟨m, hm⟩ := hm
  refine (Tryz.strings_Split x ⟨#[44]⟩ m W (by omega) hm (by decide)).mono fun e W' ⟨he, hw⟩ => ?_
  have hl := Lib.splitB_all ⟨#[44]⟩ (by decide) 0 _ x rfl
  rw [HP.out] at hl hw
  subst hg
  rw [he, hl]
  exact ⟨rfl, hw⟩
theorem pieces_sep (x : ByteArray) : (Lib.splitB ⟨#[44]⟩ 0 (Lib.countB x ⟨#[44]⟩) x).map (·.data.toList) = sepS 44 x.data.toList := by
  rw [Lib.splitB_data]
  exact splitK_sep 44 _
theorem sepS_len (c : UInt8) : ∀ t : List UInt8, (sepS c t).length ≤ t.length + 1 ∧ ∀ p ∈ sepS c t, p.length ≤ t.length
  | [] => by simp [sepS]
  | b :: l => by
    obtain ⟨h1, h2⟩ := sepS_len c l
    unfold sepS
    split
    · refine ⟨by simp; omega, fun p hp => ?_⟩
      rcases List.mem_cons.1 hp with hp | hp
      · rw [hp]; simp
      · have := h2 p hp; simp; omega
    · split
      · next he => simp
      · next a r he =>
        rw [he] at h1 h2
        refine ⟨by simp at h1 ⊢; omega, fun p hp => ?_⟩
        rcases List.mem_cons.1 hp with hp | hp
        · rw [hp]; have := h2 a (by simp); simp; omega
        · have := h2 p (by simp [hp]); simp; omega
/-- Between two pieces: the result's block, the entries, which are set, the pieces. -/
structure Ps (w : World) (p b : Nat) (ps : List ByteArray) (W : World) (L : List Int) (sn : List Bool) : Prop where
  bel : Below w.heap.size w W
  hp : w.heap.size ≤ p ∧ p < b
  c0 : Cs W p [.int .i64 0, .int .i64 0, .int .i64 0, .int .i64 0, .int .i64 0, .int .i64 0, .int .i64 0, .int .i64 0, .int .i64 0, .int .i64 0, .int .i64 0, .int .i64 0, .int .i64 0]
  cl : Cs W b (ivs L)
  cs : Cs W (b + 1) (sn.map Value.bool)
  kp : Cs W (b + 2) (ps.map Value.string)
  ll : L.length = 13
  ls : sn.length = 13
theorem Ps.entry {w W W' : World} {p b : Nat} {ps : List ByteArray} {L : List Int} {sn sn' : List Bool} (h : Ps w p b ps W L sn) (hf : Fr (· = b + 1) W W') (hc : Cs W' (b + 1) (sn'.map Value.bool)) (hl : sn'.length = 13) : Ps w p b ps W' L sn' :=
  ⟨hf.below h.bel (fun k hk => by have := h.hp; omega) h.bel.size, h.hp, h.c0.fr hf (by have := h.hp; omega), h.cl.fr hf (by omega), hc, h.kp.fr hf (by omega), h.ll, hl⟩
theorem Ps.put {w W : World} {p b : Nat} {ps : List ByteArray} {L : List Int} {sn : List Bool} (h : Ps w p b ps W L sn) (i : Nat) (hi : i < 13) (n : Int) : Ps w p b ps (W.setCell ⟨b, i, none⟩ (.int .i64 n)) (L.set i n) sn := by
  have hp := h.hp
  refine ⟨h.bel.setCell (by show w.heap.size ≤ b; omega) _, hp, h.c0.other (by show b ≠ p; omega) _, ?_, h.cs.other (by show b ≠ b + 1; omega) _, h.kp.other (by show b ≠ b + 2; omega) _, by rw [List.length_set]; exact h.ll, h.ls⟩
  have := h.cl.set i (.int .i64 n) (by unfold ivs; rw [List.length_map, h.ll]; exact hi)
  unfold ivs at this ⊢
  rw [List.map_set]
  exact this
theorem Ps.new (w W : World) (p : Nat) (ps : List ByteArray) (hb : Below w.heap.size w W) (hp : w.heap.size ≤ p) (h0 : Cs W p [.int .i64 0, .int .i64 0, .int .i64 0, .int .i64 0, .int .i64 0, .int .i64 0, .int .i64 0, .int .i64 0, .int .i64 0, .int .i64 0, .int .i64 0, .int .i64 0, .int .i64 0]) :
    Ps w p W.heap.size ps (((W.alloc (.cells #[.int .i64 0, .int .i64 0, .int .i64 0, .int .i64 0, .int .i64 0, .int .i64 0, .int .i64 0, .int .i64 0, .int .i64 0, .int .i64 0, .int .i64 0, .int .i64 0, .int .i64 0] 49)).alloc (.cells #[.bool false, .bool false, .bool false, .bool false, .bool false, .bool false, .bool false, .bool false, .bool false, .bool false, .bool false, .bool false, .bool false] 54)).alloc (piecesZ ps)) zeroL (List.replicate 13 false) := by
  have e1 : (W.alloc (.cells #[.int .i64 0, .int .i64 0, .int .i64 0, .int .i64 0, .int .i64 0, .int .i64 0, .int .i64 0, .int .i64 0, .int .i64 0, .int .i64 0, .int .i64 0, .int .i64 0, .int .i64 0] 49)).heap.size = W.heap.size + 1 := by simp
  have e2 : ((W.alloc (.cells #[.int .i64 0, .int .i64 0, .int .i64 0, .int .i64 0, .int .i64 0, .int .i64 0, .int .i64 0, .int .i64 0, .int .i64 0, .int .i64 0, .int .i64 0, .int .i64 0, .int .i64 0] 49)).alloc (.cells #[.bool false, .bool false, .bool false, .bool false, .bool false, .bool false, .bool false, .bool false, .bool false, .bool false, .bool false, .bool false, .bool false] 54)).heap.size = W.heap.size + 2 := by simp
  have hs := hb.size
  refine ⟨((hb.alloc hs _).alloc (by omega) _).alloc (by omega) _, ⟨hp, h0.lt⟩, ((h0.alloc _).alloc _).alloc _, ((Cs.new W _ _).alloc _).alloc _, ?_, ?_, rfl, rfl⟩
  · have h := (Cs.new (W.alloc (.cells #[.int .i64 0, .int .i64 0, .int .i64 0, .int .i64 0, .int .i64 0, .int .i64 0, .int .i64 0, .int .i64 0, .int .i64 0, .int .i64 0, .int .i64 0, .int .i64 0, .int .i64 0] 49)) #[.bool false, .bool false, .bool false, .bool false, .bool false, .bool false, .bool false, .bool false, .bool false, .bool false, .bool false, .bool false, .bool false] 54).alloc (piecesZ ps)
    rw [e1] at h
    exact h
  · have h := Cs.new ((W.alloc (.cells #[.int .i64 0, .int .i64 0, .int .i64 0, .int .i64 0, .int .i64 0, .int .i64 0, .int .i64 0, .int .i64 0, .int .i64 0, .int .i64 0, .int .i64 0, .int .i64 0, .int .i64 0] 49)).alloc (.cells #[.bool false, .bool false, .bool false, .bool false, .bool false, .bool false, .bool false, .bool false, .bool false, .bool false, .bool false, .bool false, .bool false] 54)) (ps.map Value.string).toArray 9
    rw [e2] at h
    exact h
theorem ent_range {sn : List Bool} {s : List UInt8} {i n c : Int} {sn' : List Bool} (h : entT sn s = (i, n, c, sn')) (hs : sn.length = 13) : sn'.length = 13 ∧ 0 ≤ i ∧ i < 13 := by
  unfold entT at h
  cases hp : partT (Lib.trimB s 32) with
  | none => rw [hp] at h; cases h; exact ⟨hs, by omega, by omega⟩
  | some q =>
    obtain ⟨a, d⟩ := q
    rw [hp] at h
    simp only at h
    cases hn : nameIx a with
    | none => rw [hn] at h; cases h; exact ⟨hs, by omega, by omega⟩
    | some k =>
      have hk := nameIx_lt hn
      rw [hn] at h
      simp only at h
      split at h
      · cases h; exact ⟨hs, by omega, by omega⟩
      · split at h
        · cases h; exact ⟨by rw [List.length_set]; exact hs, by omega, by omega⟩
        · cases h; exact ⟨by rw [List.length_set]; exact hs, by omega, by omega⟩
theorem runT_one {L : List Int} {sn : List Bool} {ss : List (List UInt8)} {k : Nat} {s : List UInt8} (h : ss[k]? = some s) : runT L sn (ss.drop k) = if (stepT L sn s).1 ≠ 0 then ((stepT L sn s).1, zeroL) else runT (stepT L sn s).2.1 (stepT L sn s).2.2 (ss.drop (k + 1)) := by
  obtain ⟨hl, rfl⟩ := List.getElem?_eq_some_iff.1 h
  rw [List.drop_eq_getElem_cons hl, runT]
set_option maxRecDepth 100000 in
set_option maxHeartbeats 8000000 in
theorem parse_b (B : Nat) (x : ByteArray) (hx : x.size ≤ 8000) (C : CM) (c : Int) (H : Hid (parT x.data.toList = (c, C.toL))) (w : World) (hE : Env B w) (hB : B ≤ w.heap.size) :
    Calls Tryz.prog 8 #[.string x] w fun e w' => e = .returned (.tuple #[.agg #[.int .i64 C.c0, .int .i64 C.c1, .int .i64 C.c2, .int .i64 C.c3, .int .i64 C.c4, .int .i64 C.c5, .int .i64 C.c6, .int .i64 C.c7, .int .i64 C.c8, .int .i64 C.c9, .int .i64 C.c10, .int .i64 C.c11, .int .i64 C.c12], .int .i64 c]) ∧ Below w.heap.size w w' := by
  have HE := Lib.hid hE
  have HB0 := Lib.hid hB
  have hxl : x.data.toList.length ≤ 8000 := by rw [← bsize_len]; exact hx
  have hx9 : x.size ≤ 9000 := by omega
  have hxi : ¬ (8192 : Int) < (x.size : Int) := by omega
  obtain ⟨u, hu⟩ := mk_bytes (Lib.trimB x.data.toList 32)
  have HU := Lib.hid hu
  have HPP : Hid (Cs (w.alloc (.cells #[.int .i64 0, .int .i64 0, .int .i64 0, .int .i64 0, .int .i64 0, .int .i64 0, .int .i64 0, .int .i64 0, .int .i64 0, .int .i64 0, .int .i64 0, .int .i64 0, .int .i64 0] 23)) w.heap.size [.int .i64 0, .int .i64 0, .int .i64 0, .int .i64 0, .int .i64 0, .int .i64 0, .int .i64 0, .int .i64 0, .int .i64 0, .int .i64 0, .int .i64 0, .int .i64 0, .int .i64 0] ∧ Below w.heap.size w (w.alloc (.cells #[.int .i64 0, .int .i64 0, .int .i64 0, .int .i64 0, .int .i64 0, .int .i64 0, .int .i64 0, .int .i64 0, .int .i64 0, .int .i64 0, .int .i64 0, .int .i64 0, .int .i64 0] 23))) := Lib.hid ⟨Cs.new _ _ _, (Below.refl _ _).alloc (Nat.le_refl _) _⟩
  clear hE hB hu
  go_enter Tryz.func8, Tryz.ntmps8
  go_upto_region 1 with fail
  obtain ⟨w1, hw1⟩ : ∃ z, w.alloc (.cells #[.int .i64 0, .int .i64 0, .int .i64 0, .int .i64 0, .int .i64 0, .int .i64 0, .int .i64 0, .int .i64 0, .int .i64 0, .int .i64 0, .int .i64 0, .int .i64 0, .int .i64 0] 23) = z := ⟨_, rfl⟩
  obtain ⟨p, hp⟩ : ∃ z, w.heap.size = z := ⟨_, rfl⟩
  have HPP : Hid (Cs w1 p [.int .i64 0, .int .i64 0, .int .i64 0, .int .i64 0, .int .i64 0, .int .i64 0, .int .i64 0, .int .i64 0, .int .i64 0, .int .i64 0, .int .i64 0, .int .i64 0, .int .i64 0] ∧ Below w.heap.size w w1) := Lib.hid ⟨by have := HPP.out.1; rw [hw1, hp] at this; exact this, by have := HPP.out.2; rw [hw1] at this; exact this⟩
  have hpe := hp
  rw [hw1, hp]
  have HP := Lib.hid hpe
  clear hw1 hp hpe
  by_cases hu0 : u.toList.isEmpty = true
  · have hz : Lib.trimB x.data.toList 32 = [] := by rw [← HU.out, ← Lib.toList_data]; exact List.isEmpty_iff.1 hu0
    have hr := H.out
    unfold parT at hr
    rw [if_neg (by omega), if_pos hz] at hr
    simp only [Prod.mk.injEq] at hr
    obtain ⟨rfl, hr⟩ := hr
    obtain rfl := toL_zero hr.symm
    clear H hz hr
    go_upto_region 4 with (first | (go_at_call 23; refine (trim_c x u HU hx9 _).mono ?_; rintro e w2 ⟨rfl, hb⟩; have HB2 : Hid (Below w.heap.size w w2) := Lib.hid (HPP.out.2.trans (hb.mono HPP.out.2.size)); have HC2 := Lib.hid (HPP.out.1.next hb); clear hb) | fail)
    have d0 := HC2.out.at 0 _ rfl
    have d1 := HC2.out.at 1 _ rfl
    have d2 := HC2.out.at 2 _ rfl
    have d3 := HC2.out.at 3 _ rfl
    have d4 := HC2.out.at 4 _ rfl
    have d5 := HC2.out.at 5 _ rfl
    have d6 := HC2.out.at 6 _ rfl
    have d7 := HC2.out.at 7 _ rfl
    have d8 := HC2.out.at 8 _ rfl
    have d9 := HC2.out.at 9 _ rfl
    have d10 := HC2.out.at 10 _ rfl
    have d11 := HC2.out.at 11 _ rfl
    have d12 := HC2.out.at 12 _ rfl
    have f0 := HC2.out.free 0
    have f1 := HC2.out.free 1
    have f2 := HC2.out.free 2
    have f3 := HC2.out.free 3
    have f4 := HC2.out.free 4
    have f5 := HC2.out.free 5
    have f6 := HC2.out.free 6
    have f7 := HC2.out.free 7
    have f8 := HC2.out.free 8
    have f9 := HC2.out.free 9
    have f10 := HC2.out.free 10
    have f11 := HC2.out.free 11
    have f12 := HC2.out.free 12
    have hpl := HC2.out.lt
    go_wp2_with fail
    have k13 := HC2.out.set13 rfl (.int .i64 0) (.int .i64 0) (.int .i64 0) (.int .i64 0) (.int .i64 0) (.int .i64 0) (.int .i64 0) (.int .i64 0) (.int .i64 0) (.int .i64 0) (.int .i64 0) (.int .i64 0) (.int .i64 0)
    have k0 := k13.at 0 _ rfl
    have k1 := k13.at 1 _ rfl
    have k2 := k13.at 2 _ rfl
    have k3 := k13.at 3 _ rfl
    have k4 := k13.at 4 _ rfl
    have k5 := k13.at 5 _ rfl
    have k6 := k13.at 6 _ rfl
    have k7 := k13.at 7 _ rfl
    have k8 := k13.at 8 _ rfl
    have k9 := k13.at 9 _ rfl
    have k10 := k13.at 10 _ rfl
    have k11 := k13.at 11 _ rfl
    have k12 := k13.at 12 _ rfl
    refine bodyPost_ret (v := .tuple #[.agg #[.int .i64 0, .int .i64 0, .int .i64 0, .int .i64 0, .int .i64 0, .int .i64 0, .int .i64 0, .int .i64 0, .int .i64 0, .int .i64 0, .int .i64 0, .int .i64 0, .int .i64 0], .int .i64 0]) (by simp [results, Tryz.results8, go_sem, k0, k1, k2, k3, k4, k5, k6, k7, k8, k9, k10, k11, k12]) rfl ⟨rfl, below13 HB2.out (by rw [HP.out]; exact Nat.le_refl _) _ _ _ _ _ _ _ _ _ _ _ _ _⟩
  have hu1 : u.toList.isEmpty = false := by simpa using hu0
  have hz : ¬ Lib.trimB x.data.toList 32 = [] := fun e => hu0 (by rw [Lib.toList_data, HU.out, e]; rfl)
  have hr := H.out
  unfold parT at hr
  rw [if_neg (by omega), if_neg hz] at hr
  obtain ⟨ps, hps⟩ : ∃ ps, Lib.splitB ⟨#[44]⟩ 0 (Lib.countB x ⟨#[44]⟩) x = ps := ⟨_, rfl⟩
  have HPS := Lib.hid hps
  have hls : ps.map (·.data.toList) = sepS 44 x.data.toList := by rw [← hps]; exact pieces_sep x
  rw [← hls] at hr
  obtain ⟨hk1, hk2⟩ := sepS_len 44 x.data.toList
  rw [← hls] at hk1 hk2
  rw [List.length_map] at hk1
  have HSZ : Hid (∀ q ∈ ps, q.size ≤ 8000) := Lib.hid (fun q hq => by rw [bsize_len]; have := hk2 _ (List.mem_map_of_mem (f := fun z : ByteArray => z.data.toList) hq); omega)
  have HR0 : Hid (runT zeroL (List.replicate 13 false) ((ps.map (·.data.toList)).drop 0) = (c, C.toL)) := Lib.hid hr
  obtain ⟨K, hK⟩ : ∃ K, ps.length = K := ⟨_, rfl⟩
  have HK := Lib.hid hK
  have hKl : K ≤ 9000 := by omega
  clear H hu0 hz hr hps hls hk1 hk2 hK
  go_upto_region 5 with (first | (go_at_call 23; refine (trim_c x u HU hx9 _).mono ?_; rintro e w2 ⟨rfl, hb⟩; have HB2 : Hid (Below w.heap.size w w2) := Lib.hid (HPP.out.2.trans (hb.mono HPP.out.2.size)); have HC2 := Lib.hid (HPP.out.1.next hb); clear hb) | fail)
  have HN := Lib.hid (Ps.new w w2 p ps HB2.out (by rw [HP.out]; exact Nat.le_refl _) HC2.out)
  have HM : Hid (∀ o1 o2, ML ((w2.alloc o1).alloc o2)) := Lib.hid (fun o1 o2 => (((HE.out.below (HB2.out.mono HB0.out)).ml).alloc o1).alloc o2)
  clear hu1
  go_upto_region 8 with (first | (go_at_call 24; refine (split_c x hx9 _ (HM.out _ _) ps HPS (w2.heap.size + 2) (by simp)).mono ?_; rintro e w3 ⟨rfl, hw3⟩; have HN3 : Hid (Ps w p w2.heap.size ps w3 zeroL (List.replicate 13 false)) := Lib.hid (hw3 ▸ HN.out); clear hw3 HN; rw [HK.out]) | fail)
  obtain ⟨b, hb⟩ : ∃ z, w2.heap.size = z := ⟨_, rfl⟩
  rw [hb] at HN3
  have HBB := Lib.hid hb
  try simp only [hb]
  clear HC2 HB2 HM HPP hb
  go_loopw [22] (fun v wr => ∃ (k : Nat) (L : List Int) (sn : List Bool), k ≤ K ∧ v = .int .i64 k ∧ Hid (Ps w p b ps wr L sn) ∧ Hid (runT L sn ((ps.map (·.data.toList)).drop k) = (c, C.toL))) (fun v _ => K - (intOf v).toNat)
  case atStart => exact ⟨0, _, _, Nat.zero_le _, rfl, HN3, HR0⟩
  case round =>
    clear HN3 HR0
    obtain ⟨k, L, sn, hk, rfl, HS, HR⟩ := hrel
    by_cases hlt : k < K
    · have hlt' : (k : Int) < (K : Int) := by omega
      have hk0 : (0 : Int) ≤ (k : Int) := by omega
      have hkl : k < ps.length := by rw [HK.out]; exact hlt
      obtain ⟨s, hs⟩ : ∃ s, ps[k]? = some s := ⟨_, List.getElem?_eq_getElem hkl⟩
      have hsz : s.size ≤ 9000 := by have := HSZ.out s (List.mem_of_getElem? hs); omega
      have hg : wr.cell? ⟨b + 2, k, none⟩ = some (.string s) := HS.out.kp.at k _ (by rw [List.getElem?_map, hs]; rfl)
      have hbl := HS.out.kp.lt
      have hr := HR.out
      rw [runT_one (s := s.data.toList) (by rw [List.getElem?_map, hs]; rfl), stepT_ent] at hr
      obtain ⟨⟨i, n, ce, sn'⟩, hent⟩ : ∃ z, entT sn s.data.toList = z := ⟨_, rfl⟩
      rw [hent] at hr
      simp only at hr
      have HEN := Lib.hid hent
      obtain ⟨hsn', hi0, hi13⟩ := ent_range hent HS.out.ls
      have HI := Lib.hid hsn'
      have HEW := Lib.hid (HE.out.below (HS.out.bel.mono HB0.out))
      have HBS : Hid (B ≤ wr.heap.size ∧ B ≤ b + 1) := Lib.hid ⟨Nat.le_trans HB0.out HS.out.bel.size, by have := HS.out.hp; have := HB0.out; omega⟩
      clear HR hs hkl hent hsn'
      by_cases hce : ce = 0
      · subst hce
        rw [if_pos rfl] at hr
        simp only [ne_eq, not_true_eq_false, if_false] at hr
        obtain ⟨I, rfl⟩ : ∃ I : Nat, i = I := ⟨i.toNat, by omega⟩
        rw [Int.toNat_natCast] at hr
        have HR2 := Lib.hid hr
        clear hr
        go_upto_region 13 with (first | (go_at_call 25; refine (entry_b B s hsz (b + 1) sn HS.out.ls I n 0 sn' HEN _ HEW.out HBS.out.1 HBS.out.2 HS.out.cs).mono ?_; rintro e w5 ⟨rfl, hf, hc⟩; have HS5 := Lib.hid (HS.out.entry hf hc HI.out); clear hf hc) | fail)
        have hl5 := HS5.out.cl.lt
        have hci : w5.cell? ⟨b, I, none⟩ = some (.int .i64 (L.getD I 0)) := HS5.out.cl.at I _ (by unfold ivs; rw [List.getElem?_map, List.getD_eq_getElem?_getD, List.getElem?_eq_getElem (show I < L.length by rw [HS5.out.ll]; omega)]; rfl)
        have hfi := HS5.out.cl.free I
        have HS6 := Lib.hid (HS5.out.put I (by omega) n)
        go_wp2_with fail
        go_roundw
        case rel => exact ⟨k + 1, _, _, by omega, by go_num, HS6, HR2⟩
        case measure => simp [intOf]; omega
      · rw [if_neg hce] at hr
        simp only [ne_eq, hce, not_false_eq_true, if_true, Prod.mk.injEq] at hr
        obtain ⟨rfl, hr⟩ := hr
        obtain rfl := toL_zero hr.symm
        clear hr
        go_upto_region 12 with (first | (go_at_call 25; refine (entry_b B s hsz (b + 1) sn HS.out.ls i n ce sn' HEN _ HEW.out HBS.out.1 HBS.out.2 HS.out.cs).mono ?_; rintro e w5 ⟨rfl, hf, hc⟩; have HS5 := Lib.hid (HS.out.entry hf hc HI.out); clear hf hc) | fail)
        have d0 := HS5.out.c0.at 0 _ rfl
        have d1 := HS5.out.c0.at 1 _ rfl
        have d2 := HS5.out.c0.at 2 _ rfl
        have d3 := HS5.out.c0.at 3 _ rfl
        have d4 := HS5.out.c0.at 4 _ rfl
        have d5 := HS5.out.c0.at 5 _ rfl
        have d6 := HS5.out.c0.at 6 _ rfl
        have d7 := HS5.out.c0.at 7 _ rfl
        have d8 := HS5.out.c0.at 8 _ rfl
        have d9 := HS5.out.c0.at 9 _ rfl
        have d10 := HS5.out.c0.at 10 _ rfl
        have d11 := HS5.out.c0.at 11 _ rfl
        have d12 := HS5.out.c0.at 12 _ rfl
        have f0 := HS5.out.c0.free 0
        have f1 := HS5.out.c0.free 1
        have f2 := HS5.out.c0.free 2
        have f3 := HS5.out.c0.free 3
        have f4 := HS5.out.c0.free 4
        have f5 := HS5.out.c0.free 5
        have f6 := HS5.out.c0.free 6
        have f7 := HS5.out.c0.free 7
        have f8 := HS5.out.c0.free 8
        have f9 := HS5.out.c0.free 9
        have f10 := HS5.out.c0.free 10
        have f11 := HS5.out.c0.free 11
        have f12 := HS5.out.c0.free 12
        have hpl := HS5.out.c0.lt
        go_wp2_with fail
        have k13 := HS5.out.c0.set13 rfl (.int .i64 0) (.int .i64 0) (.int .i64 0) (.int .i64 0) (.int .i64 0) (.int .i64 0) (.int .i64 0) (.int .i64 0) (.int .i64 0) (.int .i64 0) (.int .i64 0) (.int .i64 0) (.int .i64 0)
        have k0 := k13.at 0 _ rfl
        have k1 := k13.at 1 _ rfl
        have k2 := k13.at 2 _ rfl
        have k3 := k13.at 3 _ rfl
        have k4 := k13.at 4 _ rfl
        have k5 := k13.at 5 _ rfl
        have k6 := k13.at 6 _ rfl
        have k7 := k13.at 7 _ rfl
        have k8 := k13.at 8 _ rfl
        have k9 := k13.at 9 _ rfl
        have k10 := k13.at 10 _ rfl
        have k11 := k13.at 11 _ rfl
        have k12 := k13.at 12 _ rfl
        refine bodyPost_ret (v := .tuple #[.agg #[.int .i64 0, .int .i64 0, .int .i64 0, .int .i64 0, .int .i64 0, .int .i64 0, .int .i64 0, .int .i64 0, .int .i64 0, .int .i64 0, .int .i64 0, .int .i64 0, .int .i64 0], .int .i64 ce]) (by simp [results, Tryz.results8, go_sem, k0, k1, k2, k3, k4, k5, k6, k7, k8, k9, k10, k11, k12]) rfl ⟨rfl, below13 HS5.out.bel HS5.out.hp.1 _ _ _ _ _ _ _ _ _ _ _ _ _⟩
    · have hge : ¬ ((k : Int) < (K : Int)) := by omega
      have hr := HR.out
      rw [List.drop_eq_nil_of_le (by rw [List.length_map, HK.out]; omega), runT] at hr
      simp only [Prod.mk.injEq] at hr
      obtain ⟨rfl, rfl⟩ := hr
      have HCL := Lib.hid (HS.out.cl)
      rw [ivs_toL] at HCL
      have hlb := HCL.out.lt
      have e0 := HCL.out.at 0 _ rfl
      have e1 := HCL.out.at 1 _ rfl
      have e2 := HCL.out.at 2 _ rfl
      have e3 := HCL.out.at 3 _ rfl
      have e4 := HCL.out.at 4 _ rfl
      have e5 := HCL.out.at 5 _ rfl
      have e6 := HCL.out.at 6 _ rfl
      have e7 := HCL.out.at 7 _ rfl
      have e8 := HCL.out.at 8 _ rfl
      have e9 := HCL.out.at 9 _ rfl
      have e10 := HCL.out.at 10 _ rfl
      have e11 := HCL.out.at 11 _ rfl
      have e12 := HCL.out.at 12 _ rfl
      clear HR
      go_upto_region 15 with fail
      go_wp2_with (first | (go_at_call 26; refine (pack_b C _).mono ?_; rintro e w6 ⟨rfl, hb6⟩; have HB6 : Hid (Below w.heap.size w w6) := Lib.hid (HS.out.bel.trans (hb6.mono HS.out.bel.size)); have HC6 := Lib.hid (HS.out.c0.next hb6); clear hb6; have d0 := HC6.out.at 0 _ rfl; have d1 := HC6.out.at 1 _ rfl; have d2 := HC6.out.at 2 _ rfl; have d3 := HC6.out.at 3 _ rfl; have d4 := HC6.out.at 4 _ rfl; have d5 := HC6.out.at 5 _ rfl; have d6 := HC6.out.at 6 _ rfl; have d7 := HC6.out.at 7 _ rfl; have d8 := HC6.out.at 8 _ rfl; have d9 := HC6.out.at 9 _ rfl; have d10 := HC6.out.at 10 _ rfl; have d11 := HC6.out.at 11 _ rfl; have d12 := HC6.out.at 12 _ rfl; have f0 := HC6.out.free 0; have f1 := HC6.out.free 1; have f2 := HC6.out.free 2; have f3 := HC6.out.free 3; have f4 := HC6.out.free 4; have f5 := HC6.out.free 5; have f6 := HC6.out.free 6; have f7 := HC6.out.free 7; have f8 := HC6.out.free 8; have f9 := HC6.out.free 9; have f10 := HC6.out.free 10; have f11 := HC6.out.free 11; have f12 := HC6.out.free 12; have hpl := HC6.out.lt) | fail)
      have k13 := HC6.out.set13 rfl (.int .i64 C.c0) (.int .i64 C.c1) (.int .i64 C.c2) (.int .i64 C.c3) (.int .i64 C.c4) (.int .i64 C.c5) (.int .i64 C.c6) (.int .i64 C.c7) (.int .i64 C.c8) (.int .i64 C.c9) (.int .i64 C.c10) (.int .i64 C.c11) (.int .i64 C.c12)
      have k0 := k13.at 0 _ rfl
      have k1 := k13.at 1 _ rfl
      have k2 := k13.at 2 _ rfl
      have k3 := k13.at 3 _ rfl
      have k4 := k13.at 4 _ rfl
      have k5 := k13.at 5 _ rfl
      have k6 := k13.at 6 _ rfl
      have k7 := k13.at 7 _ rfl
      have k8 := k13.at 8 _ rfl
      have k9 := k13.at 9 _ rfl
      have k10 := k13.at 10 _ rfl
      have k11 := k13.at 11 _ rfl
      have k12 := k13.at 12 _ rfl
      refine bodyPost_ret (v := .tuple #[.agg #[.int .i64 C.c0, .int .i64 C.c1, .int .i64 C.c2, .int .i64 C.c3, .int .i64 C.c4, .int .i64 C.c5, .int .i64 C.c6, .int .i64 C.c7, .int .i64 C.c8, .int .i64 C.c9, .int .i64 C.c10, .int .i64 C.c11, .int .i64 C.c12], .int .i64 0]) (by simp [results, Tryz.results8, go_sem, k0, k1, k2, k3, k4, k5, k6, k7, k8, k9, k10, k11, k12]) rfl ⟨rfl, below13 HB6.out HS.out.hp.1 _ _ _ _ _ _ _ _ _ _ _ _ _⟩
end Go.Proofs.YthlhicegchkjjaaGreatDoor
