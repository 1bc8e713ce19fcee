/-
  The walks over the reference's size of an expression, its verdict, and CheckExpr.
-/
import Derived.Test.YthlhicegchkjjaaEtD
import Derived.Deep.RegionWith
import Derived.Deep.RegionHeld3
namespace Go.Proofs.Ythlhicegchkjjaa
open Go.RowKit


set_option maxHeartbeats 400000 in
theorem deeper_b (a b d r : Int) (H : Hid (max b d = r)) (w : World) :
    Calls Try.prog 75 #[.agg #[.int .i64 a, .int .i64 b], .int .i64 d] w fun e w' => e = .returned (.agg #[.int .i64 a, .int .i64 r]) ∧ Below w.heap.size w w' := by
  by_cases h : b < d
  · have hr : r = d := by have := H.out; omega
    subst hr
    clear H
    go_enter Try.func75, Try.ntmps75
    go_wp2_with fail
    refine bodyPost_ret (v := .agg #[.int .i64 a, .int .i64 r]) (by simp [results, Try.results75, go_sem]) rfl ⟨rfl, ?_⟩
    (repeat' (first | exact Below.refl _ _ | refine Below.drew ?_ | refine below_drewN ?_ _ | refine Below.alloc ?_ (by simp; try omega) _ | refine Below.setCell ?_ (by simp; try omega) _))
  · have hr : r = b := by have := H.out; omega
    subst hr
    clear H
    go_enter Try.func75, Try.ntmps75
    go_wp2_with fail
    refine bodyPost_ret (v := .agg #[.int .i64 a, .int .i64 r]) (by simp [results, Try.results75, go_sem]) rfl ⟨rfl, ?_⟩
    (repeat' (first | exact Below.refl _ _ | refine Below.drew ?_ | refine below_drewN ?_ _ | refine Below.alloc ?_ (by simp; try omega) _ | refine Below.setCell ?_ (by simp; try omega) _))

def vcode (a b : Int) (f nm nu : Bool) : Int := if 1024 < a ∨ 12 < b then 4 else if f then (if nm then (if nu then 0 else 3) else 7) else 1
set_option maxHeartbeats 400000 in
theorem verdict_b (a b r : Int) (f nm nu : Bool) (H : Hid (vcode a b f nm nu = r)) (w : World) :
    Calls Try.prog 61 #[.agg #[.int .i64 a, .int .i64 b], .bool f, .bool nm, .bool nu] w fun e w' => e = .returned (.int .i64 r) ∧ Below w.heap.size w w' := by
  by_cases h1 : 1024 < a
  · have hr : r = 4 := by have := H.out; simp only [vcode] at this; rw [if_pos (.inl h1)] at this; exact this.symm
    subst hr
    clear H
    go_enter Try.func61, Try.ntmps61
    go_wp2_with fail
    go_ret
    exact ⟨rfl, (by (repeat' (first | exact Below.refl _ _ | refine Below.drew ?_ | refine below_drewN ?_ _ | refine Below.alloc ?_ (by simp; try omega) _ | refine Below.setCell ?_ (by simp; try omega) _)))⟩
  by_cases h2 : 12 < b
  · have hr : r = 4 := by have := H.out; simp only [vcode] at this; rw [if_pos (.inr h2)] at this; exact this.symm
    subst hr
    clear H
    go_enter Try.func61, Try.ntmps61
    go_wp2_with fail
    go_ret
    exact ⟨rfl, (by (repeat' (first | exact Below.refl _ _ | refine Below.drew ?_ | refine below_drewN ?_ _ | refine Below.alloc ?_ (by simp; try omega) _ | refine Below.setCell ?_ (by simp; try omega) _)))⟩
  have hr := H.out
  simp only [vcode] at hr
  rw [if_neg (by omega)] at hr
  clear H
  rcases f with _ | _
  · have hr' : r = 1 := by simpa using hr.symm
    subst hr'
    clear hr
    go_enter Try.func61, Try.ntmps61
    go_wp2_with fail
    go_ret
    exact ⟨rfl, (by (repeat' (first | exact Below.refl _ _ | refine Below.drew ?_ | refine below_drewN ?_ _ | refine Below.alloc ?_ (by simp; try omega) _ | refine Below.setCell ?_ (by simp; try omega) _)))⟩
  rcases nm with _ | _
  · have hr' : r = 7 := by simpa using hr.symm
    subst hr'
    clear hr
    go_enter Try.func61, Try.ntmps61
    go_wp2_with fail
    go_ret
    exact ⟨rfl, (by (repeat' (first | exact Below.refl _ _ | refine Below.drew ?_ | refine below_drewN ?_ _ | refine Below.alloc ?_ (by simp; try omega) _ | refine Below.setCell ?_ (by simp; try omega) _)))⟩
  rcases nu with _ | _
  · have hr' : r = 3 := by simpa using hr.symm
    subst hr'
    clear hr
    go_enter Try.func61, Try.ntmps61
    go_wp2_with fail
    go_ret
    exact ⟨rfl, (by (repeat' (first | exact Below.refl _ _ | refine Below.drew ?_ | refine below_drewN ?_ _ | refine Below.alloc ?_ (by simp; try omega) _ | refine Below.setCell ?_ (by simp; try omega) _)))⟩
  · have hr' : r = 0 := by simpa using hr.symm
    subst hr'
    clear hr
    go_enter Try.func61, Try.ntmps61
    go_wp2_with fail
    go_ret
    exact ⟨rfl, (by (repeat' (first | exact Below.refl _ _ | refine Below.drew ?_ | refine below_drewN ?_ _ | refine Below.alloc ?_ (by simp; try omega) _ | refine Below.setCell ?_ (by simp; try omega) _)))⟩

theorem nodes_l (o n : Int) (s : ByteArray) (ks : List ET) (A : Option Addr) (c l t : Nat) (hl : ks.length = l) (ht : ET.cnt (.mk o n s ks) = t) (h1 : t ≤ 1000000) (w : World) (hE : EOk w s A c ks) :
    Calls Try.prog 74 #[.agg #[.int .i64 o, .int .i64 n, .string s, .slice A l c]] w fun e w' => e = .returned (.int .i64 t) ∧ Below w.heap.size w w' := by
  subst hl; subst ht
  exact nodes_any _ o n s ks A c w (Nat.le_refl _) h1 hE
theorem depth_l (o n : Int) (s : ByteArray) (ks : List ET) (A : Option Addr) (c l d : Nat) (hl : ks.length = l) (hd : ET.dep (.mk o n s ks) = d) (h1 : d ≤ 1000000) (w : World) (hE : EOk w s A c ks) :
    Calls Try.prog 76 #[.agg #[.int .i64 o, .int .i64 n, .string s, .slice A l c]] w fun e w' => e = .returned (.int .i64 d) ∧ Below w.heap.size w w' := by
  subst hl
  exact depth_any _ o n s ks A c w d (Nat.le_refl _) hE h1 hd
/-- Three new blocks: a size, an expression, a result. -/
structure Laid (w W : World) (t : Int) (o n : Int) (s : ByteArray) (A : Option Addr) (l c : Nat) : Prop where
  below : Below w.heap.size w W
  room : w.heap.size + 3 ≤ W.heap.size
  s0 : W.cell? ⟨w.heap.size, 0, none⟩ = some (.int .i64 t)
  s1 : W.cell? ⟨w.heap.size, 1, none⟩ = some (.int .i64 0)
  sf : W.frozen? ⟨w.heap.size, 0, none⟩ = false
  e0 : W.cell? ⟨w.heap.size + 1, 0, none⟩ = some (.int .i64 o)
  e1 : W.cell? ⟨w.heap.size + 1, 1, none⟩ = some (.int .i64 n)
  e2 : W.cell? ⟨w.heap.size + 1, 2, none⟩ = some (.string s)
  e3 : W.cell? ⟨w.heap.size + 1, 3, none⟩ = some (.slice A l c)
  r0 : W.cell? ⟨w.heap.size + 1 + 1, 0, none⟩ = some (.int .i64 0)
  r1 : W.cell? ⟨w.heap.size + 1 + 1, 1, none⟩ = some (.int .i64 0)
  rf : W.frozen? ⟨w.heap.size + 1 + 1, 0, none⟩ = false
  rg : W.frozen? ⟨w.heap.size + 1 + 1, 1, none⟩ = false
theorem Laid.next {w W W' : World} {t o n : Int} {s : ByteArray} {A : Option Addr} {l c : Nat} (h : Laid w W t o n s A l c) (hb : Below W.heap.size W W') : Laid w W' t o n s A l c := by
  have hr := h.room
  have hz := hb.size
  have hc : ∀ k i, k < W.heap.size → W'.cell? ⟨k, i, none⟩ = W.cell? ⟨k, i, none⟩ := fun k i hk => hb.cell (p := ⟨k, i, none⟩) hk
  have hf : ∀ k i, k < W.heap.size → W'.frozen? ⟨k, i, none⟩ = W.frozen? ⟨k, i, none⟩ := fun k i hk => hb.frozen (p := ⟨k, i, none⟩) hk
  refine ⟨h.below.trans (hb.mono (by omega)), by omega, ?_, ?_, ?_, ?_, ?_, ?_, ?_, ?_, ?_, ?_, ?_⟩
  · rw [hc _ _ (by omega)]; exact h.s0
  · rw [hc _ _ (by omega)]; exact h.s1
  · rw [hf _ _ (by omega)]; exact h.sf
  · rw [hc _ _ (by omega)]; exact h.e0
  · rw [hc _ _ (by omega)]; exact h.e1
  · rw [hc _ _ (by omega)]; exact h.e2
  · rw [hc _ _ (by omega)]; exact h.e3
  · rw [hc _ _ (by omega)]; exact h.r0
  · rw [hc _ _ (by omega)]; exact h.r1
  · rw [hf _ _ (by omega)]; exact h.rf
  · rw [hf _ _ (by omega)]; exact h.rg
theorem Laid.put {w W : World} {t o n : Int} {s : ByteArray} {A : Option Addr} {l c : Nat} (h : Laid w W t o n s A l c) (t' : Int) : Laid w (W.setCell ⟨w.heap.size, 0, none⟩ (.int .i64 t')) t' o n s A l c := by
  obtain ⟨kb, kr, k0, k1, kf, e0, e1, e2, e3, r0, r1, rf, rg⟩ := h
  refine ⟨kb.setCell (Nat.le_refl _) _, by go_simp, ?_, ?_, ?_, ?_, ?_, ?_, ?_, ?_, ?_, ?_, ?_⟩ <;> go_simp
theorem Laid.drew {w W : World} {t o n : Int} {s : ByteArray} {A : Option Addr} {l c : Nat} (h : Laid w W t o n s A l c) : Laid w W.drew t o n s A l c := h.next (Below.refl _ _).drew

set_option maxHeartbeats 2000000 in
theorem add_b (o n : Int) (s : ByteArray) (ks : List ET) (A : Option Addr) (c l : Nat) (w : World) (t d : Nat) (hl : ks.length = l) (ht : ET.cnt (.mk o n s ks) = t) (hd : ET.dep (.mk o n s ks) = d) (h1 : t ≤ 1000000) (h2 : d ≤ 1000000) (hE : EOk w s A c ks) :
    Calls Try.prog 62 #[.agg #[.int .i64 0, .int .i64 0], .agg #[.int .i64 o, .int .i64 n, .string s, .slice A l c], .bool true] w fun e w' => e = .returned (.agg #[.int .i64 t, .int .i64 d]) ∧ Below w.heap.size w w' := by
  have HE := Lib.hid hE
  have HL := Lib.hid hl
  have HT := Lib.hid ht
  have HD := Lib.hid hd
  have hwt : IntKind.i64.wrap (t : Int) = t := IntWalk.i64_in _ (by omega)
  clear hE hl ht hd
  go_enter Try.func62, Try.ntmps62
  go_wp2_with (fail)
  have K : Laid w (((w.alloc (.cells #[.int .i64 0, .int .i64 0] 75)).alloc (.cells #[.int .i64 o, .int .i64 n, .string s, .slice A l c] 27)).alloc (.cells #[.int .i64 0, .int .i64 0] 75)) 0 o n s A l c := by
    refine ⟨(by (repeat' (first | exact Below.refl _ _ | refine Below.drew ?_ | refine below_drewN ?_ _ | refine Below.alloc ?_ (by simp; try omega) _ | refine Below.setCell ?_ (by simp; try omega) _))), by simp, ?_, ?_, ?_, ?_, ?_, ?_, ?_, ?_, ?_, ?_, ?_⟩ <;> go_simp
  generalize ((w.alloc (.cells #[.int .i64 0, .int .i64 0] 75)).alloc (.cells #[.int .i64 o, .int .i64 n, .string s, .slice A l c] 27)).alloc (.cells #[.int .i64 0, .int .i64 0] 75) = W at K ⊢
  have KH := Lib.hid K
  obtain ⟨-, kr, k0, k1, kf, e0, e1, e2, e3, r0, r1, rf, rg⟩ := K
  go_region_with (go_at_call 74; refine (nodes_l o n s ks A c l t HL.out HT.out h1 _ (HE.out.below KH.out.drew.below)).mono ?_; rintro e w2 ⟨rfl, hb⟩; have K2 := Lib.hid (KH.out.drew.next hb); clear hb; clear kr k0 k1 kf e0 e1 e2 e3 r0 r1 rf rg; obtain ⟨-, kr, k0, k1, kf, e0, e1, e2, e3, r0, r1, rf, rg⟩ := K2.out)
  all_goals
    have K3 := Lib.hid (K2.out.put t)
    generalize w2.setCell ⟨w.heap.size, 0, none⟩ (.int .i64 t) = W3 at K3 ⊢
    clear K2 kr k0 k1 kf e0 e1 e2 e3 r0 r1 rf rg
    obtain ⟨-, kr, k0, k1, kf, e0, e1, e2, e3, r0, r1, rf, rg⟩ := K3.out
    go_wp2_with fail
    go_region_with (first
      | (go_at_call 76; refine (depth_l o n s ks A c l d HL.out HD.out h2 _ (HE.out.below K3.out.drew.below)).mono ?_; rintro e w4 ⟨rfl, hb⟩; have K4 := Lib.hid (K3.out.drew.next hb); clear hb; clear kr k0 k1 kf e0 e1 e2 e3 r0 r1 rf rg; obtain ⟨-, kr, k0, k1, kf, e0, e1, e2, e3, r0, r1, rf, rg⟩ := K4.out)
      | (go_at_call 75; refine (deeper_b t 0 d d (by show max (0 : Int) d = d; omega) _).mono ?_; rintro e w5 ⟨rfl, hb⟩; have K5 := Lib.hid (K4.out.next hb); clear hb; clear kr k0 k1 kf e0 e1 e2 e3 r0 r1 rf rg; obtain ⟨-, kr, k0, k1, kf, e0, e1, e2, e3, r0, r1, rf, rg⟩ := K5.out))
    all_goals
      go_wp2_with fail
      refine bodyPost_ret (v := .agg #[.int .i64 t, .int .i64 d]) (by simp [results, Try.results62, go_sem, r0, r1]) rfl ⟨rfl, ?_⟩
      exact (K5.out.below.setCell (by show w.heap.size ≤ w.heap.size + 1 + 1; omega) _).setCell (by show w.heap.size ≤ w.heap.size + 1 + 1; omega) _

theorem vcode_check (e : ET) : vcode (ET.cnt e) (ET.dep e) (ET.formB e) (ET.namesB e) (ET.numsB e) = (ET.check e : Int) := by
  simp only [vcode, ET.check]
  by_cases h : 1024 < ET.cnt e ∨ 12 < ET.dep e
  · rw [if_pos h, if_pos (by omega)]; rfl
  · rw [if_neg h, if_neg (by omega)]
    cases ET.formB e <;> cases ET.namesB e <;> cases ET.numsB e <;> rfl
end Go.Proofs.Ythlhicegchkjjaa
