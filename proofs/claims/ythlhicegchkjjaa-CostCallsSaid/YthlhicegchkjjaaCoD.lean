/-
  The walk over the reference's cost of an expression.
-/
import Derived.Test.YthlhicegchkjjaaCoC
import Derived.Test.YthlhicegchkjjaaEtL
namespace Go.Proofs.Ythlhicegchkjjaa
open Go.RowKit

/-- The entries of a model in block b. -/
def CIn (W : World) (b : Nat) (C : CM) : Prop := W.cell? ⟨b, 0, none⟩ = some (.int .i64 C.c0) ∧ W.cell? ⟨b, 1, none⟩ = some (.int .i64 C.c1) ∧ W.cell? ⟨b, 2, none⟩ = some (.int .i64 C.c2) ∧ W.cell? ⟨b, 3, none⟩ = some (.int .i64 C.c3) ∧ W.cell? ⟨b, 4, none⟩ = some (.int .i64 C.c4) ∧ W.cell? ⟨b, 5, none⟩ = some (.int .i64 C.c5) ∧ W.cell? ⟨b, 6, none⟩ = some (.int .i64 C.c6) ∧ W.cell? ⟨b, 7, none⟩ = some (.int .i64 C.c7) ∧ W.cell? ⟨b, 8, none⟩ = some (.int .i64 C.c8) ∧ W.cell? ⟨b, 9, none⟩ = some (.int .i64 C.c9) ∧ W.cell? ⟨b, 10, none⟩ = some (.int .i64 C.c10) ∧ W.cell? ⟨b, 11, none⟩ = some (.int .i64 C.c11) ∧ W.cell? ⟨b, 12, none⟩ = some (.int .i64 C.c12)
theorem CIn.mk {W W' : World} {b : Nat} {C : CM} (h : CIn W b C) (hc : ∀ i, W'.cell? ⟨b, i, none⟩ = W.cell? ⟨b, i, none⟩) : CIn W' b C := by
  unfold CIn at h ⊢
  simp only [hc]
  exact h
/-- A model's own block, an expression's own block behind it, behind which the world only grows. -/
structure Bx (w W : World) (C : CM) (o n : Int) (s : ByteArray) (A : Option Addr) (l c : Nat) : Prop where
  below : Below w.heap.size w W
  size : w.heap.size + 1 < W.heap.size
  cc : CIn W w.heap.size C
  e0 : W.cell? ⟨w.heap.size + 1, 0, none⟩ = some (.int .i64 o)
  e1 : W.cell? ⟨w.heap.size + 1, 1, none⟩ = some (.int .i64 n)
  e2 : W.cell? ⟨w.heap.size + 1, 2, none⟩ = some (.string s)
  e3 : W.cell? ⟨w.heap.size + 1, 3, none⟩ = some (.slice A l c)
theorem Bx.next {w W W' : World} {C : CM} {o n : Int} {s : ByteArray} {A : Option Addr} {l c : Nat} (h : Bx w W C o n s A l c) (hb : Below W.heap.size W W') : Bx w W' C o n s A l c := by
  obtain ⟨h0, h1, h2, h3, h4, h5, h6⟩ := h
  have hc : ∀ i, W'.cell? ⟨w.heap.size, i, none⟩ = W.cell? ⟨w.heap.size, i, none⟩ := fun i => hb.cell (p := ⟨w.heap.size, i, none⟩) (by show w.heap.size < _; omega)
  have hd : ∀ i, W'.cell? ⟨w.heap.size + 1, i, none⟩ = W.cell? ⟨w.heap.size + 1, i, none⟩ := fun i => hb.cell (p := ⟨w.heap.size + 1, i, none⟩) h1
  have hz := hb.size
  exact ⟨h0.trans (hb.mono (by omega)), by omega, h2.mk hc, by rw [hd]; exact h3, by rw [hd]; exact h4, by rw [hd]; exact h5, by rw [hd]; exact h6⟩
theorem Bx.drew {w W : World} {C : CM} {o n : Int} {s : ByteArray} {A : Option Addr} {l c : Nat} (h : Bx w W C o n s A l c) : Bx w W.drew C o n s A l c := h.next (Below.refl _ _).drew
theorem Bx.eok {w W : World} {C : CM} {o n : Int} {s : ByteArray} {A : Option Addr} {l c : Nat} {ks : List ET} (h : Bx w W C o n s A l c) (hE : EOk w s A c ks) : EOk W s A c ks := hE.below h.below
theorem bx (w : World) (C : CM) (o n : Int) (s : ByteArray) (A : Option Addr) (l c : Nat) : Bx w (boxed (boxC w C) o n s A l c) C o n s A l c := by
  refine ⟨?_, by simp [boxed, boxC], ?_, ?_, ?_, ?_, ?_⟩
  · unfold boxed boxC; (repeat' (first | exact Below.refl _ _ | refine Below.alloc ?_ (by simp) _))
  · unfold CIn boxed boxC
    refine ⟨?_, ?_, ?_, ?_, ?_, ?_, ?_, ?_, ?_, ?_, ?_, ?_, ?_⟩ <;> simp
  all_goals unfold boxed boxC; simp
/-- A kid's cells. -/
structure Kx (W : World) (g p : Nat) (o n : Int) (s : ByteArray) (A : Option Addr) (l c : Nat) : Prop where
  lt : g < W.heap.size
  k0 : W.cell? ⟨g, p, none⟩ = some (.int .i64 o)
  k1 : W.cell? ⟨g, p + 1, none⟩ = some (.int .i64 n)
  k2 : W.cell? ⟨g, p + 2, none⟩ = some (.string s)
  k3 : W.cell? ⟨g, p + 3, none⟩ = some (.slice A l c)
theorem Kx.next {W W' : World} {g p : Nat} {o n : Int} {s : ByteArray} {A : Option Addr} {l c : Nat} (h : Kx W g p o n s A l c) (hb : Below W.heap.size W W') : Kx W' g p o n s A l c := by
  obtain ⟨h0, h1, h2, h3, h4⟩ := h
  have hc : ∀ i, W'.cell? ⟨g, i, none⟩ = W.cell? ⟨g, i, none⟩ := fun i => hb.cell (p := ⟨g, i, none⟩) h0
  have hz := hb.size
  exact ⟨by omega, by rw [hc]; exact h1, by rw [hc]; exact h2, by rw [hc]; exact h3, by rw [hc]; exact h4⟩
theorem Kx.drew {W : World} {g p : Nat} {o n : Int} {s : ByteArray} {A : Option Addr} {l c : Nat} (h : Kx W g p o n s A l c) : Kx W.drew g p o n s A l c := h.next (Below.refl _ _).drew
theorem keepS {w W : World} {C : CM} {o n : Int} {s : ByteArray} {A : Option Addr} {l c : Nat} {g p : Nat} {o' n' : Int} {s' : ByteArray} {A' : Option Addr} {l' c' : Nat} (X : Bx w W C o n s A l c) (Y : Kx W g p o' n' s' A' l' c') :
    W.cell? ⟨w.heap.size + 1, 3, none⟩ = some (.slice A l c) ∧ W.cell? ⟨g, p, none⟩ = some (.int .i64 o') ∧ W.cell? ⟨g, p + 1, none⟩ = some (.int .i64 n') ∧ W.cell? ⟨g, p + 2, none⟩ = some (.string s') ∧ W.cell? ⟨g, p + 3, none⟩ = some (.slice A' l' c') ∧ W.cell? ⟨w.heap.size, 0, none⟩ = some (.int .i64 C.c0) ∧ W.cell? ⟨w.heap.size, 1, none⟩ = some (.int .i64 C.c1) ∧ W.cell? ⟨w.heap.size, 2, none⟩ = some (.int .i64 C.c2) ∧ W.cell? ⟨w.heap.size, 3, none⟩ = some (.int .i64 C.c3) ∧ W.cell? ⟨w.heap.size, 4, none⟩ = some (.int .i64 C.c4) ∧ W.cell? ⟨w.heap.size, 5, none⟩ = some (.int .i64 C.c5) ∧ W.cell? ⟨w.heap.size, 6, none⟩ = some (.int .i64 C.c6) ∧ W.cell? ⟨w.heap.size, 7, none⟩ = some (.int .i64 C.c7) ∧ W.cell? ⟨w.heap.size, 8, none⟩ = some (.int .i64 C.c8) ∧ W.cell? ⟨w.heap.size, 9, none⟩ = some (.int .i64 C.c9) ∧ W.cell? ⟨w.heap.size, 10, none⟩ = some (.int .i64 C.c10) ∧ W.cell? ⟨w.heap.size, 11, none⟩ = some (.int .i64 C.c11) ∧ W.cell? ⟨w.heap.size, 12, none⟩ = some (.int .i64 C.c12) :=
  ⟨X.e3, Y.k0, Y.k1, Y.k2, Y.k3, X.cc⟩

set_option maxHeartbeats 2000000 in
theorem rsum_any (C : CM) (hC : C.ok) (m : Nat) : ∀ (o n : Int) (s : ByteArray) (ks : List ET) (A : Option Addr) (c l : Nat) (r : Int) (w : World), ks.length = l → ET.cnt (.mk o n s ks) ≤ m → m ≤ 1000000 → EOk w s A c ks → Hid (C.sum (.mk o n s ks) = r) →
    Calls Try.prog 42 #[.agg #[.int .i64 C.c0, .int .i64 C.c1, .int .i64 C.c2, .int .i64 C.c3, .int .i64 C.c4, .int .i64 C.c5, .int .i64 C.c6, .int .i64 C.c7, .int .i64 C.c8, .int .i64 C.c9, .int .i64 C.c10, .int .i64 C.c11, .int .i64 C.c12], .agg #[.int .i64 o, .int .i64 n, .string s, .slice A l c]] w fun e w' => e = .returned (.int .i64 r) ∧ Below w.heap.size w w' := by
  induction m with
  | zero => intro o n s ks A c l r w _ h; simp [ET.cnt] at h
  | succ m ih =>
    intro o n s ks A c l r w hl hm hmm hE HR
    have IH := Lib.hid ih
    clear ih
    have hcl : 1 + ET.cntL ks ≤ m + 1 := by simpa [ET.cnt] using hm
    have hlm : l ≤ 9223372036854775807 := by have h1 := hE.2.1; have h2 := hE.2.2.1; unfold maxLen at h2; omega
    have HE := Lib.hid hE
    have HL := Lib.hid hl
    have HOK := Lib.hid hC
    obtain ⟨q0, hq0⟩ : ∃ q, C.node o = q := ⟨_, rfl⟩
    have hqr := CM.node_range hC o
    rw [hq0] at hqr
    have HQ0 := Lib.hid hq0
    clear hE hl hq0
    go_enter Try.func42, Try.ntmps42
    go_wp2_with fail
    refine (rnode_b C o q0 HQ0 _).mono ?_
    rintro e w1 ⟨rfl, hb1⟩
    have X1 : Bx w w1 C o n s A l c := (bx w C o n s A l c).next hb1
    clear hb1
    go_wp2_with fail
    go_loopw [5, 6] (fun u v wr => ∃ (k : Nat) (t : Int), k ≤ l ∧ 0 ≤ t ∧ t ≤ 100000000 ∧ u = .int .i64 t ∧ v = .int .i64 k ∧ Hid (t = q0 + C.sumL (ks.take k)) ∧ Bx w wr C o n s A l c) (fun _ v _ => l - (intOf v).toNat)
    case atStart => exact ⟨0, q0, by omega, by omega, by omega, rfl, rfl, by show _ = _; simp [CM.sumL], X1⟩
    case round =>
      obtain ⟨k, t, hk, ht0, ht1, rfl, rfl, HT, X⟩ := hrel
      have b3 := X.e3
      by_cases hlt : k < l
      · have hlt' : k < ks.length := by have := HL.out; omega
        obtain ⟨o', n', s', ks', g, f, A', c', hkid, rfl, hg, hok, c0, c1, c2, c3⟩ := (X.eok HE.out).kid k hlt'
        have Y : Kx wr g (f + k * 4) o' n' s' A' ks'.length c' := ⟨hg, c0, c1, c2, c3⟩
        have hkc := ET.cnt_kid o n s ks k hlt'
        rw [hkid] at hkc
        have HO := Lib.hid hok
        obtain ⟨q, hq⟩ : ∃ q, C.sum (.mk o' n' s' ks') = q := ⟨_, rfl⟩
        have HS : Hid (t + q = q0 + C.sumL (ks.take (k + 1))) := by
          show _ = _
          rw [HT.out, ET.take_one ks k hlt', CM.sumL_app, hkid]; simp only [CM.sumL]; omega
        have hr2 := CM.sum_range HOK.out (.mk o' n' s' ks')
        have hr3 := CM.sumL_range HOK.out (ks.take (k + 1))
        have hr4 := ET.cntL_app (ks.take (k + 1)) (ks.drop (k + 1))
        rw [List.take_append_drop] at hr4
        have hts : t + q ≤ 100000000 := by have := HS.out; omega
        have hq00 : 0 ≤ q := by omega
        have hc1 : ET.cnt (.mk o' n' s' ks') ≤ m := by omega
        have HC1 := Lib.hid hc1
        have HQ := Lib.hid hq
        obtain ⟨l', hl'⟩ : ∃ l', ks'.length = l' := ⟨_, rfl⟩
        rw [hl'] at Y c3
        have HL' := Lib.hid hl'
        clear hok hkid hkc hc1 hq hl' hr2 hr3 hr4 hlt'
        have hcc := X.cc
        unfold CIn at hcc
        obtain ⟨k0, k1, k2, k3, k4, k5, k6, k7, k8, k9, k10, k11, k12⟩ := hcc
        have hwr := IntWalk.i64_in (t + q) (by omega)
        go_wp2_with fail
        go_region_held3 (fun W => W.cell? ⟨w.heap.size + 1, 3, none⟩ = some (.slice (some ⟨g, f, none⟩) l c) ∧ W.cell? ⟨g, f + k * 4, none⟩ = some (.int .i64 o') ∧ W.cell? ⟨g, f + k * 4 + 1, none⟩ = some (.int .i64 n') ∧ W.cell? ⟨g, f + k * 4 + 2, none⟩ = some (.string s') ∧ W.cell? ⟨g, f + k * 4 + 3, none⟩ = some (.slice A' l' c') ∧ W.cell? ⟨w.heap.size, 0, none⟩ = some (.int .i64 C.c0) ∧ W.cell? ⟨w.heap.size, 1, none⟩ = some (.int .i64 C.c1) ∧ W.cell? ⟨w.heap.size, 2, none⟩ = some (.int .i64 C.c2) ∧ W.cell? ⟨w.heap.size, 3, none⟩ = some (.int .i64 C.c3) ∧ W.cell? ⟨w.heap.size, 4, none⟩ = some (.int .i64 C.c4) ∧ W.cell? ⟨w.heap.size, 5, none⟩ = some (.int .i64 C.c5) ∧ W.cell? ⟨w.heap.size, 6, none⟩ = some (.int .i64 C.c6) ∧ W.cell? ⟨w.heap.size, 7, none⟩ = some (.int .i64 C.c7) ∧ W.cell? ⟨w.heap.size, 8, none⟩ = some (.int .i64 C.c8) ∧ W.cell? ⟨w.heap.size, 9, none⟩ = some (.int .i64 C.c9) ∧ W.cell? ⟨w.heap.size, 10, none⟩ = some (.int .i64 C.c10) ∧ W.cell? ⟨w.heap.size, 11, none⟩ = some (.int .i64 C.c11) ∧ W.cell? ⟨w.heap.size, 12, none⟩ = some (.int .i64 C.c12)) (first | exact keepS X.drew Y.drew | exact keepS X2 Y2) (first
          | (go_at_call 42; refine (IH.out o' n' s' ks' A' c' l' q _ HL'.out HC1.out (by omega) (HO.out.below (Below.refl _ _).drew) HQ).mono ?_; rintro e w2 ⟨rfl, hb⟩; have X2 := X.drew.next hb; have Y2 := Y.drew.next hb; clear hb))
        go_wp2_with fail
        go_roundw
        case rel => exact ⟨k + 1, t + q, by omega, by omega, by omega, rfl, by go_num, HS, X2⟩
        case measure => simp [intOf]; omega
      · have hke : k = l := by omega
        have HX : Hid (r = t) := by
          show r = t
          rw [← HR.out, HT.out, hke, ← HL.out, List.take_length]; simp only [CM.sum]; rw [HQ0.out]
        go_wp2_with fail
        go_ret
        exact ⟨ret_int (by rw [HX.out]), X.below⟩
end Go.Proofs.Ythlhicegchkjjaa
