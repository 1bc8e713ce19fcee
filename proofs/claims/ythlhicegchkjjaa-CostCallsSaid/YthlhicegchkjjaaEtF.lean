/-
  The walk over the reference's CheckExpr.
-/
import Derived.Test.YthlhicegchkjjaaEtE
namespace Go.Proofs.Ythlhicegchkjjaa
open Go.RowKit

/-- An expression's own block behind which the world only grows. -/
def Boxd (w W : World) (o n : Int) (s : ByteArray) (A : Option Addr) (l c : Nat) : Prop := Below w.heap.size w W ∧ w.heap.size < W.heap.size ∧ W.cell? ⟨w.heap.size, 0, none⟩ = some (.int .i64 o) ∧ W.cell? ⟨w.heap.size, 1, none⟩ = some (.int .i64 n) ∧ W.cell? ⟨w.heap.size, 2, none⟩ = some (.string s) ∧ W.cell? ⟨w.heap.size, 3, none⟩ = some (.slice A l c)
theorem Boxd.next {w W W' : World} {o n : Int} {s : ByteArray} {A : Option Addr} {l c : Nat} (h : Boxd w W o n s A l c) (hb : Below W.heap.size W W') : Boxd w W' o n s A l c := by
  obtain ⟨h0, h1, h2, h3, h4, h5⟩ := h
  have hc : ∀ i, W'.cell? ⟨w.heap.size, i, none⟩ = W.cell? ⟨w.heap.size, i, none⟩ := fun i => hb.cell (p := ⟨w.heap.size, i, none⟩) h1
  have hz := hb.size
  exact ⟨h0.trans (hb.mono (by omega)), by omega, by rw [hc]; exact h2, by rw [hc]; exact h3, by rw [hc]; exact h4, by rw [hc]; exact h5⟩
theorem Boxd.drew {w W : World} {o n : Int} {s : ByteArray} {A : Option Addr} {l c : Nat} (h : Boxd w W o n s A l c) : Boxd w W.drew o n s A l c := h.next (Below.refl _ _).drew
theorem Boxd.eok {w W : World} {o n : Int} {s : ByteArray} {A : Option Addr} {l c : Nat} {ks : List ET} (h : Boxd w W o n s A l c) (hE : EOk w s A c ks) : EOk W s A c ks := hE.below h.1
theorem boxd (w : World) (o n : Int) (s : ByteArray) (A : Option Addr) (l c : Nat) : Boxd w (boxed w o n s A l c) o n s A l c := ⟨boxed_below w o n s A l c, by simp [boxed], boxed_cells (Below.refl _ _)⟩

theorem names_l (o n : Int) (s : ByteArray) (ks : List ET) (A : Option Addr) (c l : Nat) (b : Bool) (hl : ks.length = l) (H : Hid (ET.namesB (.mk o n s ks) = b)) (w : World) (hE : EOk w s A c ks) :
    Calls Try.prog 64 #[.agg #[.int .i64 o, .int .i64 n, .string s, .slice A l c]] w fun e w' => e = .returned (.bool b) ∧ Below w.heap.size w w' := by
  subst hl
  exact names_any _ o n s ks A c w b (Nat.le_refl _) hE H
theorem nums_l (o n : Int) (s : ByteArray) (ks : List ET) (A : Option Addr) (c l : Nat) (b : Bool) (hl : ks.length = l) (H : Hid (ET.numsB (.mk o n s ks) = b)) (w : World) (hE : EOk w s A c ks) :
    Calls Try.prog 65 #[.agg #[.int .i64 o, .int .i64 n, .string s, .slice A l c]] w fun e w' => e = .returned (.bool b) ∧ Below w.heap.size w w' := by
  subst hl
  exact numbers_any _ o n s ks A c w b (Nat.le_refl _) hE H

set_option maxHeartbeats 2000000 in
theorem rcheck_b (o n : Int) (s : ByteArray) (ks : List ET) (A : Option Addr) (c l r : Nat) (hl : ks.length = l) (hr : ET.check (.mk o n s ks) = r) (h1 : ET.cnt (.mk o n s ks) ≤ 1000000) (h2 : ET.dep (.mk o n s ks) ≤ 1000000) (w : World) (hE : EOk w s A c ks) :
    Calls Try.prog 56 #[.agg #[.int .i64 o, .int .i64 n, .string s, .slice A l c]] w fun e w' => e = .returned (.int .i64 r) ∧ Below w.heap.size w w' := by
  obtain ⟨t, ht⟩ : ∃ t, ET.cnt (.mk o n s ks) = t := ⟨_, rfl⟩
  obtain ⟨d, hd⟩ : ∃ d, ET.dep (.mk o n s ks) = d := ⟨_, rfl⟩
  obtain ⟨f, hf⟩ : ∃ f, ET.formB (.mk o n s ks) = f := ⟨_, rfl⟩
  obtain ⟨nm, hnm⟩ : ∃ f, ET.namesB (.mk o n s ks) = f := ⟨_, rfl⟩
  obtain ⟨nu, hnu⟩ : ∃ f, ET.numsB (.mk o n s ks) = f := ⟨_, rfl⟩
  have HV : Hid (vcode t d f nm nu = r) := by
    show _ = _
    rw [← ht, ← hd, ← hf, ← hnm, ← hnu, vcode_check, hr]
  rw [ht] at h1
  rw [hd] at h2
  have HE := Lib.hid hE
  have HL := Lib.hid hl
  have HT := Lib.hid ht
  have HD := Lib.hid hd
  have HF := Lib.hid hf
  have HN := Lib.hid hnm
  have HU := Lib.hid hnu
  clear hE hl ht hd hf hnm hnu hr
  go_enter Try.func56, Try.ntmps56
  go_wp2_with (fail)
  have K := boxd w o n s A l c
  unfold boxed at K
  go_region_held3 (fun W => W.cell? ⟨w.heap.size, 0, none⟩ = some (.int .i64 o) ∧ W.cell? ⟨w.heap.size, 1, none⟩ = some (.int .i64 n) ∧ W.cell? ⟨w.heap.size, 2, none⟩ = some (.string s) ∧ W.cell? ⟨w.heap.size, 3, none⟩ = some (.slice A l c) ∧ Hid (Boxd w W o n s A l c)) (first | exact ⟨K.drew.2.2.1, K.drew.2.2.2.1, K.drew.2.2.2.2.1, K.drew.2.2.2.2.2, K.drew⟩ | exact ⟨K2.2.2.1, K2.2.2.2.1, K2.2.2.2.2.1, K2.2.2.2.2.2, K2⟩ | exact ⟨K3.2.2.1, K3.2.2.2.1, K3.2.2.2.2.1, K3.2.2.2.2.2, K3⟩ | exact ⟨K4.2.2.1, K4.2.2.2.1, K4.2.2.2.2.1, K4.2.2.2.2.2, K4⟩ | exact ⟨K5.2.2.1, K5.2.2.2.1, K5.2.2.2.2.1, K5.2.2.2.2.2, K5⟩ | exact ⟨K6.2.2.1, K6.2.2.2.1, K6.2.2.2.2.1, K6.2.2.2.2.2, K6⟩) (first
    | (go_at_call 62; refine (add_b o n s ks A c l _ t d HL.out HT.out HD.out h1 h2 (K.drew.eok HE.out)).mono ?_; rintro e w' ⟨rfl, hb⟩; have K2 := K.drew.next hb; clear hb)
    | (go_at_call 63; refine (form_any _ o n s ks A c _ f l HL.out (Nat.le_refl _) (K2.eok HE.out) HF).mono ?_; rintro e w' ⟨rfl, hb⟩; have K3 := K2.next hb; clear hb)
    | (go_at_call 64; refine (names_l o n s ks A c l nm HL.out HN _ (K3.eok HE.out)).mono ?_; rintro e w' ⟨rfl, hb⟩; have K4 := K3.next hb; clear hb)
    | (go_at_call 65; refine (nums_l o n s ks A c l nu HL.out HU _ (K4.eok HE.out)).mono ?_; rintro e w' ⟨rfl, hb⟩; have K5 := K4.next hb; clear hb)
    | (go_at_call 61; refine (verdict_b t d r f nm nu HV _).mono ?_; rintro e w' ⟨rfl, hb⟩; have K6 := K5.next hb; clear hb))
  all_goals
    go_wp2_with fail
    go_ret
    exact ⟨rfl, K6.1⟩
end Go.Proofs.Ythlhicegchkjjaa
