/-
  The walks over the reference's functions that count an expression's nodes and its depth, and what is left of a number.
-/
import Derived.Test.YthlhicegchkjjaaProg
import Derived.Test.YthlhicegchkjjaaEt
import Derived.WalkSpells
import Derived.WalkLawsBesides
import Derived.BigQuiet
import Derived.Deep.QuietTactic
import Derived.Outline
namespace Go.Proofs.Ythlhicegchkjjaa
open Go.RowKit

theorem ret_bool {a b : Bool} (h : a = b) : Ending.returned (.bool a) = .returned (.bool b) := by rw [h]
theorem ret_int {k : IntKind} {a b : Int} (h : a = b) : Ending.returned (.int k a) = .returned (.int k b) := by rw [h]
theorem below_drewN {B : Nat} {a w : World} (h : Below B a w) (q : Nat) : Below B a (w.drewN q) := ⟨h.os, h.tape, h.output, h.size, h.block⟩
/-- The world behind the entry of a function that takes an expression: its parameter lies in a block of its own. -/
def boxed (w : World) (o n : Int) (s : ByteArray) (A : Option Addr) (l c : Nat) : World := w.alloc (.cells #[.int .i64 o, .int .i64 n, .string s, .slice A l c] 27)
theorem boxed_below (w : World) (o n : Int) (s : ByteArray) (A : Option Addr) (l c : Nat) : Below w.heap.size w (boxed w o n s A l c) := (Below.refl _ _).alloc (Nat.le_refl _) _
theorem boxed_cells {w wr : World} {o n : Int} {s : ByteArray} {A : Option Addr} {l c : Nat} (hb : Below (boxed w o n s A l c).heap.size (boxed w o n s A l c) wr) :
    wr.cell? ⟨w.heap.size, 0, none⟩ = some (.int .i64 o) ∧ wr.cell? ⟨w.heap.size, 1, none⟩ = some (.int .i64 n) ∧ wr.cell? ⟨w.heap.size, 2, none⟩ = some (.string s) ∧ wr.cell? ⟨w.heap.size, 3, none⟩ = some (.slice A l c) := by
  have h : ∀ i, wr.cell? ⟨w.heap.size, i, none⟩ = (boxed w o n s A l c).cell? ⟨w.heap.size, i, none⟩ := fun i => hb.cell (p := ⟨w.heap.size, i, none⟩) (by simp [boxed])
  rw [h, h, h, h]
  simp [boxed]
theorem boxed_to {w wr : World} {o n : Int} {s : ByteArray} {A : Option Addr} {l c : Nat} (hb : Below (boxed w o n s A l c).heap.size (boxed w o n s A l c) wr) : Below w.heap.size w wr :=
  (boxed_below w o n s A l c).trans (hb.mono (boxed_below w o n s A l c).size)

set_option maxHeartbeats 400000 in
theorem nodes_any (m : Nat) : ∀ (o n : Int) (s : ByteArray) (ks : List ET) (A : Option Addr) (c : Nat) (w : World), ET.cnt (.mk o n s ks) ≤ m → m ≤ 1000000 → EOk w s A c ks →
    Calls Try.prog 74 #[.agg #[.int .i64 o, .int .i64 n, .string s, .slice A ks.length c]] w fun e w' => e = .returned (.int .i64 (ET.cnt (.mk o n s ks))) ∧ Below w.heap.size w w' := by
  induction m with
  | zero => intro o n s ks A c w h _ _; simp [ET.cnt] at h
  | succ m ih =>
    intro o n s ks A c w hm hmm hE
    have IH := Lib.hid ih
    clear ih
    have hcl : 1 + ET.cntL ks ≤ m + 1 := by simpa [ET.cnt] using hm
    obtain ⟨r, hr⟩ : ∃ r, r = ET.cnt (.mk o n s ks) := ⟨_, rfl⟩
    rw [← hr]
    have HR := Lib.hid hr
    clear hr
    have hlm : ks.length ≤ 9223372036854775807 := by have h1 := hE.2.1; have h2 := hE.2.2.1; unfold maxLen at h2; omega
    have HE := Lib.hid hE
    clear hE
    go_enter Try.func74, Try.ntmps74
    go_wp2_with fail
    go_loopw [3, 4] (fun u v wr => ∃ (k t : Nat), k ≤ ks.length ∧ t ≤ m + 1 ∧ u = .int .i64 t ∧ v = .int .i64 k ∧ Hid (t = 1 + ET.cntL (ks.take k)) ∧ Below (boxed w o n s A ks.length c).heap.size (boxed w o n s A ks.length c) wr) (fun _ v _ => ks.length - (intOf v).toNat)
    case atStart => exact ⟨0, 1, by omega, by omega, rfl, rfl, rfl, Below.refl _ _⟩
    case round =>
      obtain ⟨k, t, hk, ht, rfl, rfl, HT, hbr⟩ := hrel
      obtain ⟨_, _, _, b3⟩ := boxed_cells hbr
      by_cases hlt : k < ks.length
      · obtain ⟨o', n', s', ks', g, f, A', c', hkid, rfl, hg, hok, c0, c1, c2, c3⟩ := (HE.out.below (boxed_to hbr)).kid k hlt
        have hkc := ET.cnt_kid o n s ks k hlt
        rw [hkid] at hkc
        have HO := Lib.hid hok
        have HS : Hid (1 + ET.cntL (ks.take (k + 1)) = t + ET.cnt (.mk o' n' s' ks')) := by
          show _ = _
          rw [HT.out, ET.take_one ks k hlt, ET.cntL_app, hkid]; simp [ET.cntL]; omega
        have hst : t + ET.cnt (.mk o' n' s' ks') ≤ m + 1 := by
          have h1 := ET.cntL_app (ks.take (k + 1)) (ks.drop (k + 1))
          rw [List.take_append_drop] at h1
          have h2 := HS.out
          omega
        have hc1 : ET.cnt (.mk o' n' s' ks') ≤ m := by omega
        obtain ⟨q, hq⟩ : ∃ q, q = ET.cnt (.mk o' n' s' ks') := ⟨_, rfl⟩
        have HC1 := Lib.hid hc1
        rw [← hq] at hst
        have HQ := Lib.hid hq
        clear hok hkid hkc hc1 hq
        go_wp2_with fail
        refine (IH.out o' n' s' ks' A' c' _ HC1.out (by omega) HO.out).mono ?_
        rw [← HQ.out]
        rintro e w2 ⟨rfl, hb2⟩
        have hbr2 := hbr.trans (hb2.mono hbr.size)
        clear hb2 c0 c1 c2 c3
        go_wp2_with fail
        go_roundw
        case rel => exact ⟨k + 1, t + q, by omega, by omega, by go_num, by go_num, by show _ = _; rw [HS.out, HQ.out], hbr2⟩
        case measure => simp [intOf]; omega
      · have hke : k = ks.length := by omega
        have HX : Hid (r = t) := by
          show r = t
          rw [HR.out, HT.out, hke, List.take_length]; simp [ET.cnt]
        go_wp2_with fail
        go_ret
        exact ⟨ret_int (by rw [HX.out]), boxed_to hbr⟩
end Go.Proofs.Ythlhicegchkjjaa
