/-
  Words in blocks of the call's own; the walk over New.
-/
import Derived.Test.YtpapbpekihgnlaaDoorBsC
import Derived.Handy
namespace Go.Proofs.YtpapbpekihgnlaaDoor
open Go.RowKit

/-- The words as values. -/
def vals (ws : List Nat) : List Value := ws.map fun (x : Nat) => Value.int .u64 (x : Int)
theorem vals_len (ws : List Nat) : (vals ws).length = ws.length := by simp [vals]
theorem vals_get (ws : List Nat) (j : Nat) (h : j < ws.length) : (vals ws)[j]? = some (.int .u64 (ws.getD j 0 : Nat)) := by
  simp [vals, List.getD_eq_getElem?_getD, h]
theorem vals_set (ws : List Nat) (j x : Nat) : (vals ws).set j (.int .u64 x) = vals (ws.set j x) := by
  simp [vals, List.map_set]
theorem Wd.ofCs {W : World} {g c : Nat} {ws : List Nat} (h : Cs W g (vals ws)) (hc : ws.length ≤ c) (hm : c ≤ maxLen) (hf : Bs.fits ws) : Wd W (some ⟨g, 0, none⟩) ws.length c ws :=
  ⟨rfl, hc, hm, hf, fun _ => ⟨g, 0, rfl, h.lt, fun j hj => by rw [Nat.zero_add]; exact h.at j _ (vals_get ws j hj)⟩⟩
theorem Wd.nil (W : World) : Wd W none 0 0 [] := ⟨rfl, Nat.le_refl _, Nat.zero_le _, fun j => by simp, fun h => absurd h (by omega)⟩
/-- What a call returns that makes words: nothing, or a row of the call's own. -/
theorem own_cs {w : World} {base : Nat} {e : TypeId} {v : Value} {ws : List Nat} (h : w.ownsRow base e 1 v ws.length (vals ws)) :
    (v = .slice none 0 0 ∧ ws = []) ∨ ∃ g c, v = .slice (some ⟨g, 0, none⟩) ws.length c ∧ base ≤ g ∧ Cs w g (vals ws) ∧ ws.length ≤ c ∧ c ≤ maxLen := by
  obtain ⟨_, h | ⟨g, cap, cur, rfl, hb, hh, h1, h2, h3, h4⟩⟩ := h
  · exact .inl ⟨h.1, List.eq_nil_of_length_eq_zero h.2⟩
  · refine .inr ⟨g, cap, rfl, hb, ⟨?_, fun j u hu => ?_, fun j => ?_⟩, h1, h2⟩
    · rcases Nat.lt_or_ge g w.heap.size with hl | hl
      · exact hl
      · rw [Array.getElem?_eq_none hl] at hh; cases hh
    · rw [← h4, List.getElem?_take] at hu
      split at hu
      · simp [World.cell?, hh, ← Array.getElem?_toList, hu]
      · cases hu
    · simp [World.frozen?, hh]
theorem Cs.new1 (W : World) (o : Obj) (cs : Array Value) (T : TypeId) : Cs ((W.alloc o).alloc (.cells cs T)) (W.heap.size + 1) cs.toList := by
  have := Cs.new (W.alloc o) cs T
  rwa [show (W.alloc o).heap.size = W.heap.size + 1 by simp] at this
theorem make_words (p : Nat) (hp : p ≤ 64) (w : World) : (Instr.makeSlice 22 (.int .i64 p) (.int .i64 p)).run Tryd.prog w = .ok (.slice (some ⟨w.heap.size, 0, none⟩) p p) (w.alloc (.cells (vals (List.replicate p 0)).toArray 48)) := by
  obtain ⟨i, hi, hz0, hz1, hz2⟩ := info_parts (P := Tryd.prog) (e := 48) (z := .int .u64 0) (size := 1) (bytes := 8) (by kernel_rfl)
  have h := run_make (P := Tryd.prog) w 22 48 i (.int .u64 0) Tryd.underlying22 hi hz0 .i64 .i64 (p : Int) (p : Int) (by omega) (by omega) (by rw [hz2]; omega) (by omega)
  rw [h, hz1, Int.toNat_natCast]
  have e : madeCells (Value.int .u64 0).cells (p * 1) = (vals (List.replicate p 0)).toArray := by
    refine Array.ext (by simp [madeCells, vals]) fun k h1 h2 => ?_
    simp [madeCells, vals, Value.cells, Nat.mod_one]
  rw [e]

set_option maxHeartbeats 1000000 in
theorem new_bad (n : Int) (h : n < 0 ∨ 4096 < n) (w : World) :
    Calls Tryd.prog 13 #[.int .i64 n] w fun e w' => e = .returned (.tuple #[.agg #[.int .i64 0, .slice none 0 0], .int .i64 3]) ∧ Below w.heap.size w w' := by
  by_cases h0 : n < 0
  · clear h
    go_enter Tryd.func13, Tryd.ntmps13
    go_wp2_with fail
    go_returns
    exact ⟨rfl, by go_grown⟩
  · have h1 : 4096 < n := by omega
    have h0' : 0 ≤ n := by omega
    clear h
    go_enter Tryd.func13, Tryd.ntmps13
    go_wp2_with fail
    go_returns
    exact ⟨rfl, by go_grown⟩

set_option maxHeartbeats 1000000 in
theorem new_b (m : Nat) (h : m ≤ 4096) (L : Nat) (HL : Hid ((m + 63) / 64 = L)) (w : World) :
    Calls Tryd.prog 13 #[.int .i64 m] w fun e w' => e = .returned (.tuple #[.agg #[.int .i64 m, .slice (some ⟨w.heap.size + 1, 0, none⟩) L L], .int .i64 0]) ∧ Cs w' (w.heap.size + 1) (vals (List.replicate L 0)) ∧ Below w.heap.size w w' := by
  have hl6 : L ≤ 64 := by have := HL.out; omega
  have HP : Hid (((m : Int) + 63) / 64 = (L : Int)) := by show _ = _; have := HL.out; omega
  have hmk := make_words L hl6
  have hm0 : (0 : Int) ≤ (m : Int) := by omega
  have hm1 : (m : Int) ≤ 1000000 := by omega
  have hm4 : (m : Int) ≤ 4096 := by omega
  clear HL
  go_enter Tryd.func13, Tryd.ntmps13
  go_wp2_with fail
  go_at_call 47
  refine (wordsFor_b m L hm0 hm1 HP _).mono ?_
  rintro e w2 ⟨rfl, rfl⟩
  go_wp2_with fail
  go_returns
  exact ⟨rfl, Cs.new1 _ _ _ _, by go_grown⟩
end Go.Proofs.YtpapbpekihgnlaaDoor
