/-
  The program's report on an expression: what lies in memory, and the walks over its small methods.
-/
import Derived.Test.YthlhicegchkjjaaGreatDoorEtF
import Derived.Handy
namespace Go.Proofs.YthlhicegchkjjaaGreatDoor
open Go.RowKit
/-- Block R alone may have changed; blocks may have been added. -/
structure Only (R : Nat) (w w' : World) : Prop where
  os : w'.os = w.os
  tape : w'.tape = w.tape
  output : w'.output = w.output
  size : w.heap.size ≤ w'.heap.size
  block : ∀ k, k < w.heap.size → k ≠ R → w'.heap[k]? = w.heap[k]?
theorem Only.refl (R : Nat) (w : World) : Only R w w := ⟨rfl, rfl, rfl, Nat.le_refl _, fun _ _ _ => rfl⟩
theorem Only.trans {R : Nat} {a b c : World} (h : Only R a b) (k : Only R b c) : Only R a c :=
  ⟨k.os.trans h.os, k.tape.trans h.tape, k.output.trans h.output, Nat.le_trans h.size k.size, fun i hi hr => (k.block i (Nat.lt_of_lt_of_le hi h.size) hr).trans (h.block i hi hr)⟩
theorem Only.of_below {R : Nat} {w w' : World} (h : Below w.heap.size w w') : Only R w w' := ⟨h.os, h.tape, h.output, h.size, fun k hk _ => h.block k hk⟩
theorem Only.below {R B : Nat} {w w' : World} (h : Only R w w') (hB : B ≤ R) (hw : B ≤ w.heap.size) : Below B w w' := ⟨h.os, h.tape, h.output, h.size, fun k hk => h.block k (by omega) (by omega)⟩
theorem Only.cell {R : Nat} {w w' : World} (h : Only R w w') {p : Addr} (hp : p.block < w.heap.size) (hr : p.block ≠ R) : w'.cell? p = w.cell? p := World.cell?_of_block (w := w) (h.block p.block hp hr)
/-- A report. -/
structure Rep (w : World) (R : Nat) (n d : Int) (bf bn bm : Bool) : Prop where
  room : R < w.heap.size
  c0 : w.cell? ⟨R, 0, none⟩ = some (.int .i64 n)
  c1 : w.cell? ⟨R, 1, none⟩ = some (.int .i64 d)
  c2 : w.cell? ⟨R, 2, none⟩ = some (.bool bf)
  c3 : w.cell? ⟨R, 3, none⟩ = some (.bool bn)
  c4 : w.cell? ⟨R, 4, none⟩ = some (.bool bm)
  f0 : w.frozen? ⟨R, 0, none⟩ = false
  f1 : w.frozen? ⟨R, 1, none⟩ = false
  f2 : w.frozen? ⟨R, 2, none⟩ = false
  f3 : w.frozen? ⟨R, 3, none⟩ = false
  f4 : w.frozen? ⟨R, 4, none⟩ = false
theorem Rep.next {w w' : World} {R : Nat} {n d : Int} {bf bn bm : Bool} (h : Rep w R n d bf bn bm) (hb : Below w.heap.size w w') : Rep w' R n d bf bn bm := by
  have hr := h.room
  have hz := hb.size
  have hc : ∀ i, w'.cell? ⟨R, i, none⟩ = w.cell? ⟨R, i, none⟩ := fun i => hb.cell (p := ⟨R, i, none⟩) hr
  have hf : ∀ i, w'.frozen? ⟨R, i, none⟩ = w.frozen? ⟨R, i, none⟩ := fun i => hb.frozen (p := ⟨R, i, none⟩) hr
  exact ⟨by omega, by rw [hc]; exact h.c0, by rw [hc]; exact h.c1, by rw [hc]; exact h.c2, by rw [hc]; exact h.c3, by rw [hc]; exact h.c4, by rw [hf]; exact h.f0, by rw [hf]; exact h.f1, by rw [hf]; exact h.f2, by rw [hf]; exact h.f3, by rw [hf]; exact h.f4⟩
theorem Only.set (R i : Nat) (w : World) (v : Value) : Only R w (w.setCell ⟨R, i, none⟩ v) := ⟨rfl, rfl, rfl, by simp, fun k _ hr => Below.heap_setCell w ⟨R, i, none⟩ v k hr⟩
theorem Rep.set0 {w : World} {R : Nat} {n d : Int} {bf bn bm : Bool} (h : Rep w R n d bf bn bm) (x : Int) : Rep (w.setCell ⟨R, 0, none⟩ (.int .i64 x)) R x d bf bn bm := by
  obtain ⟨hr, c0, c1, c2, c3, c4, f0, f1, f2, f3, f4⟩ := h
  refine ⟨by go_simp, ?_, ?_, ?_, ?_, ?_, ?_, ?_, ?_, ?_, ?_⟩ <;> go_simp
theorem Rep.set1 {w : World} {R : Nat} {n d : Int} {bf bn bm : Bool} (h : Rep w R n d bf bn bm) (x : Int) : Rep (w.setCell ⟨R, 1, none⟩ (.int .i64 x)) R n x bf bn bm := by
  obtain ⟨hr, c0, c1, c2, c3, c4, f0, f1, f2, f3, f4⟩ := h
  refine ⟨by go_simp, ?_, ?_, ?_, ?_, ?_, ?_, ?_, ?_, ?_, ?_⟩ <;> go_simp
theorem Rep.set2 {w : World} {R : Nat} {n d : Int} {bf bn bm : Bool} (h : Rep w R n d bf bn bm) (x : Bool) : Rep (w.setCell ⟨R, 2, none⟩ (.bool x)) R n d x bn bm := by
  obtain ⟨hr, c0, c1, c2, c3, c4, f0, f1, f2, f3, f4⟩ := h
  refine ⟨by go_simp, ?_, ?_, ?_, ?_, ?_, ?_, ?_, ?_, ?_, ?_⟩ <;> go_simp
theorem Rep.set3 {w : World} {R : Nat} {n d : Int} {bf bn bm : Bool} (h : Rep w R n d bf bn bm) (x : Bool) : Rep (w.setCell ⟨R, 3, none⟩ (.bool x)) R n d bf x bm := by
  obtain ⟨hr, c0, c1, c2, c3, c4, f0, f1, f2, f3, f4⟩ := h
  refine ⟨by go_simp, ?_, ?_, ?_, ?_, ?_, ?_, ?_, ?_, ?_, ?_⟩ <;> go_simp
theorem Rep.set4 {w : World} {R : Nat} {n d : Int} {bf bn bm : Bool} (h : Rep w R n d bf bn bm) (x : Bool) : Rep (w.setCell ⟨R, 4, none⟩ (.bool x)) R n d bf bn x := by
  obtain ⟨hr, c0, c1, c2, c3, c4, f0, f1, f2, f3, f4⟩ := h
  refine ⟨by go_simp, ?_, ?_, ?_, ?_, ?_, ?_, ?_, ?_, ?_, ?_⟩ <;> go_simp
set_option maxHeartbeats 400000 in
theorem deep_b (R : Nat) (n d : Int) (bf bn bm : Bool) (x r : Int) (H : Hid (max d x = r)) (w : World) (h : Rep w R n d bf bn bm) :
    Calls Tryz.prog 92 #[.pointer (some ⟨R, 0, none⟩), .int .i64 x] w fun e w' => e = .returned (.tuple #[]) ∧ Only R w w' ∧ w.heap.size = w'.heap.size ∧ Rep w' R n r bf bn bm := by
  have KH := Lib.hid h
  obtain ⟨hr, c0, c1, c2, c3, c4, f0, f1, f2, f3, f4⟩ := h
  have hm : max d x = r := H.out
  clear H
  go_enter Tryz.func92, Tryz.ntmps92
  go_wp2_with fail
  go_returns
  exact ⟨rfl, Only.set R 1 w _, by simp, KH.out.set1 r⟩
set_option maxHeartbeats 400000 in
theorem formb (R : Nat) (n d : Int) (bf bn bm ok b : Bool) (H : Hid ((bf || !ok) = b)) (w : World) (h : Rep w R n d bf bn bm) :
    Calls Tryz.prog 93 #[.pointer (some ⟨R, 0, none⟩), .bool ok] w fun e w' => e = .returned (.tuple #[]) ∧ Only R w w' ∧ w.heap.size = w'.heap.size ∧ Rep w' R n d b bn bm := by
  have KH := Lib.hid h
  obtain ⟨hr, c0, c1, c2, c3, c4, f0, f1, f2, f3, f4⟩ := h
  have hb := H.out
  clear H
  cases bf <;> cases ok <;> simp only [Bool.not_true, Bool.not_false, Bool.or_true, Bool.or_false] at hb <;> subst hb
  all_goals
    go_enter Tryz.func93, Tryz.ntmps93
    go_wp2_with fail
    go_returns
    exact ⟨rfl, Only.set R 2 w _, by simp, KH.out.set2 _⟩
set_option maxHeartbeats 400000 in
theorem numberb (R : Nat) (n d : Int) (bf bn bm ok b : Bool) (H : Hid ((bm || !ok) = b)) (w : World) (h : Rep w R n d bf bn bm) :
    Calls Tryz.prog 97 #[.pointer (some ⟨R, 0, none⟩), .bool ok] w fun e w' => e = .returned (.tuple #[]) ∧ Only R w w' ∧ w.heap.size = w'.heap.size ∧ Rep w' R n d bf bn b := by
  have KH := Lib.hid h
  obtain ⟨hr, c0, c1, c2, c3, c4, f0, f1, f2, f3, f4⟩ := h
  have hb := H.out
  clear H
  cases bm <;> cases ok <;> simp only [Bool.not_true, Bool.not_false, Bool.or_true, Bool.or_false] at hb <;> subst hb
  all_goals
    go_enter Tryz.func97, Tryz.ntmps97
    go_wp2_with fail
    go_returns
    exact ⟨rfl, Only.set R 4 w _, by simp, KH.out.set4 _⟩
end Go.Proofs.YthlhicegchkjjaaGreatDoor
