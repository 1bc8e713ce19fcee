/-
  Two parameters in blocks of their own; pieces and pairs of expressions, read out of the row's own reading.
-/
import Derived.Test.YthlhicegchkjjaaCoL
import Derived.Test.YthlhicegchkjjaaRows
import Derived.HandedShaped
namespace Go.Proofs.Ythlhicegchkjjaa
open Go.RowKit Go.ChangeShapes Go.WideShapes Go.ChangeAt Go.Joins Go.Deep

/-- A model's block, and another parameter's behind it. -/
structure Bq (w W : World) (C : CM) (vs : List Value) : Prop where
  below : Below w.heap.size w W
  cb : Cs W w.heap.size [.int .i64 C.c0, .int .i64 C.c1, .int .i64 C.c2, .int .i64 C.c3, .int .i64 C.c4, .int .i64 C.c5, .int .i64 C.c6, .int .i64 C.c7, .int .i64 C.c8, .int .i64 C.c9, .int .i64 C.c10, .int .i64 C.c11, .int .i64 C.c12]
  pb : Cs W (w.heap.size + 1) vs
theorem Bq.next {w W W' : World} {C : CM} {vs : List Value} (h : Bq w W C vs) (hb : Below W.heap.size W W') : Bq w W' C vs := ⟨h.below.trans (hb.mono h.below.size), h.cb.next hb, h.pb.next hb⟩
theorem bq (w : World) (C : CM) (vs : Array Value) (T T' : TypeId) : Bq w ((w.alloc (.cells #[.int .i64 C.c0, .int .i64 C.c1, .int .i64 C.c2, .int .i64 C.c3, .int .i64 C.c4, .int .i64 C.c5, .int .i64 C.c6, .int .i64 C.c7, .int .i64 C.c8, .int .i64 C.c9, .int .i64 C.c10, .int .i64 C.c11, .int .i64 C.c12] T)).alloc (.cells vs T')) C vs.toList := by
  refine ⟨(Below.refl _ _).alloc (Nat.le_refl _) _ |>.alloc (by simp) _, (Cs.new w _ _).alloc _, ?_⟩
  have := Cs.new (w.alloc (.cells #[.int .i64 C.c0, .int .i64 C.c1, .int .i64 C.c2, .int .i64 C.c3, .int .i64 C.c4, .int .i64 C.c5, .int .i64 C.c6, .int .i64 C.c7, .int .i64 C.c8, .int .i64 C.c9, .int .i64 C.c10, .int .i64 C.c11, .int .i64 C.c12] T)) vs T'
  simpa using this
section
variable {H : Type} {enc : TypeId × Value → H} {w : World} {base : Nat} {spare : Nat → Bool} {held : Bool}
theorem open_pieces {r : Reach} {b0 : Nat} {v : Value} {d : DataW H} {p : List MemPlace} (hv : Value.okWide Try.prog w r b0 37 v) (h : DataW.Trod enc Try.prog w base spare held 37 v d p) :
    ∃ (o n : Int) (s : ByteArray) (A : Option Addr) (l c : Nat) (ks : List ET) (o2 n2 : Int) (s2 : ByteArray) (A2 : Option Addr) (l2 c2 : Nat) (ks2 : List ET) (z : Int),
      v = .agg #[.int .i64 o, .int .i64 n, .string s, .slice A l c, .int .i64 o2, .int .i64 n2, .string s2, .slice A2 l2 c2, .int .i64 z] ∧ ks.length = l ∧ EOk w s A c ks ∧ ks2.length = l2 ∧ EOk w s2 A2 c2 ks2 ∧ (Lit.int .i64 z).wf = true := by
  obtain ⟨cs, rfl, hsz⟩ := okWide_struct Try.underlying37 hv
  obtain ⟨fuel, hf⟩ := h
  obtain ⟨cs⟩ := cs
  have hsz' : cs.length = 9 := hsz.trans (by kernel_rfl)
  match cs, hsz' with
  | [v0, v1, v2, v3, v4, v5, v6, v7, v8], _ =>
    obtain ⟨xs, n', hn', _, _, hxl, hfs⟩ := DataW.trod_struct (cs := [v0, v1, v2, v3, v4, v5, v6, v7, v8]) Try.underlying37 (by simpa [Value.cells] using hf)
    match xs, hxl with
    | [y0, y1, y2], _ =>
      have t0 := hfs 0 _ rfl
      have t1 := hfs 1 _ rfl
      have t2 := hfs 2 _ rfl
      change DataW.trod enc Try.prog w base spare held n' 27 (List.take (Try.prog.cellsOf 27) (List.drop 0 [v0, v1, v2, v3, v4, v5, v6, v7, v8])) = some y0 at t0
      change DataW.trod enc Try.prog w base spare held n' 27 (List.take (Try.prog.cellsOf 27) (List.drop 4 [v0, v1, v2, v3, v4, v5, v6, v7, v8])) = some y1 at t1
      change DataW.trod enc Try.prog w base spare held n' 3 (List.take (Try.prog.cellsOf 3) (List.drop 8 [v0, v1, v2, v3, v4, v5, v6, v7, v8])) = some y2 at t2
      rw [show Try.prog.cellsOf 27 = 4 from by kernel_rfl] at t0 t1
      rw [show Try.prog.cellsOf 3 = 1 from by kernel_rfl] at t2
      change DataW.trod enc Try.prog w base spare held n' 27 [v0, v1, v2, v3] = some y0 at t0
      change DataW.trod enc Try.prog w base spare held n' 27 [v4, v5, v6, v7] = some y1 at t1
      change DataW.trod enc Try.prog w base spare held n' 3 [v8] = some y2 at t2
      obtain ⟨o, n, s, m, y, rfl, rfl, rfl, hs, _, hk⟩ := ex4 t0
      obtain ⟨A, l, c, ks, rfl, hkl, hok⟩ := kd_of m _ _ hk
      obtain ⟨o2, n2, s2, m2, y', rfl, rfl, rfl, hs2, _, hk2⟩ := ex4 t1
      obtain ⟨A2, l2, c2, ks2, rfl, hkl2, hok2⟩ := kd_of m2 _ _ hk2
      obtain ⟨z, ez, _, hz⟩ := DataW.trod_int Try.underlying3 t2
      simp only [List.cons.injEq, and_true] at ez
      subst ez
      exact ⟨o, n, s, A, l, c, ks, o2, n2, s2, A2, l2, c2, ks2, z, rfl, hkl, ⟨hs, hok.2.1, hok.2.2.1, hok.2.2.2⟩, hkl2, ⟨hs2, hok2.2.1, hok2.2.2.1, hok2.2.2.2⟩, hz⟩
end
end Go.Proofs.Ythlhicegchkjjaa
