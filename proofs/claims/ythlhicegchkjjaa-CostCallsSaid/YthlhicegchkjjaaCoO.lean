/-
  What the arguments hold: models, expressions, lists of expressions, read out of the row's own reading.
-/
import Derived.Test.YthlhicegchkjjaaCoN
import Derived.Deep.Slices
import Derived.Deep.Fields
import Derived.ChangeSame
import Derived.Lib.SmallJoins
import Derived.ProofKit
namespace Go.Proofs.Ythlhicegchkjjaa
open Go.RowKit Go.ChangeShapes Go.WideShapes Go.ChangeAt Go.Joins Go.Deep

theorem cell_addr {w : World} {a : Addr} {v : Value} (h : w.cell? a = some v) : a = ⟨a.block, a.off, none⟩ := by
  obtain ⟨b, o, s⟩ := a
  cases s with
  | none => rfl
  | some x =>
    exfalso
    unfold World.cell? at h
    split at h <;> simp at h
theorem add_at (g f j : Nat) : (⟨g, f, none⟩ : Addr).add j = ⟨g, f + j, none⟩ := by unfold Addr.add; split <;> simp_all
theorem kd_build {w : World} {A : Option Addr} : ∀ (len j : Nat), (∀ i, i < len → ∃ k, KdE w A (j + i) k) → ∃ ks : List ET, ks.length = len ∧ Kd w A j ks
  | 0, _, _ => ⟨[], rfl, by simp [Kd]⟩
  | len + 1, j, h => by
    obtain ⟨k, hk⟩ := h 0 (by omega)
    obtain ⟨ks, hl, hks⟩ := kd_build (w := w) (A := A) len (j + 1) (fun i hi => by have := h (i + 1) (by omega); rw [show j + 1 + i = j + (i + 1) from by omega]; exact this)
    exact ⟨k :: ks, by simp [hl], by simp only [Kd]; exact ⟨by simpa using hk, hks⟩⟩
section
variable {H : Type} {enc : TypeId × Value → H} {w : World} {base : Nat} {spare : Nat → Bool} {held : Bool}
theorem ex4 {fuel : Nat} {v0 v1 v2 v3 : Value} {x : DataW H × List MemPlace} (h : DataW.trod enc Try.prog w base spare held fuel 27 [v0, v1, v2, v3] = some x) :
    ∃ (o n : Int) (s : ByteArray) (m : Nat) (y : DataW H × List MemPlace), v0 = .int .i64 o ∧ v1 = .int .i64 n ∧ v2 = .string s ∧ s.size ≤ maxLen ∧ m < fuel ∧ DataW.trod enc Try.prog w base spare held m 25 [v3] = some y := by
  obtain ⟨xs, n', hn', _, _, hxl, hfs⟩ := DataW.trod_struct Try.underlying27 h
  match xs, hxl with
  | [y0, y1, y2, y3], _ =>
    have t0 := hfs 0 _ rfl
    have t1 := hfs 1 _ rfl
    have t2 := hfs 2 _ rfl
    have t3 := hfs 3 _ rfl
    change DataW.trod enc Try.prog w base spare held n' 24 (List.take (Try.prog.cellsOf 24) (List.drop 0 [v0, v1, v2, v3])) = some y0 at t0
    rw [show Try.prog.cellsOf 24 = 1 from by kernel_rfl] at t0
    change DataW.trod enc Try.prog w base spare held n' 24 [v0] = some y0 at t0
    change DataW.trod enc Try.prog w base spare held n' 3 (List.take (Try.prog.cellsOf 3) (List.drop 1 [v0, v1, v2, v3])) = some y1 at t1
    rw [show Try.prog.cellsOf 3 = 1 from by kernel_rfl] at t1
    change DataW.trod enc Try.prog w base spare held n' 3 [v1] = some y1 at t1
    change DataW.trod enc Try.prog w base spare held n' 9 (List.take (Try.prog.cellsOf 9) (List.drop 2 [v0, v1, v2, v3])) = some y2 at t2
    rw [show Try.prog.cellsOf 9 = 1 from by kernel_rfl] at t2
    change DataW.trod enc Try.prog w base spare held n' 9 [v2] = some y2 at t2
    change DataW.trod enc Try.prog w base spare held n' 25 (List.take (Try.prog.cellsOf 25) (List.drop 3 [v0, v1, v2, v3])) = some y3 at t3
    rw [show Try.prog.cellsOf 25 = 1 from by kernel_rfl] at t3
    change DataW.trod enc Try.prog w base spare held n' 25 [v3] = some y3 at t3
    obtain ⟨o, e0, _⟩ := DataW.trod_int Try.underlying24 t0
    obtain ⟨n, e1, _⟩ := DataW.trod_int Try.underlying3 t1
    obtain ⟨s, e2, _, hs⟩ := DataW.trod_string Try.underlying9 t2
    simp only [List.cons.injEq, and_true] at e0 e1 e2
    exact ⟨o, n, s, n', y3, e0, e1, e2, hs, by omega, t3⟩
theorem kd_of : ∀ (fuel : Nat) (v : Value) (x : DataW H × List MemPlace), DataW.trod enc Try.prog w base spare held fuel 25 [v] = some x → ∃ (A : Option Addr) (l c : Nat) (ks : List ET), v = .slice A l c ∧ ks.length = l ∧ LOk w A c ks := by
  intro fuel
  induction fuel using Nat.strongRecOn with
  | ind fuel ih =>
    intro v x h
    rcases DataW.trod_slice Try.underlying25 h with ⟨h0, _⟩ | ⟨a, len, cap, elems, rest, n, hf, hcs, hx, hb, hl, hm, hlen, hel, _, _⟩
    · simp only [List.cons.injEq, and_true] at h0
      exact ⟨none, 0, 0, [], h0, rfl, LOk.nil w⟩
    · simp only [List.cons.injEq, and_true] at hcs
      subst hcs
      have hspot : 0 < len → a.spot = none := by
        intro h0
        have h1 := hel 0 h0
        rw [List.getElem?_eq_getElem (by omega)] at h1
        simp only [Option.bind_eq_some_iff] at h1
        obtain ⟨cs', hc, ht⟩ := h1
        obtain ⟨_, hcl, hat⟩ := World.cells?_some hc
        have hC : Try.prog.cellsOf 27 = 4 := by kernel_rfl
        rw [hC] at hcl hat
        have g0 := hat 0 (by omega)
        rw [add_add, Nat.zero_mul, List.getElem?_eq_getElem (by omega)] at g0
        have ha := cell_addr g0
        have : a.add (0 + 0) = a := by unfold Addr.add; rw [if_pos rfl]
        rw [this] at ha; rw [ha]
      have hall : ∀ i, i < len → ∃ k, KdE w (some a) (0 + i) k := by
        intro i hi
        have h1 := hel i hi
        have hC : Try.prog.cellsOf 27 = 4 := by kernel_rfl
        rw [hC] at h1
        rw [List.getElem?_eq_getElem (by omega)] at h1
        simp only [Option.bind_eq_some_iff] at h1
        obtain ⟨cs', hc, ht⟩ := h1
        obtain ⟨_, hcl, hat⟩ := World.cells?_some hc
        match cs', hcl with
        | [v0, v1, v2, v3], _ =>
          have g0 := hat 0 (by omega)
          have g1 := hat 1 (by omega)
          have g2 := hat 2 (by omega)
          have g3 := hat 3 (by omega)
          simp only [List.getElem?_cons_zero, List.getElem?_cons_succ, add_add] at g0 g1 g2 g3
          have hs := hspot (by omega)
          obtain ⟨g, f, sp⟩ := a
          simp only at hs
          subst hs
          rw [add_at] at g0 g1 g2 g3
          have hg := World.block_lt_of_cell? w _ g0
          obtain ⟨o, n1, s, m, y, rfl, rfl, rfl, hs, hmf, hk⟩ := ex4 ht
          obtain ⟨A', l', c', ks, rfl, hkl, hok⟩ := ih m (by omega) _ _ hk
          refine ⟨.mk o n1 s ks, ?_⟩
          simp only [KdE]
          rw [hkl]
          exact ⟨hs, g, f, A', c', rfl, hg, by rw [← hkl]; exact hok.2.1, hok.2.2.1, by simpa using g0, by simpa [Nat.add_assoc] using g1, by simpa [Nat.add_assoc] using g2, by simpa [Nat.add_assoc] using g3, hok.2.2.2⟩
      obtain ⟨ks, hkl, hks⟩ := kd_build len 0 hall
      exact ⟨some a, len, cap, ks, rfl, hkl, Nat.zero_le _, by omega, hm, hks⟩
/-- An expression by value. -/
theorem open_expr {r : Reach} {b0 : Nat} {v : Value} {d : DataW H} {p : List MemPlace} (hv : Value.okWide Try.prog w r b0 27 v) (h : DataW.Trod enc Try.prog w base spare held 27 v d p) :
    ∃ (o n : Int) (s : ByteArray) (A : Option Addr) (l c : Nat) (ks : List ET), v = .agg #[.int .i64 o, .int .i64 n, .string s, .slice A l c] ∧ ks.length = l ∧ EOk w s A c ks := by
  obtain ⟨cs, rfl, hsz⟩ := okWide_struct Try.underlying27 hv
  obtain ⟨fuel, hf⟩ := h
  obtain ⟨cs⟩ := cs
  have hsz' : cs.length = 4 := hsz.trans (by kernel_rfl)
  match cs, hsz' with
  | [v0, v1, v2, v3], _ =>
    obtain ⟨o, n, s, m, y, rfl, rfl, rfl, hs, _, hk⟩ := ex4 (by simpa [Value.cells] using hf)
    obtain ⟨A, l, c, ks, rfl, hkl, hok⟩ := kd_of m _ _ hk
    exact ⟨o, n, s, A, l, c, ks, rfl, hkl, hs, hok.2.1, hok.2.2.1, hok.2.2.2⟩
/-- A model by value. -/
theorem open_costs {r : Reach} {b0 : Nat} {v : Value} {d : DataW H} {p : List MemPlace} (hv : Value.okWide Try.prog w r b0 23 v) (h : DataW.Trod enc Try.prog w base spare held 23 v d p) :
    ∃ C : CM, v = .agg #[.int .i64 C.c0, .int .i64 C.c1, .int .i64 C.c2, .int .i64 C.c3, .int .i64 C.c4, .int .i64 C.c5, .int .i64 C.c6, .int .i64 C.c7, .int .i64 C.c8, .int .i64 C.c9, .int .i64 C.c10, .int .i64 C.c11, .int .i64 C.c12] := by
  obtain ⟨cs, rfl, hsz⟩ := okWide_struct Try.underlying23 hv
  obtain ⟨fuel, hf⟩ := h
  obtain ⟨cs⟩ := cs
  have hsz' : cs.length = 13 := hsz.trans (by kernel_rfl)
  match cs, hsz' with
  | [v0, v1, v2, v3, v4, v5, v6, v7, v8, v9, v10, v11, v12], _ =>
    obtain ⟨xs, n', hn', _, _, hxl, hfs⟩ := DataW.trod_struct (cs := [v0, v1, v2, v3, v4, v5, v6, v7, v8, v9, v10, v11, v12]) Try.underlying23 (by simpa [Value.cells] using hf)
    match xs, hxl with
    | [y0, y1, y2, y3, y4, y5, y6, y7, y8, y9, y10, y11, y12], _ =>
      have t0 := hfs 0 _ rfl
      have t1 := hfs 1 _ rfl
      have t2 := hfs 2 _ rfl
      have t3 := hfs 3 _ rfl
      have t4 := hfs 4 _ rfl
      have t5 := hfs 5 _ rfl
      have t6 := hfs 6 _ rfl
      have t7 := hfs 7 _ rfl
      have t8 := hfs 8 _ rfl
      have t9 := hfs 9 _ rfl
      have t10 := hfs 10 _ rfl
      have t11 := hfs 11 _ rfl
      have t12 := hfs 12 _ rfl
      change DataW.trod enc Try.prog w base spare held n' 3 (List.take (Try.prog.cellsOf 3) (List.drop 0 [v0, v1, v2, v3, v4, v5, v6, v7, v8, v9, v10, v11, v12])) = some y0 at t0
      rw [show Try.prog.cellsOf 3 = 1 from by kernel_rfl] at t0
      change DataW.trod enc Try.prog w base spare held n' 3 [v0] = some y0 at t0
      change DataW.trod enc Try.prog w base spare held n' 3 (List.take (Try.prog.cellsOf 3) (List.drop 1 [v0, v1, v2, v3, v4, v5, v6, v7, v8, v9, v10, v11, v12])) = some y1 at t1
      rw [show Try.prog.cellsOf 3 = 1 from by kernel_rfl] at t1
      change DataW.trod enc Try.prog w base spare held n' 3 [v1] = some y1 at t1
      change DataW.trod enc Try.prog w base spare held n' 3 (List.take (Try.prog.cellsOf 3) (List.drop 2 [v0, v1, v2, v3, v4, v5, v6, v7, v8, v9, v10, v11, v12])) = some y2 at t2
      rw [show Try.prog.cellsOf 3 = 1 from by kernel_rfl] at t2
      change DataW.trod enc Try.prog w base spare held n' 3 [v2] = some y2 at t2
      change DataW.trod enc Try.prog w base spare held n' 3 (List.take (Try.prog.cellsOf 3) (List.drop 3 [v0, v1, v2, v3, v4, v5, v6, v7, v8, v9, v10, v11, v12])) = some y3 at t3
      rw [show Try.prog.cellsOf 3 = 1 from by kernel_rfl] at t3
      change DataW.trod enc Try.prog w base spare held n' 3 [v3] = some y3 at t3
      change DataW.trod enc Try.prog w base spare held n' 3 (List.take (Try.prog.cellsOf 3) (List.drop 4 [v0, v1, v2, v3, v4, v5, v6, v7, v8, v9, v10, v11, v12])) = some y4 at t4
      rw [show Try.prog.cellsOf 3 = 1 from by kernel_rfl] at t4
      change DataW.trod enc Try.prog w base spare held n' 3 [v4] = some y4 at t4
      change DataW.trod enc Try.prog w base spare held n' 3 (List.take (Try.prog.cellsOf 3) (List.drop 5 [v0, v1, v2, v3, v4, v5, v6, v7, v8, v9, v10, v11, v12])) = some y5 at t5
      rw [show Try.prog.cellsOf 3 = 1 from by kernel_rfl] at t5
      change DataW.trod enc Try.prog w base spare held n' 3 [v5] = some y5 at t5
      change DataW.trod enc Try.prog w base spare held n' 3 (List.take (Try.prog.cellsOf 3) (List.drop 6 [v0, v1, v2, v3, v4, v5, v6, v7, v8, v9, v10, v11, v12])) = some y6 at t6
      rw [show Try.prog.cellsOf 3 = 1 from by kernel_rfl] at t6
      change DataW.trod enc Try.prog w base spare held n' 3 [v6] = some y6 at t6
      change DataW.trod enc Try.prog w base spare held n' 3 (List.take (Try.prog.cellsOf 3) (List.drop 7 [v0, v1, v2, v3, v4, v5, v6, v7, v8, v9, v10, v11, v12])) = some y7 at t7
      rw [show Try.prog.cellsOf 3 = 1 from by kernel_rfl] at t7
      change DataW.trod enc Try.prog w base spare held n' 3 [v7] = some y7 at t7
      change DataW.trod enc Try.prog w base spare held n' 3 (List.take (Try.prog.cellsOf 3) (List.drop 8 [v0, v1, v2, v3, v4, v5, v6, v7, v8, v9, v10, v11, v12])) = some y8 at t8
      rw [show Try.prog.cellsOf 3 = 1 from by kernel_rfl] at t8
      change DataW.trod enc Try.prog w base spare held n' 3 [v8] = some y8 at t8
      change DataW.trod enc Try.prog w base spare held n' 3 (List.take (Try.prog.cellsOf 3) (List.drop 9 [v0, v1, v2, v3, v4, v5, v6, v7, v8, v9, v10, v11, v12])) = some y9 at t9
      rw [show Try.prog.cellsOf 3 = 1 from by kernel_rfl] at t9
      change DataW.trod enc Try.prog w base spare held n' 3 [v9] = some y9 at t9
      change DataW.trod enc Try.prog w base spare held n' 3 (List.take (Try.prog.cellsOf 3) (List.drop 10 [v0, v1, v2, v3, v4, v5, v6, v7, v8, v9, v10, v11, v12])) = some y10 at t10
      rw [show Try.prog.cellsOf 3 = 1 from by kernel_rfl] at t10
      change DataW.trod enc Try.prog w base spare held n' 3 [v10] = some y10 at t10
      change DataW.trod enc Try.prog w base spare held n' 3 (List.take (Try.prog.cellsOf 3) (List.drop 11 [v0, v1, v2, v3, v4, v5, v6, v7, v8, v9, v10, v11, v12])) = some y11 at t11
      rw [show Try.prog.cellsOf 3 = 1 from by kernel_rfl] at t11
      change DataW.trod enc Try.prog w base spare held n' 3 [v11] = some y11 at t11
      change DataW.trod enc Try.prog w base spare held n' 3 (List.take (Try.prog.cellsOf 3) (List.drop 12 [v0, v1, v2, v3, v4, v5, v6, v7, v8, v9, v10, v11, v12])) = some y12 at t12
      rw [show Try.prog.cellsOf 3 = 1 from by kernel_rfl] at t12
      change DataW.trod enc Try.prog w base spare held n' 3 [v12] = some y12 at t12
      obtain ⟨n0, e0, _⟩ := DataW.trod_int Try.underlying3 t0
      obtain ⟨n1, e1, _⟩ := DataW.trod_int Try.underlying3 t1
      obtain ⟨n2, e2, _⟩ := DataW.trod_int Try.underlying3 t2
      obtain ⟨n3, e3, _⟩ := DataW.trod_int Try.underlying3 t3
      obtain ⟨n4, e4, _⟩ := DataW.trod_int Try.underlying3 t4
      obtain ⟨n5, e5, _⟩ := DataW.trod_int Try.underlying3 t5
      obtain ⟨n6, e6, _⟩ := DataW.trod_int Try.underlying3 t6
      obtain ⟨n7, e7, _⟩ := DataW.trod_int Try.underlying3 t7
      obtain ⟨n8, e8, _⟩ := DataW.trod_int Try.underlying3 t8
      obtain ⟨n9, e9, _⟩ := DataW.trod_int Try.underlying3 t9
      obtain ⟨n10, e10, _⟩ := DataW.trod_int Try.underlying3 t10
      obtain ⟨n11, e11, _⟩ := DataW.trod_int Try.underlying3 t11
      obtain ⟨n12, e12, _⟩ := DataW.trod_int Try.underlying3 t12
      simp only [List.cons.injEq, and_true] at e0 e1 e2 e3 e4 e5 e6 e7 e8 e9 e10 e11 e12
      subst e0
      subst e1
      subst e2
      subst e3
      subst e4
      subst e5
      subst e6
      subst e7
      subst e8
      subst e9
      subst e10
      subst e11
      subst e12
      exact ⟨⟨n0, n1, n2, n3, n4, n5, n6, n7, n8, n9, n10, n11, n12⟩, rfl⟩
end
namespace ET
mutual
theorem dep_cnt : ∀ e : ET, dep e ≤ cnt e
  | mk _ _ _ ks => by simp only [dep, cnt]; have := depL_cnt ks; omega
theorem depL_cnt : ∀ ks : List ET, depL ks ≤ cntL ks
  | [] => by simp [depL]
  | k :: ks => by simp only [depL, cntL]; have h1 := dep_cnt k; have h2 := depL_cnt ks; omega
end
theorem few {e : ET} (h : 0 ≤ left e 300) : cnt e ≤ 300 ∧ dep e ≤ 300 := by
  have h1 := left_cnt e 300 h
  have h2 := dep_cnt e
  omega
end ET
theorem own : ownKnob Try.prog.godebug = none := by kernel_rfl
theorem laidOut : laidOutB Try.prog = true := by kernel_rfl
end Go.Proofs.Ythlhicegchkjjaa
