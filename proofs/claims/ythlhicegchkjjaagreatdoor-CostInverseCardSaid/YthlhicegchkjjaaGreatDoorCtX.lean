/-
  What the rows of this seat have in common: the arguments, the listed variables.
-/
import Derived.Test.YthlhicegchkjjaaGreatDoorCtK
import Derived.Test.YthlhicegchkjjaaGreatDoorCoC
import Derived.Test.YthlhicegchkjjaaGreatDoorRows
import Derived.Test.YthlhicegchkjjaaGreatDoorTie
import Derived.Test.YthlhicegchkjjaaGreatDoorCards
import Derived.Deep.Slices
import Derived.Deep.Fields
import Derived.ChangeSame
import Derived.ChangeSlices
import Derived.OpenShut
import Derived.Lib.SmallJoins
import Derived.Lib.LaidTab
import Derived.ProofKit
import Derived.LaidMore
import Derived.Stop.Joined
import Derived.Carry
import Derived.SevenTiedAt
import Derived.Lay
namespace Go.Proofs.YthlhicegchkjjaaGreatDoor
open Go.RowKit Go.ChangeShapes Go.WideShapes Go.ChangeAt Go.Joins Go.Deep

theorem own : ownKnob Tryz.prog.godebug = none := by kernel_rfl
theorem laidOut : laidOutB Tryz.prog = true := by kernel_rfl
section
variable {H : Type} {enc : TypeId × Value → H} {w : World} {base : Nat} {spare : Nat → Bool} {held : Bool}
set_option maxRecDepth 100000 in
/-- A model by value. -/
theorem open_costs {r : Reach} {b0 : Nat} {v : Value} {d : DataW H} {p : List MemPlace} (hv : Value.okWide Tryz.prog w r b0 23 v) (h : DataW.Trod enc Tryz.prog w base spare held 23 v d p) :
    ∃ C : CM, v = .agg #[.int .i64 C.c0, .int .i64 C.c1, .int .i64 C.c2, .int .i64 C.c3, .int .i64 C.c4, .int .i64 C.c5, .int .i64 C.c6, .int .i64 C.c7, .int .i64 C.c8, .int .i64 C.c9, .int .i64 C.c10, .int .i64 C.c11, .int .i64 C.c12] := by
  obtain ⟨cs, rfl, hsz⟩ := okWide_struct Tryz.underlying23 hv
  obtain ⟨fuel, hf⟩ := h
  obtain ⟨cs⟩ := cs
  have hsz' : cs.length = 13 := hsz.trans (by kernel_rfl)
  match cs, hsz' with
  | [v0, v1, v2, v3, v4, v5, v6, v7, v8, v9, v10, v11, v12], _ =>
    obtain ⟨xs, n', hn', _, _, hxl, hfs⟩ := DataW.trod_struct (cs := [v0, v1, v2, v3, v4, v5, v6, v7, v8, v9, v10, v11, v12]) Tryz.underlying23 (by simpa [Value.cells] using hf)
    match xs, hxl with
    | [y0, y1, y2, y3, y4, y5, y6, y7, y8, y9, y10, y11, y12], _ =>
      have t0 := hfs 0 _ rfl
      have t1 := hfs 1 _ rfl
      have t2 := hfs 2 _ rfl
      have t3 := hfs 3 _ rfl
      have t4 := hfs 4 _ rfl
      have t5 := hfs 5 _ rfl
      have t6 := hfs 6 _ rfl
      have t7 := hfs 7 _ rfl
      have t8 := hfs 8 _ rfl
      have t9 := hfs 9 _ rfl
      have t10 := hfs 10 _ rfl
      have t11 := hfs 11 _ rfl
      have t12 := hfs 12 _ rfl
      change DataW.trod enc Tryz.prog w base spare held n' 3 (List.take (Tryz.prog.cellsOf 3) (List.drop 0 [v0, v1, v2, v3, v4, v5, v6, v7, v8, v9, v10, v11, v12])) = some y0 at t0
      rw [show Tryz.prog.cellsOf 3 = 1 from by kernel_rfl] at t0
      change DataW.trod enc Tryz.prog w base spare held n' 3 [v0] = some y0 at t0
      change DataW.trod enc Tryz.prog w base spare held n' 3 (List.take (Tryz.prog.cellsOf 3) (List.drop 1 [v0, v1, v2, v3, v4, v5, v6, v7, v8, v9, v10, v11, v12])) = some y1 at t1
      rw [show Tryz.prog.cellsOf 3 = 1 from by kernel_rfl] at t1
      change DataW.trod enc Tryz.prog w base spare held n' 3 [v1] = some y1 at t1
      change DataW.trod enc Tryz.prog w base spare held n' 3 (List.take (Tryz.prog.cellsOf 3) (List.drop 2 [v0, v1, v2, v3, v4, v5, v6, v7, v8, v9, v10, v11, v12])) = some y2 at t2
      rw [show Tryz.prog.cellsOf 3 = 1 from by kernel_rfl] at t2
      change DataW.trod enc Tryz.prog w base spare held n' 3 [v2] = some y2 at t2
      change DataW.trod enc Tryz.prog w base spare held n' 3 (List.take (Tryz.prog.cellsOf 3) (List.drop 3 [v0, v1, v2, v3, v4, v5, v6, v7, v8, v9, v10, v11, v12])) = some y3 at t3
      rw [show Tryz.prog.cellsOf 3 = 1 from by kernel_rfl] at t3
      change DataW.trod enc Tryz.prog w base spare held n' 3 [v3] = some y3 at t3
      change DataW.trod enc Tryz.prog w base spare held n' 3 (List.take (Tryz.prog.cellsOf 3) (List.drop 4 [v0, v1, v2, v3, v4, v5, v6, v7, v8, v9, v10, v11, v12])) = some y4 at t4
      rw [show Tryz.prog.cellsOf 3 = 1 from by kernel_rfl] at t4
      change DataW.trod enc Tryz.prog w base spare held n' 3 [v4] = some y4 at t4
      change DataW.trod enc Tryz.prog w base spare held n' 3 (List.take (Tryz.prog.cellsOf 3) (List.drop 5 [v0, v1, v2, v3, v4, v5, v6, v7, v8, v9, v10, v11, v12])) = some y5 at t5
      rw [show Tryz.prog.cellsOf 3 = 1 from by kernel_rfl] at t5
      change DataW.trod enc Tryz.prog w base spare held n' 3 [v5] = some y5 at t5
      change DataW.trod enc Tryz.prog w base spare held n' 3 (List.take (Tryz.prog.cellsOf 3) (List.drop 6 [v0, v1, v2, v3, v4, v5, v6, v7, v8, v9, v10, v11, v12])) = some y6 at t6
      rw [show Tryz.prog.cellsOf 3 = 1 from by kernel_rfl] at t6
      change DataW.trod enc Tryz.prog w base spare held n' 3 [v6] = some y6 at t6
      change DataW.trod enc Tryz.prog w base spare held n' 3 (List.take (Tryz.prog.cellsOf 3) (List.drop 7 [v0, v1, v2, v3, v4, v5, v6, v7, v8, v9, v10, v11, v12])) = some y7 at t7
      rw [show Tryz.prog.cellsOf 3 = 1 from by kernel_rfl] at t7
      change DataW.trod enc Tryz.prog w base spare held n' 3 [v7] = some y7 at t7
      change DataW.trod enc Tryz.prog w base spare held n' 3 (List.take (Tryz.prog.cellsOf 3) (List.drop 8 [v0, v1, v2, v3, v4, v5, v6, v7, v8, v9, v10, v11, v12])) = some y8 at t8
      rw [show Tryz.prog.cellsOf 3 = 1 from by kernel_rfl] at t8
      change DataW.trod enc Tryz.prog w base spare held n' 3 [v8] = some y8 at t8
      change DataW.trod enc Tryz.prog w base spare held n' 3 (List.take (Tryz.prog.cellsOf 3) (List.drop 9 [v0, v1, v2, v3, v4, v5, v6, v7, v8, v9, v10, v11, v12])) = some y9 at t9
      rw [show Tryz.prog.cellsOf 3 = 1 from by kernel_rfl] at t9
      change DataW.trod enc Tryz.prog w base spare held n' 3 [v9] = some y9 at t9
      change DataW.trod enc Tryz.prog w base spare held n' 3 (List.take (Tryz.prog.cellsOf 3) (List.drop 10 [v0, v1, v2, v3, v4, v5, v6, v7, v8, v9, v10, v11, v12])) = some y10 at t10
      rw [show Tryz.prog.cellsOf 3 = 1 from by kernel_rfl] at t10
      change DataW.trod enc Tryz.prog w base spare held n' 3 [v10] = some y10 at t10
      change DataW.trod enc Tryz.prog w base spare held n' 3 (List.take (Tryz.prog.cellsOf 3) (List.drop 11 [v0, v1, v2, v3, v4, v5, v6, v7, v8, v9, v10, v11, v12])) = some y11 at t11
      rw [show Tryz.prog.cellsOf 3 = 1 from by kernel_rfl] at t11
      change DataW.trod enc Tryz.prog w base spare held n' 3 [v11] = some y11 at t11
      change DataW.trod enc Tryz.prog w base spare held n' 3 (List.take (Tryz.prog.cellsOf 3) (List.drop 12 [v0, v1, v2, v3, v4, v5, v6, v7, v8, v9, v10, v11, v12])) = some y12 at t12
      rw [show Tryz.prog.cellsOf 3 = 1 from by kernel_rfl] at t12
      change DataW.trod enc Tryz.prog w base spare held n' 3 [v12] = some y12 at t12
      obtain ⟨n0, e0, _⟩ := DataW.trod_int Tryz.underlying3 t0
      obtain ⟨n1, e1, _⟩ := DataW.trod_int Tryz.underlying3 t1
      obtain ⟨n2, e2, _⟩ := DataW.trod_int Tryz.underlying3 t2
      obtain ⟨n3, e3, _⟩ := DataW.trod_int Tryz.underlying3 t3
      obtain ⟨n4, e4, _⟩ := DataW.trod_int Tryz.underlying3 t4
      obtain ⟨n5, e5, _⟩ := DataW.trod_int Tryz.underlying3 t5
      obtain ⟨n6, e6, _⟩ := DataW.trod_int Tryz.underlying3 t6
      obtain ⟨n7, e7, _⟩ := DataW.trod_int Tryz.underlying3 t7
      obtain ⟨n8, e8, _⟩ := DataW.trod_int Tryz.underlying3 t8
      obtain ⟨n9, e9, _⟩ := DataW.trod_int Tryz.underlying3 t9
      obtain ⟨n10, e10, _⟩ := DataW.trod_int Tryz.underlying3 t10
      obtain ⟨n11, e11, _⟩ := DataW.trod_int Tryz.underlying3 t11
      obtain ⟨n12, e12, _⟩ := DataW.trod_int Tryz.underlying3 t12
      simp only [List.cons.injEq, and_true] at e0 e1 e2 e3 e4 e5 e6 e7 e8 e9 e10 e11 e12
      subst e0
      subst e1
      subst e2
      subst e3
      subst e4
      subst e5
      subst e6
      subst e7
      subst e8
      subst e9
      subst e10
      subst e11
      subst e12
      exact ⟨⟨n0, n1, n2, n3, n4, n5, n6, n7, n8, n9, n10, n11, n12⟩, rfl⟩
end
namespace ET
end ET
/-- The library's 'returnsInHanded_of_change_and' with the heap's shape besides. -/
theorem returns_and_shaped {H : Type} {enc : TypeId × Value → H} {a : Assume} {C : Checked} {os : Os} {f : FuncId} {fn : Func} {s : ChangeSpec} {conds : List PathCond} {apart fresh handsOn again : Bool} {X : World → Array Value → Prop}
    (hX : ∀ (w w' : World) (args : Array Value), w.heap = w'.heap → X w args → X w' args)
    (own : ownKnob C.prog.godebug = none) (started : os.Started) (noInit : C.prog.inits.idxOf? f = none) (hfn : C.prog.funcs[f]? = some fn)
    (witness : ∃ (w : World) (tape : Tape) (i : Input), w.os = os ∧ (w.forCall tape i).Shaped C.prog ∧ i.vars = [] ∧ Input.okWide C.prog (w.forCall tape i) .any w.heap.size f i ∧
      ((s.pre enc C.prog fn conds apart (w.forCall tape i).memory i.args ∧ X (w.forCall tape i).memory i.args) ∧ sizedMet enc C.prog fn (OpenSpec.ofChange s) apart (w.forCall tape i).memory i.args) ∧ a.holds C.prog (lone (Frame.enter C.prog f i.args .normal) [] (w.forCall tape i)))
    (contract : ∀ (W : World) (base : Nat) (args : Array Value) (ds gs : List (DataW H)) (before : List MemPlace),
      (∀ (j : Nat) t v, fn.params[j]? = some t → args[j]? = some v → Value.okWide C.prog W .any base t v) →
      DataW.Whole enc C.prog fn.params.toList s.vars apart W args.toList ds gs before →
      X W args → W.ShapedOpen C.prog →
      Calls C.prog f args W fun e W' => ∃ v, e = .returned v ∧ s.post enc C.prog fn apart fresh handsOn again W args v W') :
    ReturnsInHanded a C os f .any (fun w args => (s.pre enc C.prog fn conds apart w args ∧ X w args) ∧ sizedMet enc C.prog fn (OpenSpec.ofChange s) apart w args) (s.post enc C.prog fn apart fresh handsOn again) := by
  refine returnsInHanded_of_calls own started noInit witness ?_
  intro w tape i _ hsh _ hok hpre _
  obtain ⟨_, _, _, fn', hfn', _, _, _, _, hval⟩ := hok
  have e : fn' = fn := Option.some.inj (hfn'.symm.trans hfn)
  subst e
  obtain ⟨⟨⟨ds, gs, before, hw, _⟩, hx⟩, _⟩ := hpre
  have hw' := DataW.Whole.of_heap (w' := w.forCall tape i) (by rfl) hw
  refine (contract (w.forCall tape i) w.heap.size i.args ds gs before hval hw' (hX _ _ _ (by rfl) hx) hsh).mono fun e W' ⟨v, he, hp⟩ => ?_
  subst he
  exact ChangeSpec.post_blind hp
/-- The listed variables. -/
def laid8 : List (String × DataW Unit) := [("math/bits.deBruijn32tab", Rows.laid_math_bits_deBruijn32tab), ("math/bits.deBruijn64tab", Rows.laid_math_bits_deBruijn64tab), ("internal/strconv.uint64pow10", Rows.laid_internal_strconv_uint64pow10), ("unicode/utf8.acceptRanges", Rows.laid_unicode_utf8_acceptRanges), ("strconv.ErrRange", Rows.laid_strconv_ErrRange), ("strconv.ErrSyntax", Rows.laid_strconv_ErrSyntax), ("keyhole/cost.names", Rows.laid_keyhole_cost_names), ("unicode/utf8.first", Rows.laid_unicode_utf8_first)]
theorem var_lt {W : World} {s : String} {g : Nat} {cs : Array Value} (hg : Tryz.prog.globalNamed s = some g) (h : W.var? Tryz.prog s = some cs) : g < W.heap.size := by
  unfold World.var? at h
  rw [hg] at h
  rcases Nat.lt_or_ge g W.heap.size with hl | hl
  · exact hl
  · simp [Array.getElem?_eq_none hl] at h
theorem cell_of_var {W : World} {s : String} {g : Nat} {cs : Array Value} {v : Value} (hg : Tryz.prog.globalNamed s = some g) (h : W.var? Tryz.prog s = some cs) (hc : cs.toList = [v]) : W.cell? ⟨g, 0, none⟩ = some v := by
  unfold World.var? at h
  rw [hg] at h
  have hc0 : cs[0]? = some v := by rw [← Array.getElem?_toList, hc]; rfl
  simp only [Option.bind_some] at h
  unfold World.cell?
  split at h
  · next o ho =>
    simp_all
  · simp_all
theorem err_of {W : World} {s : String} {g : Nat} {t : TypeId} {ms : Array (String × TypeId)} {cs : Array Value} {fuel : Nat} {name : String} {d : DataW Unit} {p : List MemPlace} {enc : TypeId × Value → Unit} (hg : Tryz.prog.globalNamed s = some g) (hi : Tryz.prog.underlying t = some (.interface ms)) (h : W.var? Tryz.prog s = some cs) (hd : DataW.trod enc Tryz.prog W 0 (fun _ => true) false fuel t cs.toList = some (.iface name d, p)) :
    ∃ ev, W.cell? ⟨g, 0, none⟩ = some ev ∧ (ev = .nilIface ∨ ∃ te pe, ev = .iface te pe) := by
  obtain ⟨_, u, v, hc, _⟩ := iface_of_trod hi hd
  exact ⟨_, cell_of_var hg h hc, .inr ⟨_, _, rfl⟩⟩
theorem var_cell {W : World} {s : String} {g : Nat} {cs : Array Value} (hg : Tryz.prog.globalNamed s = some g) (h : W.var? Tryz.prog s = some cs) (j : Nat) : W.cell? ⟨g, j, none⟩ = cs[j]? := by
  unfold World.var? at h
  rw [hg] at h
  simp only [Option.bind_some] at h
  unfold World.cell?
  split at h
  · next o ho =>
    simp_all
  · simp_all
theorem names_of {W : World} {cs : Array Value} {fuel : Nat} {p : List MemPlace} {enc : TypeId × Value → Unit} (hv : W.var? Tryz.prog "keyhole/cost.names" = some cs) (hd : DataW.trod enc Tryz.prog W 0 (fun _ => true) false fuel 51 cs.toList = some (Rows.laid_keyhole_cost_names, p)) : NT W := by
  have hg : Tryz.prog.globalNamed "keyhole/cost.names" = some 0 := by kernel_rfl
  refine ⟨var_lt hg hv, fun k hk => ?_⟩
  rw [var_cell hg hv k]
  obtain ⟨xs, m, _, hx, hl, hxl, hfs⟩ := DataW.trod_array Tryz.underlying51 hd
  have hce : Tryz.prog.cellsOf 9 = 1 := by kernel_rfl
  have hcl : cs.toList.length = 13 := by rw [hl]; kernel_rfl
  have hf := hfs k hk
  rw [hce, Nat.mul_one] at hf
  have hkx : k < xs.length := by omega
  rw [List.getElem?_eq_getElem hkx] at hf
  obtain ⟨s, hs, hxk, _⟩ := DataW.trod_string Tryz.underlying9 hf
  have hck : cs[k]? = some (.string s) := by
    have h1 : (cs.toList.drop k).take 1 = [.string s] := hs
    have h2 : ((cs.toList.drop k).take 1)[0]? = some (.string s) := by rw [h1]; rfl
    rw [List.getElem?_take, if_pos (by omega), List.getElem?_drop, Nat.add_zero, Array.getElem?_toList] at h2
    exact h2
  rw [hck]
  have hdl := congrArg Prod.fst hx
  have hlist : ([[97, 115, 115, 105, 103, 110], [98, 114, 97, 110, 99, 104], [108, 111, 111, 112], [99, 97, 108, 108], [111, 117, 116, 112, 117, 116], [114, 101, 108, 101, 97, 115, 101], [108, 111, 97, 100], [105, 110, 100, 101, 120], [97, 114, 105, 116, 104], [109, 117, 108, 116, 105, 112, 108, 121], [100, 105, 118, 105, 100, 101], [99, 111, 109, 112, 97, 114, 101], [108, 111, 103, 105, 99]] : List (List UInt8)).map (fun b => (DataW.lit (.string b) : DataW Unit)) = xs.map (·.1) := by
    have : Rows.laid_keyhole_cost_names = (DataW.agg (xs.map (·.1)) : DataW Unit) := hdl
    unfold Rows.laid_keyhole_cost_names at this
    injection this
  have hk2 := congrArg (fun l : List (DataW Unit) => l[k]?) hlist
  simp only [List.getElem?_map] at hk2
  rw [List.getElem?_eq_getElem hkx, hxk] at hk2
  have hn : nms[k]? = some s.data.toList := by
    have hn0 : nms[k]? = some (nms.getD k []) := by
      have : k < nms.length := hk
      rw [List.getD_eq_getElem?_getD, List.getElem?_eq_getElem this]
      rfl
    rw [hn0]
    have h3 : (nms[k]?).map (fun b => (DataW.lit (.string b) : DataW Unit)) = some (.lit (.string s.data.toList)) := hk2
    rw [hn0] at h3
    simp only [Option.map_some, Option.some.injEq, DataW.lit.injEq, Lit.string.injEq] at h3
    rw [h3]
  refine congrArg (fun z => some (Value.string z)) (bytes_eq ?_)
  rw [nmB_data, List.getD_eq_getElem?_getD, hn]
  rfl
theorem env_of {W : World} (hsh : W.ShapedOpen Tryz.prog) (h : laidMetH Tryz.prog laid8 W) : Env W.heap.size W := by
  rw [MakeChecks.laidMetH_plain _ _ _ (by kernel_rfl)] at h
  obtain ⟨ps, ⟨g0, t0, cs0, f0, p0, q0, hg0, ht0, hv0, hd0, ⟨g1, t1, cs1, f1, p1, q1, hg1, ht1, hv1, hd1, ⟨g2, t2, cs2, f2, p2, q2, hg2, ht2, hv2, hd2, ⟨g3, t3, cs3, f3, p3, q3, hg3, ht3, hv3, hd3, ⟨g4, t4, cs4, f4, p4, q4, hg4, ht4, hv4, hd4, ⟨g5, t5, cs5, f5, p5, q5, hg5, ht5, hv5, hd5, ⟨g6, t6, cs6, f6, p6, q6, hg6, ht6, hv6, hd6, _⟩, _⟩, _⟩, _⟩, _⟩, _⟩, _⟩, _, _⟩ := h
  have e2 : Tryz.prog.globalNamed "internal/strconv.uint64pow10" = some 1 := by kernel_rfl
  have e4 : Tryz.prog.globalNamed "strconv.ErrRange" = some 6 := by kernel_rfl
  have e6 : Tryz.prog.globalNamed "keyhole/cost.names" = some 0 := by kernel_rfl
  obtain rfl := Option.some.inj (e2.symm.trans hg2)
  obtain rfl := Option.some.inj (e4.symm.trans hg4)
  obtain rfl := Option.some.inj (e6.symm.trans hg6)
  have y2 : (Tryz.prog.globals[1]?).map (·.type) = some 134 := by kernel_rfl
  have y4 : (Tryz.prog.globals[6]?).map (·.type) = some 77 := by kernel_rfl
  have y6 : (Tryz.prog.globals[0]?).map (·.type) = some 51 := by kernel_rfl
  obtain rfl := Option.some.inj (y2.symm.trans ht2)
  obtain rfl := Option.some.inj (y4.symm.trans ht4)
  obtain rfl := Option.some.inj (y6.symm.trans ht6)
  have d2 : (Rows.laid_internal_strconv_uint64pow10 : DataW Unit) = Lib.tabData .u64 Lib.pow10Tab := rfl
  rw [d2] at hd2
  have x2 := Lib.cells_of_tab (n := 20) Tryz.underlying134 Tryz.underlying111 (by kernel_rfl) (by kernel_rfl) hd2
  have T2 : Lib.TabIs Tryz.prog W "internal/strconv.uint64pow10" .u64 Lib.pow10Tab := by unfold Lib.TabIs; rw [hv2, ← x2]
  have hml : ML W := Tryz.laysM145.s1_3 W hsh
  exact ⟨⟨var_lt e6 hv6, var_lt e2 hv2, hml.pos, var_lt e4 hv4⟩, names_of hv6 hd6, hml, T2, err_of e4 Tryz.underlying77 hv4 hd4⟩
end Go.Proofs.YthlhicegchkjjaaGreatDoor
