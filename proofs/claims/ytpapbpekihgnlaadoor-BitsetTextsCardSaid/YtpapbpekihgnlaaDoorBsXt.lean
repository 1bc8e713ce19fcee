/-
  What the listed variables of BitsetTexts hold.
-/
import Derived.Test.YtpapbpekihgnlaaDoorBsX
import Derived.Test.YtpapbpekihgnlaaDoorBsTg
import Derived.Lay
namespace Go.Proofs.YtpapbpekihgnlaaDoor
open Go.RowKit Go.ChangeShapes Go.WideShapes Go.ChangeAt Go.Joins Go.Deep

/-- The library's 'returnsInHanded_of_change_and' with the heap's shape besides. -/
theorem returns_and_shaped {H : Type} {enc : TypeId × Value → H} {a : Assume} {C : Checked} {os : Os} {f : FuncId} {fn : Func} {s : ChangeSpec} {conds : List PathCond} {apart fresh handsOn again : Bool} {X : World → Array Value → Prop}
    (hX : ∀ (w w' : World) (args : Array Value), w.heap = w'.heap → X w args → X w' args)
    (own : ownKnob C.prog.godebug = none) (started : os.Started) (noInit : C.prog.inits.idxOf? f = none) (hfn : C.prog.funcs[f]? = some fn)
    (witness : ∃ (w : World) (tape : Tape) (i : Input), w.os = os ∧ (w.forCall tape i).Shaped C.prog ∧ i.vars = [] ∧ Input.okWide C.prog (w.forCall tape i) .any w.heap.size f i ∧
      ((s.pre enc C.prog fn conds apart (w.forCall tape i).memory i.args ∧ X (w.forCall tape i).memory i.args) ∧ sizedMet enc C.prog fn (OpenSpec.ofChange s) apart (w.forCall tape i).memory i.args) ∧ a.holds C.prog (lone (Frame.enter C.prog f i.args .normal) [] (w.forCall tape i)))
    (contract : ∀ (W : World) (base : Nat) (args : Array Value) (ds gs : List (DataW H)) (before : List MemPlace),
      (∀ (j : Nat) t v, fn.params[j]? = some t → args[j]? = some v → Value.okWide C.prog W .any base t v) →
      DataW.Whole enc C.prog fn.params.toList s.vars apart W args.toList ds gs before →
      X W args → W.ShapedOpen C.prog →
      Calls C.prog f args W fun e W' => ∃ v, e = .returned v ∧ s.post enc C.prog fn apart fresh handsOn again W args v W') :
    ReturnsInHanded a C os f .any (fun w args => (s.pre enc C.prog fn conds apart w args ∧ X w args) ∧ sizedMet enc C.prog fn (OpenSpec.ofChange s) apart w args) (s.post enc C.prog fn apart fresh handsOn again) := by
  refine returnsInHanded_of_calls own started noInit witness ?_
  intro w tape i _ hsh _ hok hpre _
  obtain ⟨_, _, _, fn', hfn', _, _, _, _, hval⟩ := hok
  have e : fn' = fn := Option.some.inj (hfn'.symm.trans hfn)
  subst e
  obtain ⟨⟨⟨ds, gs, before, hw, _⟩, hx⟩, _⟩ := hpre
  have hw' := DataW.Whole.of_heap (w' := w.forCall tape i) (by rfl) hw
  refine (contract (w.forCall tape i) w.heap.size i.args ds gs before hval hw' (hX _ _ _ (by rfl) hx) hsh).mono fun e W' ⟨v, he, hp⟩ => ?_
  subst he
  exact ChangeSpec.post_blind hp
/-- The listed variables. -/
def laid7 : List (String × DataW Unit) := [("math/bits.deBruijn32tab", Rows.laid_math_bits_deBruijn32tab), ("math/bits.deBruijn64tab", Rows.laid_math_bits_deBruijn64tab), ("internal/strconv.uint64pow10", Rows.laid_internal_strconv_uint64pow10), ("unicode/utf8.acceptRanges", Rows.laid_unicode_utf8_acceptRanges), ("strconv.ErrRange", Rows.laid_strconv_ErrRange), ("strconv.ErrSyntax", Rows.laid_strconv_ErrSyntax), ("unicode/utf8.first", Rows.laid_unicode_utf8_first)]
theorem cell_of_var {W : World} {s : String} {g : Nat} {cs : Array Value} {v : Value} (hg : Tryd.prog.globalNamed s = some g) (h : W.var? Tryd.prog s = some cs) (hc : cs.toList = [v]) : W.cell? ⟨g, 0, none⟩ = some v := by
  unfold World.var? at h
  rw [hg] at h
  have hc0 : cs[0]? = some v := by rw [← Array.getElem?_toList, hc]; rfl
  simp only [Option.bind_some] at h
  unfold World.cell?
  split at h
  · next o ho =>
    simp_all
  · simp_all
theorem err_of {W : World} {s : String} {g : Nat} {t : TypeId} {ms : Array (String × TypeId)} {cs : Array Value} {fuel : Nat} {name : String} {d : DataW Unit} {p : List MemPlace} {enc : TypeId × Value → Unit} (hg : Tryd.prog.globalNamed s = some g) (hi : Tryd.prog.underlying t = some (.interface ms)) (h : W.var? Tryd.prog s = some cs) (hd : DataW.trod enc Tryd.prog W 0 (fun _ => true) false fuel t cs.toList = some (.iface name d, p)) :
    ∃ ev, W.cell? ⟨g, 0, none⟩ = some ev ∧ (ev = .nilIface ∨ ∃ te pe, ev = .iface te pe) := by
  obtain ⟨_, u, v, hc, _⟩ := iface_of_trod hi hd
  exact ⟨_, cell_of_var hg h hc, .inr ⟨_, _, rfl⟩⟩
theorem txt_of {W : World} (hsh : W.ShapedOpen Tryd.prog) (h : laidMetH Tryd.prog laid7 W) : Txt W := by
  rw [MakeChecks.laidMetH_plain _ _ _ (by kernel_rfl)] at h
  obtain ⟨ps, ⟨g0, t0, cs0, f0, p0, q0, hg0, ht0, hv0, hd0, ⟨g1, t1, cs1, f1, p1, q1, hg1, ht1, hv1, hd1, ⟨g2, t2, cs2, f2, p2, q2, hg2, ht2, hv2, hd2, ⟨g3, t3, cs3, f3, p3, q3, hg3, ht3, hv3, hd3, ⟨g4, t4, cs4, f4, p4, q4, hg4, ht4, hv4, hd4, ⟨g5, t5, cs5, f5, p5, q5, hg5, ht5, hv5, hd5, _⟩, _⟩, _⟩, _⟩, _⟩, _⟩, _, _⟩ := h
  have e1 : Tryd.prog.globalNamed "math/bits.deBruijn64tab" = some 0 := by kernel_rfl
  have e2 : Tryd.prog.globalNamed "internal/strconv.uint64pow10" = some 4 := by kernel_rfl
  have e4 : Tryd.prog.globalNamed "strconv.ErrRange" = some 3 := by kernel_rfl
  have e5 : Tryd.prog.globalNamed "strconv.ErrSyntax" = some 2 := by kernel_rfl
  obtain rfl := Option.some.inj (e1.symm.trans hg1)
  obtain rfl := Option.some.inj (e2.symm.trans hg2)
  obtain rfl := Option.some.inj (e4.symm.trans hg4)
  obtain rfl := Option.some.inj (e5.symm.trans hg5)
  have y1 : (Tryd.prog.globals[0]?).map (·.type) = some 80 := by kernel_rfl
  have y2 : (Tryd.prog.globals[4]?).map (·.type) = some 111 := by kernel_rfl
  have y4 : (Tryd.prog.globals[3]?).map (·.type) = some 64 := by kernel_rfl
  have y5 : (Tryd.prog.globals[2]?).map (·.type) = some 64 := by kernel_rfl
  obtain rfl := Option.some.inj (y1.symm.trans ht1)
  obtain rfl := Option.some.inj (y2.symm.trans ht2)
  obtain rfl := Option.some.inj (y4.symm.trans ht4)
  obtain rfl := Option.some.inj (y5.symm.trans ht5)
  have d1 : (Rows.laid_math_bits_deBruijn64tab : DataW Unit) = Lib.tabData .u8 zs64 := rfl
  have d2 : (Rows.laid_internal_strconv_uint64pow10 : DataW Unit) = Lib.tabData .u64 Lib.pow10Tab := rfl
  rw [d1] at hd1
  rw [d2] at hd2
  have x1 := Lib.cells_of_tab (n := 64) Tryd.underlying80 Tryd.underlying5 (by kernel_rfl) (by kernel_rfl) hd1
  have x2 := Lib.cells_of_tab (n := 20) Tryd.underlying111 Tryd.underlying48 (by kernel_rfl) (by kernel_rfl) hd2
  have T1 : Lib.TabIs Tryd.prog W "math/bits.deBruijn64tab" .u8 zs64 := by unfold Lib.TabIs; rw [hv1, ← x1]
  have T2 : Lib.TabIs Tryd.prog W "internal/strconv.uint64pow10" .u64 Lib.pow10Tab := by unfold Lib.TabIs; rw [hv2, ← x2]
  refine ⟨⟨⟨var_lt e1 hv1, fun j hj => ?_⟩, var_lt e2 hv2, T2⟩, Tryd.laysM145.s1_3 W hsh, err_of e5 Tryd.underlying64 hv5 hd5, err_of e4 Tryd.underlying64 hv4 hd4⟩
  have := T1.cell e1 j (by show j < 64; exact hj)
  rw [this]
  simp [zs64, List.getD_eq_getElem?_getD, show j < Lib.deBruijn64tab.length from hj]
end Go.Proofs.YtpapbpekihgnlaaDoor
