/-
  The map of a line's rules.
  The walk over line.
-/
import Derived.Test.YtnipigninbeplaaDoorQoH
import Derived.Test.YtnipigninbeplaaDoorPG
import Derived.Test.YtnipigninbeplaaDoorPF
namespace Go.Proofs.YtnipigninbeplaaDoor
open Go.RowKit Go.Maps

/-- An element of a map of functions reads as it is. -/
def RuR (v : Value) : Option (DataW Value × List MemPlace) := some (.held v, [])
theorem tMapR : Tryd.prog.underlying 107 = some (.map 9 106) := by kernel_rfl
theorem zFunc (w : World) : (zeroValue 106).run Tryd.prog w = .ok .nilFunc w := by kernel_rfl
/-- The function with a receiver. -/
def mv (f : Nat) (p : Value) : Value := .func (.func f) #[p] #[]
/-- The function that reads the lines of a kind. -/
def ruleOf (k : List UInt8) : Option Nat := if k == wLevels then some 58 else if k == wOrder then some 59 else if k == wInput then some 60
  else if k == wHatch then some 61 else if k == wObserve then some 62 else none
def D1 (p : Value) : DataW Value := (DataW.map []).put (.string wLevels) (.held (mv 58 p))
def D2 (p : Value) : DataW Value := (D1 p).put (.string wOrder) (.held (mv 59 p))
def D3 (p : Value) : DataW Value := (D2 p).put (.string wInput) (.held (mv 60 p))
def D4 (p : Value) : DataW Value := (D3 p).put (.string wHatch) (.held (mv 61 p))
def D5 (p : Value) : DataW Value := (D4 p).put (.string wObserve) (.held (mv 62 p))
theorem D1_is (p : Value) : IsMap (D1 p) := isMap_empty.put _ _
theorem D2_is (p : Value) : IsMap (D2 p) := (D1_is p).put _ _
theorem D3_is (p : Value) : IsMap (D3 p) := (D2_is p).put _ _
theorem D4_is (p : Value) : IsMap (D4 p) := (D3_is p).put _ _
theorem key_ne {a b : List UInt8} (h : ¬ (a == b) = true) : Lit.string a ≠ Lit.string b := fun e => h (by injection e with e; simp [e])
theorem at_put {D : DataW Value} (hD : IsMap D) (a b : List UInt8) (d z : DataW Value) : (D.put (.string b) d).atKey (.string a) z = if (a == b) = true then d else D.atKey (.string a) z := by
  by_cases h : (a == b) = true
  · rw [if_pos h]
    have e : a = b := by simpa using h
    rw [e]
    exact atKey_put_same hD (by simp [WideAt.IsKeyLit]) _ _
  · rw [if_neg h]
    exact atKey_put_other (key_ne h) _ _
theorem rules_at (p : Value) (k : List UInt8) (z : DataW Value) : (D5 p).atKey (.string k) z = match ruleOf k with | some f => .held (mv f p) | none => z := by
  unfold D5
  rw [at_put (D4_is p)]
  unfold D4
  rw [at_put (D3_is p)]
  unfold D3
  rw [at_put (D2_is p)]
  unfold D2
  rw [at_put (D1_is p)]
  unfold D1
  rw [at_put isMap_empty]
  unfold ruleOf
  by_cases h1 : (k == wLevels) = true
  · have e : k = wLevels := by simpa using h1
    subst e
    rfl
  · by_cases h2 : (k == wOrder) = true
    · have e : k = wOrder := by simpa using h2
      subst e
      rfl
    · by_cases h3 : (k == wInput) = true
      · have e : k = wInput := by simpa using h3
        subst e
        rfl
      · by_cases h4 : (k == wHatch) = true
        · have e : k = wHatch := by simpa using h4
          subst e
          rfl
        · by_cases h5 : (k == wObserve) = true
          · have e : k = wObserve := by simpa using h5
            subst e
            rfl
          · rw [if_neg h1, if_neg h2, if_neg h3, if_neg h4, if_neg h5, if_neg h1, if_neg h2, if_neg h3, if_neg h4, if_neg h5]
            rfl
set_option maxRecDepth 20000 in
theorem rules_look {w : World} {b n : Nat} {p : Value} (h : w.ownsMap Tryd.prog 9 RuR b n (D5 p)) (k : ByteArray) (hk : k.size ≤ maxLen) :
    (Instr.lookup 107 (.map (some b)) (.string k) true).run Tryd.prog w = .ok (.tuple #[match ruleOf k.data.toList with | some f => mv f p | none => .nilFunc, .bool (ruleOf k.data.toList).isSome]) w := by
  have hkey : keyOf Tryd.prog 9 (.string k) = some (.string k.data.toList) := Go.WideMaps.keyOf_string_mk tString hk
  obtain ⟨v, ps, hrun, hv⟩ := h.look_ok lawS tMapR (zFunc w) (zd := .held .nilFunc) (zp := []) rfl hkey
  rw [hrun]
  cases hr : ruleOf k.data.toList with
  | none =>
    rw [has_false_of_atKey (fun z => by rw [rules_at, hr])]
    rw [rules_at, hr] at hv
    injection hv with hv
    injection hv with hv _
    injection hv with hv
    rw [hv]
    rfl
  | some f =>
    rw [has_true_of_atKey (y := .held (mv f p)) (fun z => by rw [rules_at, hr])]
    rw [rules_at, hr] at hv
    injection hv with hv
    injection hv with hv _
    injection hv with hv
    rw [hv]
    rfl
theorem rule_put {w : World} {b n : Nat} {D : DataW Value} (h : w.ownsMap Tryd.prog 9 RuR b n D) (hn : n < 100) (k : ByteArray) (hk : k.size ≤ 100) (v : Value) :
    ∃ w', (Instr.mapUpdate 107 (.map (some b)) (.string k) v).run Tryd.prog w = .ok () w' ∧ w'.ownsMap Tryd.prog 9 RuR b (n + 1) (D.put (.string k.data.toList) (.held v)) ∧ w.grownBy w' (some b) :=
  h.update lawS tMapR (by unfold maxLen; omega) (Go.WideMaps.keyOf_string_mk tString (by unfold maxLen; omega)) rfl
/-- The map as the line makes it. -/
theorem rules_made (w : World) (p : Value) : ∃ a1 a2 a3 a4 a5 : World,
    (Instr.mapUpdate 107 (.map (some w.heap.size)) (.string ⟨#[108, 101, 118, 101, 108, 115]⟩) (.func (.func 58) #[p] #[])).run Tryd.prog (w.alloc (.map #[] 0)) = .ok () a1 ∧
    (Instr.mapUpdate 107 (.map (some w.heap.size)) (.string ⟨#[111, 114, 100, 101, 114]⟩) (.func (.func 59) #[p] #[])).run Tryd.prog a1 = .ok () a2 ∧
    (Instr.mapUpdate 107 (.map (some w.heap.size)) (.string ⟨#[105, 110, 112, 117, 116]⟩) (.func (.func 60) #[p] #[])).run Tryd.prog a2 = .ok () a3 ∧
    (Instr.mapUpdate 107 (.map (some w.heap.size)) (.string ⟨#[104, 97, 116, 99, 104]⟩) (.func (.func 61) #[p] #[])).run Tryd.prog a3 = .ok () a4 ∧
    (Instr.mapUpdate 107 (.map (some w.heap.size)) (.string ⟨#[111, 98, 115, 101, 114, 118, 101]⟩) (.func (.func 62) #[p] #[])).run Tryd.prog a4 = .ok () a5 ∧
    Below w.heap.size w a5 ∧ w.heap.size < a5.heap.size ∧ a5.ownsMap Tryd.prog 9 RuR w.heap.size 5 (D5 p) := by
  have h0 := World.ownsMap_made w Tryd.prog 9 RuR
  have b0 : Below w.heap.size w (w.alloc (.map #[] 0)) := (Below.refl _ _).alloc (Nat.le_refl _) _
  obtain ⟨a1, r1, o1, g1⟩ := rule_put h0 (by omega) ⟨#[108, 101, 118, 101, 108, 115]⟩ (by decide) (mv 58 p)
  obtain ⟨a2, r2, o2, g2⟩ := rule_put o1 (by omega) ⟨#[111, 114, 100, 101, 114]⟩ (by decide) (mv 59 p)
  obtain ⟨a3, r3, o3, g3⟩ := rule_put o2 (by omega) ⟨#[105, 110, 112, 117, 116]⟩ (by decide) (mv 60 p)
  obtain ⟨a4, r4, o4, g4⟩ := rule_put o3 (by omega) ⟨#[104, 97, 116, 99, 104]⟩ (by decide) (mv 61 p)
  obtain ⟨a5, r5, o5, g5⟩ := rule_put o4 (by omega) ⟨#[111, 98, 115, 101, 114, 118, 101]⟩ (by decide) (mv 62 p)
  have hh : ∀ q, some w.heap.size = some q → w.heap.size ≤ q := fun q hq => by injection hq with hq; omega
  have b1 := b0.grown g1 b0.size hh
  have b2 := b1.grown g2 b1.size hh
  have b3 := b2.grown g3 b2.size hh
  have b4 := b3.grown g4 b3.size hh
  have b5 := b4.grown g5 b4.size hh
  refine ⟨a1, a2, a3, a4, a5, r1, r2, r3, r4, r5, b5, ?_, o5⟩
  have s1 := g1.size
  have s2 := g2.size
  have s3 := g3.size
  have s4 := g4.size
  have s5 := g5.size
  have s0 : (w.alloc (.map #[] 0)).heap.size = w.heap.size + 1 := by simp
  omega

theorem trimB_len (l : List UInt8) (c : UInt8) : (Lib.trimB l c).length ≤ l.length := by
  have h1 := (List.dropWhile_suffix (p := (· == c)) (l := Lib.trimRightB l c)).length_le
  have h2 := (List.dropWhile_suffix (p := (· == c)) (l := l.reverse)).length_le
  unfold Lib.trimB Lib.trimLeftB
  unfold Lib.trimRightB at h1 ⊢
  simp only [List.length_reverse] at h1 h2 ⊢
  omega
/-- A line, of which the tokens are known. -/
def lnS (s : Rd) : Option (List ByteArray) → Int × Rd
  | none => (6, s)
  | some t => rdToks s t
theorem rdLine_ok (s : Rd) (l : List UInt8) : rdLine s l = if skipS l then (0, s) else lnS s (tokS [] l) := by
  unfold rdLine lnS
  rfl
theorem rdInput_lv (s : Rd) (t : List ByteArray) : (rdInput s t).2.p.levels = s.p.levels := by
  unfold rdInput
  split
  · split
    · split <;> rfl
    · rfl
  · rfl
theorem rdHatch_lv (s : Rd) (t : List ByteArray) : (rdHatch s t).2.p.levels = s.p.levels := by
  unfold rdHatch
  split
  · split
    · split <;> rfl
    · rfl
  · rfl
theorem seeS_lv (s : Rd) (a : ByteArray) (b : Bool) : (seeS s a b).2.p.levels = s.p.levels := by
  unfold seeS
  split
  · rfl
  · split
    · rfl
    · split <;> rfl
theorem rdObserve_lv (s : Rd) (t : List ByteArray) : (rdObserve s t).2.p.levels = s.p.levels := by
  unfold rdObserve
  split
  · exact seeS_lv _ _ _
  · split
    · exact seeS_lv _ _ _
    · rfl
  · rfl
theorem NOk.tail {w : World} {g f l c : Nat} {k : ByteArray} {t : List ByteArray} (h : NOk w (some ⟨g, f, none⟩) (l + 1) c (k :: t)) : NOk w (some ⟨g, f + 1, none⟩) l (c - 1) t := by
  have hl := h.len
  have hc := h.cap
  have hb := h.big
  simp only [List.length_cons] at hl
  refine ⟨by omega, by omega, by omega, fun x hx => h.nm x (List.mem_cons_of_mem _ hx), fun h0 => ?_⟩
  obtain ⟨g1, f1, e, h2, h3⟩ := h.mem (by omega)
  injection e with e
  injection e with e1 e2
  subst e1 e2
  refine ⟨g, f + 1, rfl, h2, fun j hj => ?_⟩
  have := h3 (j + 1) (by simp; omega)
  rw [show f + 1 + j = f + (j + 1) by omega]
  exact this
theorem slice_tail (g f l c : Nat) (h : l + 1 ≤ c) : ∃ a : Addr, a.block = g ∧ (c ≠ 1 → a = ⟨g, f + 1, none⟩) ∧ ∀ wx, (Instr.slice 22 (.slice (some ⟨g, f, none⟩) (l + 1) c) (some (.int .i64 1)) none none).run Tryd.prog wx = .ok (.slice (some a) l (c - 1)) wx := by
  have hr := fun wx => run_slice_l (P := Tryd.prog) wx 22 (some ⟨g, f, none⟩) (l + 1) c (by kernel_rfl) .i64 1 (by omega) (by omega)
  have hs := fun wx => (by kernel_rfl : (sizeOf (Tryd.prog.elem 22)).run Tryd.prog wx = .ok 1 wx)
  by_cases hc : c = 1
  · refine ⟨⟨g, f, none⟩, rfl, fun h => absurd hc h, fun wx => ?_⟩
    rw [hr wx, hs wx]
    subst hc
    show Result.ok (sliced (some ⟨g, f, none⟩) (1 : Int).toNat (l + 1) 1 1) wx = _
    have e1 : (1 : Int).toNat = 1 := rfl
    rw [sliced, e1, if_pos rfl]
    rfl
  · refine ⟨⟨g, f + 1, none⟩, rfl, fun _ => rfl, fun wx => ?_⟩
    rw [hr wx, hs wx]
    show Result.ok (sliced (some ⟨g, f, none⟩) (1 : Int).toNat (l + 1) c 1) wx = _
    have e1 : (1 : Int).toNat = 1 := rfl
    rw [sliced, e1, if_neg hc]
    rfl
theorem LnRes.of_rd {K : Nat × Obj} {w W' : World} {s : Rd} {n m : Nat} {D : DataW Unit} {x : Int × Rd} {e : Ending} (h : RdRes K w s.p.levels n D x e W') (hn : n ≤ m) (hx : x.2.p.levels = s.p.levels) : LnRes K w m x e W' := by
  obtain ⟨he, V', hR⟩ := h
  refine ⟨he, hR.bel, fun _ => ⟨V', n, D, hn, ?_⟩⟩
  rw [hx]
  exact hR
theorem LnRes.of_rl {K : Nat × Obj} {w W' : World} {n m : Nat} {x : Int × Rd} {e : Ending} (h : RlRes K w n x e W') (hn : n ≤ m) : LnRes K w m x e W' := by
  obtain ⟨he, V', n', D', hn', hR⟩ := h
  exact ⟨he, hR.bel, fun _ => ⟨V', n', D', by omega, hR⟩⟩
theorem LnRes.mono {K : Nat × Obj} {w W' : World} {n m : Nat} {x : Int × Rd} {e : Ending} (h : LnRes K w n x e W') (hn : n ≤ m) : LnRes K w m x e W' := by
  obtain ⟨he, hb, hR⟩ := h
  refine ⟨he, hb, fun h0 => ?_⟩
  obtain ⟨V', n', D', hn', hR'⟩ := hR h0
  exact ⟨V', n', D', by omega, hR'⟩
/-- A line of tokens, by its rule. -/
theorem rdToks_rule (s : Rd) (k : ByteArray) (t : List ByteArray) : rdToks s (k :: t) = match ruleOf k.data.toList with
    | none => (6, s)
    | some f => if f = 58 then rdLevels s t else if f = 59 then rdOrder s t else if f = 60 then rdInput s t else if f = 61 then rdHatch s t else rdObserve s t := by
  unfold rdToks ruleOf
  simp only [ByteArray.toList_eq]
  by_cases h1 : (k.data.toList == wLevels) = true
  · rw [if_pos h1, if_pos h1]; rfl
  · rw [if_neg h1, if_neg h1]
    by_cases h2 : (k.data.toList == wOrder) = true
    · rw [if_pos h2, if_pos h2]; rfl
    · rw [if_neg h2, if_neg h2]
      by_cases h3 : (k.data.toList == wInput) = true
      · rw [if_pos h3, if_pos h3]; rfl
      · rw [if_neg h3, if_neg h3]
        by_cases h4 : (k.data.toList == wHatch) = true
        · rw [if_pos h4, if_pos h4]; rfl
        · rw [if_neg h4, if_neg h4]
          by_cases h5 : (k.data.toList == wObserve) = true
          · rw [if_pos h5, if_pos h5]; rfl
          · rw [if_neg h5, if_neg h5]
theorem rule_cases {k : List UInt8} {f : Nat} (h : ruleOf k = some f) : f = 58 ∨ f = 59 ∨ f = 60 ∨ f = 61 ∨ f = 62 := by
  unfold ruleOf at h
  repeat' split at h
  all_goals first | (injection h with h; omega) | cases h

set_option maxRecDepth 100000 in
set_option maxHeartbeats 8000000 in
theorem line_b {K : Nat × Obj} (w W : World) (V : Nat → Value) (s : Rd) (n : Nat) (D : DataW Unit) (x : ByteArray) (hx : x.size ≤ 8192) (r : Int × Rd) (H : Hid (rdLine s x.data.toList = r)) (h : Rm K w W V s s.p.levels n D) (hn : n ≤ 10000) (hc : s.p.order.length ≤ 20000 ∧ s.p.inputs.length ≤ 20000 ∧ s.p.hatches.length ≤ 20000) (hinv : s.sorted = false → s.p.levels = []) :
    Calls Tryd.prog 33 #[.pointer (some ⟨w.heap.size + 1, 0, none⟩), .string x] W fun e W' => LnRes K w (n + x.size) r e W' := by
  have HR := Lib.hid h
  have HC := Lib.hid hc
  have HINV := Lib.hid hinv
  have hx9 : x.size ≤ 9223372036854775807 := by omega
  obtain ⟨u, hu⟩ : ∃ u : ByteArray, (⟨(Lib.trimB x.data.toList 32).toArray⟩ : ByteArray) = u := ⟨_, rfl⟩
  have huu : u.data.toList = Lib.trimB x.data.toList 32 := by rw [← hu]
  have HU := Lib.hid huu
  have HUU := Lib.hid hu
  clear h hc hinv huu hu
  go_enter Tryd.func33, Tryd.ntmps33
  go_upto_region 2 with (first | (go_at_call 56; refine (Tryd.strings_Trim_one x 32 (by decide) W hx9).mono ?_; rintro e w1 ⟨rfl, hw1⟩; rw [HUU.out]; have HR1 : Hid (Rm K w w1 V s s.p.levels n D) := Lib.hid (by rcases hw1 with rfl | rfl; exact HR.out; exact HR.out.next (Below.refl _ _).drew); clear hw1) | fail)
  by_cases h0 : u.size = 0
  · have he : u = ⟨#[]⟩ := by
      obtain ⟨d⟩ := u
      have : d.size = 0 := h0
      rw [Array.size_eq_zero_iff] at this
      rw [this]
    have hr : r = (0, s) := by
      rw [← H.out]
      unfold rdLine
      rw [if_pos (by rw [skipS_trim, ← HU.out, he])]
    have HRR := Lib.hid hr
    subst he
    clear hr H
    go_wp2_with fail
    go_ret
    rw [HRR.out]
    exact ⟨rfl, HR1.out.bel, fun _ => ⟨V, n, D, by omega, HR1.out⟩⟩
  have hup : 0 < u.size := by omega
  have hup' : (0 : Int) < (u.size : Int) := by omega
  have hne : u.toList.isEmpty = false := by
    rw [Bool.eq_false_iff]
    intro h
    rw [List.isEmpty_iff, toList_nil_iff] at h
    exact h0 h
  have hne2 : (u.toList == ([] : List UInt8)) = false := by
    rw [beq_eq_false_iff_ne]
    intro h
    rw [toList_nil_iff] at h
    exact h0 h
  have HCO : Hid (Lib.trimB x.data.toList 32 = u[0] :: u.data.toList.drop 1) := Lib.hid (by
    have h := drop_byte u 0 hup
    rw [List.drop_zero, HU.out] at h
    rw [h, HU.out])
  have HSK : Hid (skipS x.data.toList = (u[0] == 35)) := Lib.hid (by rw [skipS_trim, HCO.out])
  by_cases h35 : u[0].toNat = 35
  · have hr : r = (0, s) := by
      rw [← H.out]
      unfold rdLine
      rw [if_pos (by rw [HSK.out, beq_iff_eq]; exact UInt8.toNat_inj.1 (h35.trans rfl))]
    have HRR := Lib.hid hr
    have h35i : (u[0].toNat : Int) = 35 := by omega
    clear hr H h35 h0
    go_wp2_with fail
    go_ret
    rw [HRR.out]
    exact ⟨rfl, HR1.out.bel, fun _ => ⟨V, n, D, by omega, HR1.out⟩⟩
  have h35i : ¬ (u[0].toNat : Int) = 35 := by omega
  have h35b : ((u[0].toNat : Int) == 35) = false := by rw [beq_eq_false_iff_ne]; exact h35i
  have hus : u.size ≤ 8192 := by
    rw [bsize_len, HU.out]
    have h1 := trimB_len x.data.toList 32
    rw [← bsize_len] at h1
    omega
  obtain ⟨o, ho⟩ : ∃ o, tokS [] u.data.toList = o := ⟨_, rfl⟩
  have HO := Lib.hid ho
  have HX : Hid (lnS s o = r) := Lib.hid (by
    rw [← H.out, ← ho, HU.out, tokS_trim, rdLine_ok]
    rw [if_neg (by rw [HSK.out, beq_iff_eq]; intro e; exact h35 (by rw [e]; rfl))])
  clear ho H h35 h0
  cases o with
  | none =>
    have hr : r = (6, s) := HX.out.symm
    have HRR := Lib.hid hr
    clear hr HX
    go_wp2_with (first | (go_at_call 57; refine (tokens_b u none HO (by omega) _).mono ?_; rintro e w2 ⟨hb2, rfl⟩; have HR2 := Lib.hid (HR1.out.next hb2); clear hb2) | fail)
    go_ret
    rw [HRR.out]
    exact ⟨rfl, HR2.out.bel, fun h => by cases h⟩
  | some q =>
    have HQL : Hid (q.length ≤ x.size) := Lib.hid (by
      have h1 := tokS_len _ _ _ HO.out
      rw [if_pos rfl, HU.out] at h1
      have h2 := trimB_len x.data.toList 32
      rw [← bsize_len] at h2
      omega)
    have hq0 : q ≠ [] := by
      have h := HO.out
      rw [HU.out, HCO.out] at h
      exact tokS_first _ _ _ (trim_head x.data.toList _ _ HCO.out) h
    obtain ⟨k, t, rfl⟩ : ∃ k t, q = k :: t := by
      cases q with
      | nil => exact absurd rfl hq0
      | cons k t => exact ⟨k, t, rfl⟩
    clear hq0
    go_upto_region 7 with (first | (go_at_call 57; refine (tokens_b u (some (k :: t)) HO (by omega) _).mono ?_; rintro e w2 ⟨hb2, A, c, rfl, hnk, hab⟩; have HR2 := Lib.hid (HR1.out.next hb2); have HNK := Lib.hid hnk; have HAB := Lib.hid hab; have HW1 : Hid (w.heap.size + 2 ≤ w1.heap.size ∧ w1.heap.size ≤ w2.heap.size) := Lib.hid ⟨HR1.out.lt, hb2.size⟩; clear hb2 hnk hab) | fail)
    obtain ⟨a1, a2, a3, a4, a5, r1, r2, r3, r4, r5, hb5, hlt5, hown5⟩ := rules_made w2 (.pointer (some ⟨w.heap.size + 1, 0, none⟩))
    have HR5 := Lib.hid (HR2.out.next hb5)
    have HNK5 := Lib.hid (HNK.out.below hb5)
    obtain ⟨k', g, f, e1, hks, hAA, hgl, k0⟩ := HNK5.out.at 0 (by simp)
    rw [Nat.add_zero] at k0
    injection e1 with e1
    subst e1
    subst hAA
    have HLK := rules_look hown5 k hks
    have HAP : Hid (∀ i, i < 4 → ¬ RdS w V i g) := Lib.hid (fun i hi hs => by
      have hg := HAB.out _ rfl
      have h1 := HW1.out
      rcases hs with hs | hs | hs
      · simp only at hg; omega
      · simp only at hg; omega
      · have := (HR1.out.own hi hs).2; simp only at hg; omega)
    have hcap := HNK5.out.cap
    have hbig := HNK5.out.big
    have htl9 : t.length + 1 ≤ 8192 := by have := HQL.out; simp at this; omega
    have hc1 : t.length + 1 ≤ c := by simp at hcap; omega
    obtain ⟨ad, had, had2, hslc⟩ := slice_tail g f t.length c hc1
    have HTL : Hid (NOk a5 (some ad) t.length (c - 1) t) := Lib.hid (by
      by_cases hc : c = 1
      · have ht0 : t = [] := List.eq_nil_of_length_eq_zero (by omega)
        have h1 := HNK5.out.tail
        subst ht0
        exact ⟨rfl, h1.cap, h1.big, h1.nm, fun h0 => absurd h0 (by simp)⟩
      · rw [had2 hc]
        exact HNK5.out.tail)
    have HAD := Lib.hid had
    have hcm : c ≤ 9223372036854775807 := by unfold maxLen at hbig; omega
    have HRU := Lib.hid (rdToks_rule s k t)
    obtain ⟨ru, hru⟩ : ∃ z, ruleOf k.data.toList = z := ⟨_, rfl⟩
    rw [hru] at HLK HRU
    have HX2 : Hid (rdToks s (k :: t) = r) := HX
    have HNN := Lib.hid hn
    have hmm := @run_makeMap Tryd.prog
    have hmf : ∀ (fn : Fn) (first cap : Array Value) (w : World), (Instr.makeFunc fn first cap).run Tryd.prog w = .ok (.func fn first cap) w := fun _ _ _ _ => rfl
    clear had had2 HX hb5 hlt5 hown5 hcap hbig hn
    cases ru with
    | none =>
      have hr : r = (6, s) := by rw [← HX2.out, HRU.out]
      have HRR := Lib.hid hr
      clear hr HX2 HRU
      go_wp2_with fail
      go_ret
      rw [HRR.out]
      exact ⟨rfl, HR5.out.bel, fun h => by cases h⟩
    | some fn =>
      have HRC := Lib.hid (rule_cases hru)
      clear hru
      have HLK2 : (Instr.lookup 107 (.map (some w2.heap.size)) (.string k) true).run Tryd.prog a5 = .ok (.tuple #[.func (.func fn) #[.pointer (some ⟨w.heap.size + 1, 0, none⟩)] #[], .bool true]) a5 := HLK
      clear HLK
      have HTN : Hid (t.length ≤ x.size) := Lib.hid (by have := HQL.out; simp at this; omega)
      have ht9 : t.length ≤ 9000 := by omega
      rcases HRC.out with rfl | rfl | rfl | rfl | rfl
      · have HRT : Hid (rdLevels s t = r) := Lib.hid (by rw [← HX2.out, HRU.out]; rfl)
        clear HRU HX2
        go_wp2_with (first | (go_at_call 58; refine (readLevels_b w a5 V s n D t (some ad) t.length (c - 1) ht9 HNN.out HTL.out r HRT HR5.out HINV.out (fun a ha => by cases ha; rw [HAD.out]; exact HAP.out 0 (by omega))).mono ?_; rintro e w6 hln; have HLN := Lib.hid (LnRes.of_rl (m := n + x.size) hln (by have := HTN.out; omega)); clear hln; obtain ⟨he, hb6, _⟩ := HLN.out; subst he; clear hb6) | fail)
        go_ret
        exact HLN.out
      · have HRT : Hid (rdOrder s t = r) := Lib.hid (by rw [← HX2.out, HRU.out]; rfl)
        clear HRU HX2
        go_wp2_with (first | (go_at_call 59; refine (readOrder_b w a5 V s n D t (some ad) t.length (c - 1) ht9 HTL.out r HRT HR5.out HC.out.1 (fun a ha => by cases ha; rw [HAD.out]; exact HAP.out 1 (by omega))).mono ?_; rintro e w6 hln; have HLN := Lib.hid (LnRes.mono (m := n + x.size) hln (by omega)); clear hln; obtain ⟨he, hb6, _⟩ := HLN.out; subst he; clear hb6) | fail)
        go_ret
        exact HLN.out
      · have HRT : Hid (rdInput s t = r) := Lib.hid (by rw [← HX2.out, HRU.out]; rfl)
        clear HRU HX2
        go_wp2_with (first | (go_at_call 60; refine (readInput_b w a5 V s n D t (some ad) t.length (c - 1) HTL.out r HRT HR5.out HC.out.2.1).mono ?_; rintro e w6 hln; have HLN := Lib.hid (LnRes.of_rd (m := n + x.size) hln (by omega) (by rw [← HRT.out]; exact rdInput_lv _ _)); clear hln; obtain ⟨he, hb6, _⟩ := HLN.out; subst he; clear hb6) | fail)
        go_ret
        exact HLN.out
      · have HRT : Hid (rdHatch s t = r) := Lib.hid (by rw [← HX2.out, HRU.out]; rfl)
        clear HRU HX2
        go_wp2_with (first | (go_at_call 61; refine (readHatch_b w a5 V s n D t (some ad) t.length (c - 1) HTL.out r HRT HR5.out HC.out.2.2).mono ?_; rintro e w6 hln; have HLN := Lib.hid (LnRes.of_rd (m := n + x.size) hln (by omega) (by rw [← HRT.out]; exact rdHatch_lv _ _)); clear hln; obtain ⟨he, hb6, _⟩ := HLN.out; subst he; clear hb6) | fail)
        go_ret
        exact HLN.out
      · have HRT : Hid (rdObserve s t = r) := Lib.hid (by rw [← HX2.out, HRU.out]; rfl)
        clear HRU HX2
        go_wp2_with (first | (go_at_call 62; refine (readObserve_b w a5 V s n D t (some ad) t.length (c - 1) HTL.out r HRT HR5.out).mono ?_; rintro e w6 hln; have HLN := Lib.hid (LnRes.of_rd (m := n + x.size) hln (by omega) (by rw [← HRT.out]; exact rdObserve_lv _ _)); clear hln; obtain ⟨he, hb6, _⟩ := HLN.out; subst he; clear hb6) | fail)
        go_ret
        exact HLN.out
end Go.Proofs.YtnipigninbeplaaDoor
