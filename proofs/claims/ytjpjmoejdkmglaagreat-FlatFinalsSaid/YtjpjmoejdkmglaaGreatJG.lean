/-
  Regions that draw their order, with operations at the end that wait for all others: what is held of the world need not hold behind these; no program is in sight here.
  Plain laws: how a run starts; the machine while it is made.
-/
import Derived.OrdersHeld
import Derived.RegionTactic
import Derived.Deep.RegionHeld3
import Derived.Test.YtjpjmoejdkmglaaGreatFlMm
import Derived.Test.YtjpjmoejdkmglaaGreatFlXc
namespace Go.Proofs.YtjpjmoejdkmglaaGreat
open Go Go.RowKit

section
variable {P : Program} {md : Region.Mode} {ops : Array Oper} {Q : Exit → Act → World → Prop} {S : World → Prop} {n : Nat}

/-- Whatever order is picked, and S holds behind every operation below n. -/
def wpAnyX (P : Program) (md : Region.Mode) (ops : Array Oper) (Q : Exit → Act → World → Prop) (S : World → Prop) (n : Nat) : Nat → Array Bool → Act → World → Prop
  | 0, listed, a, w => Region.ready md ops listed = [] ∧ Q .normal a w
  | fuel + 1, listed, a, w =>
    (Region.ready md ops listed = [] → Q .normal a w) ∧
    ∀ i ∈ Region.ready md ops listed, wpOp P ops Q i (fun a' w' => (i < n → S w') ∧ wpAnyX P md ops Q S n fuel (listed.setIfInBounds i true) a' w') a w
theorem wpAny_of_x : ∀ (fuel : Nat) (listed : Array Bool) (a : Act) (w : World), wpAnyX P md ops Q S n fuel listed a w → wpAny P md ops Q fuel listed a w
  | 0, _, _, _, h => h
  | fuel + 1, _, _, _, h => ⟨h.1, fun i hi => wpOp_mono (fun a' w' h' => wpAny_of_x fuel _ a' w' h'.2) (h.2 i hi)⟩
/-- From n on every operation waits for i. -/
def tailB (md : Region.Mode) (ops : Array Oper) (n i : Nat) : Bool :=
  (List.range ops.size).all fun j => decide (j < n) || ((ops[j]?).map fun o => o.after.any fun e => Region.binds md e && e.on == i).getD false
theorem tail_spec {i j : Nat} {oj : Oper} (ht : tailB md ops n i = true) (hj : ops[j]? = some oj) (hno : ∀ e ∈ oj.after, Region.binds md e = true → e.on ≠ i) : j < n := by
  unfold tailB at ht
  rw [List.all_eq_true] at ht
  have hlt : j < ops.size := (Array.getElem?_eq_some_iff.1 hj).1
  have h := ht j (List.mem_range.2 hlt)
  rw [hj] at h
  simp only [Option.map_some, Option.getD_some, Bool.or_eq_true, decide_eq_true_eq] at h
  rcases h with h | h
  · exact h
  · rw [Array.any_eq_true'] at h
    obtain ⟨e, he, h2⟩ := h
    rw [Bool.and_eq_true, beq_iff_eq] at h2
    exact absurd h2.2 (hno e he h2.1)
theorem wpAnyX_first {i : Nat} {oi : Oper} {v : Value} (hi : ops[i]? = some oi) (hsel : ∀ (j : Nat) (o : Oper) cs b, ops[j]? = some o → o.op ≠ .select cs b) (ht : tailB md ops n i = true) (hin : i < n)
    (hQ : ∀ c a w, Q (.panic c) (a.put oi.dst v) w → Q (.panic c) a w) :
    ∀ (fuel : Nat) (listed : Array Bool) (a : Act) (w : World),
      (∀ j oj, ops[j]? = some oj → j ≠ i → listed.getD j true = false → (∀ e ∈ oj.after, Region.binds md e = true → e.on ≠ i) → oi.apart ops oj = true) →
      i ∈ Region.ready md ops listed → YieldsIf P ops S oi v a → S w →
      wpAnyX P md ops Q S n fuel (listed.setIfInBounds i true) (a.put oi.dst v) w → wpAnyX P md ops Q S n (fuel + 1) listed a w := by
  intro fuel
  induction fuel with
  | zero =>
    intro listed a w _ hr hy hS H
    refine ⟨fun h => (by rw [h] at hr; cases hr), fun j hj => ?_⟩
    by_cases hji : j = i
    · subst hji; exact hy.wpOp hi hS ⟨fun _ => hS, H⟩
    · have := ready_mono hj hji
      rw [H.1] at this
      cases this
  | succ fuel ih =>
    intro listed a w hfree hr hy hS H
    refine ⟨fun h => (by rw [h] at hr; cases hr), fun j hj => ?_⟩
    by_cases hji : j = i
    · subst hji; exact hy.wpOp hi hS ⟨fun _ => hS, H⟩
    · have h1 := H.2 j (ready_mono hj hji)
      obtain ⟨hjun, oj, hoj, hall⟩ := mem_ready.1 hj
      have hnot : ∀ e ∈ oj.after, Region.binds md e = true → e.on ≠ i := fun e he hb heq => by
        have h1 := hall e he hb
        have h0 := (mem_ready.1 hr).1
        rw [heq] at h1
        rcases Nat.lt_or_ge i listed.size with h' | h'
        · simp [h'] at h0 h1; rw [h0] at h1; cases h1
        · simp [Array.getElem?_eq_none h'] at h1
      have hjn : j < n := tail_spec ht hoj hnot
      have h2 := wpOp_putIf hoj (hfree j oj hoj hji hjun hnot) (fun cs b => hsel i oi cs b hi) (fun cs b => hsel j oj cs b hoj) hQ hy h1
      have hfree' : ∀ k ok, ops[k]? = some ok → k ≠ i → (listed.setIfInBounds j true).getD k true = false →
          (∀ e ∈ ok.after, Region.binds md e = true → e.on ≠ i) → oi.apart ops ok = true := fun k ok hk hki hun hno => by
        refine hfree k ok hk hki ?_ hno
        by_cases hjk : j = k
        · subst hjk; exact hjun
        · rw [getD_set_ne true hjk] at hun; exact hun
      refine wpOp_mono (fun a' w' h3 => ⟨h3.2.1, ih (listed.setIfInBounds j true) a' w' hfree' (ready_mono hr (Ne.symm hji)) h3.1 (h3.2.1 hjn) ?_⟩) h2
      rw [Array.setIfInBounds_comm _ _ hji]
      exact h3.2.2
/-- Operation i is taken first. -/
theorem wpAnyX_take (i : Nat) {oi : Oper} {v : Value} {fuel : Nat} {listed : Array Bool} {a : Act} {w : World} (hi : ops[i]? = some oi)
    (hs : Region.noSelect ops = true) (hf : Region.free md ops listed i = true) (hr : (Region.ready md ops listed).contains i = true) (ht : (tailB md ops n i && decide (i < n)) = true)
    (hQ : ∀ c a w, Q (.panic c) (a.put oi.dst v) w → Q (.panic c) a w) (hS : S w) (hy : YieldsIf P ops S oi v a)
    (h : wpAnyX P md ops Q S n fuel (listed.setIfInBounds i true) (a.put oi.dst v) w) : wpAnyX P md ops Q S n (fuel + 1) listed a w := by
  rw [Bool.and_eq_true, decide_eq_true_eq] at ht
  exact wpAnyX_first hi (Region.noSelect_spec hs) ht.1 ht.2 hQ fuel listed a w (Region.free_spec hi hf) (by simpa using hr) hy hS h
/-- One operation alone may come up. -/
theorem wpAnyX_one (i : Nat) {o : Oper} {fuel : Nat} {listed : Array Bool} {a : Act} {w : World} (hr : Region.ready md ops listed = [i]) (ho : ops[i]? = some o)
    (h : ∀ K : Act → World → Prop, (∀ a w, (i < n → S w) → wpAnyX P md ops Q S n fuel (listed.setIfInBounds i true) a w → K a w) → if Region.wanted o (yielded ops a.tmps) = true then Oper.wp P o a w K Q else K (a.put o.dst undef) w) : wpAnyX P md ops Q S n (fuel + 1) listed a w := by
  refine ⟨fun h0 => (by rw [hr] at h0; cases h0), fun j hj => ?_⟩
  rw [hr, List.mem_singleton] at hj
  subst hj
  exact wpOp_step ho fun K hK => h K fun a w h1 h2 => hK a w ⟨h1, h2⟩
theorem wpAnyX_done {listed : Array Bool} {a : Act} {w : World} (hr : Region.ready md ops listed = []) (h : Q .normal a w) :
    ∀ fuel, wpAnyX P md ops Q S n fuel listed a w
  | 0 => ⟨hr, h⟩
  | _ + 1 => ⟨fun _ => h, by rw [hr]; simp⟩
/-- A region that asks the tape. -/
theorem wp_region_x (S : World → Prop) (n : Nat) {id : Nat} {a : Act} {w : World} (hm : P.follows .mixedOrders = true)
    (h : wpAnyX P .any ops Q S n ops.size (Array.replicate ops.size false) a w.drew) : (Code.region id ops true).wp P Q a w :=
  wp_region_any hm (wpAny_of_x _ _ _ _ h)
end

/-- What is left of the inputs. -/
structure Lf where
  s : List Int
  p : List Int
  r : List Int
def Lf.get (L : Lf) (k : Int) : List Int := if k = 1 then L.s else if k = 2 then L.p else L.r
def Lf.put (L : Lf) (k : Int) (l : List Int) : Lf := if k = 1 then ⟨l, L.p, L.r⟩ else if k = 2 then ⟨L.s, l, L.r⟩ else ⟨L.s, L.p, l⟩
/-- The values that variables start with, what is left of the inputs, and whether one lay outside. -/
def startS : List Vr → Lf → List Int → Bool → Option (Lf × List Int × Bool)
  | [], L, vals, out => some (L, vals, out)
  | v :: vs, L, vals, out =>
    if v.kind = 0 then startS vs L (vals ++ [v.init]) out
    else match L.get v.kind with
      | [] => none
      | n :: rest => startS vs (L.put v.kind rest) (vals ++ [n]) (out || (decide (n < v.low) || decide (v.high < n)))
/-- The code and the values of a start. -/
def startP (vs : List Vr) (L : Lf) : Int × List Int :=
  match startS vs L [] false with
  | none => (1, [])
  | some (L', vals, out) => if L'.s ≠ [] ∨ L'.p ≠ [] ∨ L'.r ≠ [] then (1, []) else if out = true then (3, []) else (0, vals)
theorem startS_loc {v : Vr} {vs : List Vr} {L : Lf} {vals : List Int} {out : Bool} (h : v.kind = 0) : startS (v :: vs) L vals out = startS vs L (vals ++ [v.init]) out := by rw [startS, if_pos h]
theorem startS_none {v : Vr} {vs : List Vr} {L : Lf} {vals : List Int} {out : Bool} (h : v.kind ≠ 0) (hg : L.get v.kind = []) : startS (v :: vs) L vals out = none := by rw [startS, if_neg h, hg]
theorem startS_some {v : Vr} {vs : List Vr} {L : Lf} {vals : List Int} {out : Bool} {n : Int} {rest : List Int} (h : v.kind ≠ 0) (hg : L.get v.kind = n :: rest) : startS (v :: vs) L vals out = startS vs (L.put v.kind rest) (vals ++ [n]) (out || (decide (n < v.low) || decide (v.high < n))) := by rw [startS, if_neg h, hg]
theorem startS_len : ∀ (vs : List Vr) (L : Lf) (vals : List Int) (out : Bool) (L' : Lf) (vals' : List Int) (out' : Bool), startS vs L vals out = some (L', vals', out') → vals'.length = vals.length + vs.length
  | [], L, vals, out, L', vals', out', h => by
    rw [startS] at h
    injection h with h; injection h with _ h; injection h with h _
    rw [← h]; simp
  | v :: vs, L, vals, out, L', vals', out', h => by
    by_cases hk : v.kind = 0
    · rw [startS_loc hk] at h
      have := startS_len vs _ _ _ _ _ _ h
      simp only [List.length_append, List.length_cons, List.length_nil] at this ⊢
      omega
    · cases hg : L.get v.kind with
      | nil => rw [startS_none hk hg] at h; cases h
      | cons n rest =>
        rw [startS_some hk hg] at h
        have := startS_len vs _ _ _ _ _ _ h
        simp only [List.length_append, List.length_cons, List.length_nil] at this ⊢
        omega
/-- What a start says of the values: they lie in the ranges if none lay outside. -/
theorem startS_ok : ∀ (vs pre : List Vr) (L : Lf) (vals : List Int) (out : Bool) (L' : Lf) (vals' : List Int) (out' : Bool), startS vs L vals out = some (L', vals', out') → (∀ v ∈ vs, v.kind = 0 → v.low ≤ v.init ∧ v.init ≤ v.high) → vals.length = pre.length → out' = false →
    (out = false → ∀ i v, pre[i]? = some v → v.low ≤ vals.getD i 0 ∧ vals.getD i 0 ≤ v.high) → out = false ∧ ∀ i v, (pre ++ vs)[i]? = some v → v.low ≤ vals'.getD i 0 ∧ vals'.getD i 0 ≤ v.high
  | [], pre, L, vals, out, L', vals', out', h, hi, hl, ho, hp => by
    rw [startS] at h
    injection h with h; injection h with _ h; injection h with h1 h2
    subst h1 h2
    rw [List.append_nil]
    exact ⟨ho, hp ho⟩
  | v :: vs, pre, L, vals, out, L', vals', out', h, hi, hl, ho, hp => by
    have key : ∀ (n : Int) (out2 : Bool) (L2 : Lf), startS vs L2 (vals ++ [n]) out2 = some (L', vals', out') → (out2 = false → out = false ∧ v.low ≤ n ∧ n ≤ v.high) → out = false ∧ ∀ i v', (pre ++ v :: vs)[i]? = some v' → v'.low ≤ vals'.getD i 0 ∧ vals'.getD i 0 ≤ v'.high := by
      intro n out2 L2 h2 hn
      have := startS_ok vs (pre ++ [v]) L2 (vals ++ [n]) out2 L' vals' out' h2 (fun v' hv' => hi v' (List.mem_cons_of_mem _ hv')) (by simp [hl]) ho (fun ho2 i v' hiv => by
        obtain ⟨h1, h2, h3⟩ := hn ho2
        by_cases e : i < pre.length
        · rw [List.getElem?_append_left e] at hiv
          have := hp h1 i v' hiv
          rw [List.getD_eq_getElem?_getD, List.getElem?_append_left (by omega), ← List.getD_eq_getElem?_getD]
          exact this
        · rw [List.getElem?_append_right (by omega)] at hiv
          have e0 : i - pre.length = 0 := by
            rcases Nat.eq_zero_or_pos (i - pre.length) with k | k
            · exact k
            · rw [List.getElem?_eq_none (by simp; omega)] at hiv; cases hiv
          rw [e0] at hiv
          simp at hiv
          subst hiv
          rw [List.getD_eq_getElem?_getD, List.getElem?_append_right (by omega), show i - vals.length = 0 by omega]
          exact ⟨h2, h3⟩)
      refine ⟨(hn this.1).1, ?_⟩
      have h5 := this.2
      rw [List.append_assoc, List.singleton_append] at h5
      exact h5
    by_cases hk : v.kind = 0
    · rw [startS_loc hk] at h
      exact key v.init out L h (fun e => ⟨e, hi v (List.mem_cons_self ..) hk⟩)
    · cases hg : L.get v.kind with
      | nil => rw [startS_none hk hg] at h; cases h
      | cons n rest =>
        rw [startS_some hk hg] at h
        refine key n _ _ h (fun e => ?_)
        simp only [Bool.or_eq_false_iff, decide_eq_false_iff_not] at e
        exact ⟨e.1, by omega, by omega⟩
theorem varsC_init {vs : List Vr} (h : varsC vs = 0) : ∀ v ∈ vs, (0 ≤ v.kind ∧ v.kind ≤ 3) ∧ (v.kind = 0 → v.low ≤ v.init ∧ v.init ≤ v.high) := by
  intro v hv
  obtain ⟨j, hj⟩ := List.mem_iff_getElem?.1 hv
  have h0 : ∀ j, j < vs.length → varAt vs j = 0 := by
    unfold varsC at h
    by_cases e : fstC vs.length (varAt vs) = 0
    · exact fstC_all _ _ e
    · rw [if_pos e] at h; exact absurd h e
  have := h0 j (List.getElem?_eq_some_iff.1 hj).1
  unfold varAt at this
  rw [hj] at this
  have hz := varC_zero this
  exact ⟨hz.2.2.1, hz.2.2.2.2.2⟩
theorem startP_ok {vs : List Vr} {L : Lf} {vals : List Int} (hv : varsC vs = 0) (h : startP vs L = (0, vals)) : valOk vs vals := by
  unfold startP at h
  cases hs : startS vs L [] false with
  | none => rw [hs] at h; cases h
  | some x =>
    obtain ⟨L', vals', out⟩ := x
    rw [hs] at h
    simp only at h
    split at h
    · cases h
    split at h
    · cases h
    · rename_i _ ho
      injection h with _ h
      subst h
      have h1 := startS_len _ _ _ _ _ _ _ hs
      have h2 := startS_ok vs [] L [] false L' vals' out hs (fun v hm => (varsC_init hv v hm).2) rfl (by simpa using ho) (fun _ i v hi => by simp at hi)
      exact ⟨by simpa using h1, by simpa using h2.2⟩
/-- The values of hatches. -/
def hatV (vals : List Int) (hs : List Ht) : List Int := hs.map fun h => clampP (valueP vals h.t) h.low h.high
/-- A store elsewhere. -/
theorem Mk.other {E : TypeId} {B b : Nat} {a0 b0 c V : Value} {w : World} {s : Ms} (h : Mk E B b a0 b0 c V (.slice none 0 0) [] w (.slice none 0 0) s) {p : Addr} (hp : p.block ≠ b) (hv : apart V p.block) (u : Value) : Mk E B b a0 b0 c V (.slice none 0 0) [] (w.setCell p u) (.slice none 0 0) s :=
  ⟨h.lo, h.cs.other hp u, ownsRow_setCell_other h.v hv u, ownsRow_setCell_other h.h (by simp [Value.ownBlock]) u, ownsRow_setCell_other h.o (by simp [Value.ownBlock]) u, h.vp, h.hp, h.op, h.vh, h.vo, h.ho⟩
/-- A value is added to the machine that is made. -/
theorem Mk.vapp {E : TypeId} {B p : Nat} {a b c V V' H : Value} {hats : List Int} {w w1 : World} {O : Value} {s : Ms} {n : Int} (h : Mk E B p a b c V H hats w O s) (hr : w1.ownsRow B E 1 V' (s.v.length + 1) (iv s.v ++ [.int .i64 n])) (hg : w.grownBy w1 V.ownBlock) (hob : V'.ownBlock = V.ownBlock ∨ V'.ownBlock = some w.heap.size) :
    Mk E B p a b c V' H hats (w1.setCell ⟨p, 3, none⟩ V') O ⟨s.v ++ [n], s.o, s.t⟩ := by
  have hpl := h.cs.lt
  have hV' : apart V' p := by
    intro e
    rcases hob with k | k
    · exact h.vp (k ▸ e)
    · rw [k] at e; injection e with e; omega
  have far : ∀ (X : Value) (xs : List Value) (m : Nat), w.ownsRow B E 1 X m xs → (V.ownBlock = none ∨ V.ownBlock ≠ X.ownBlock) → (V'.ownBlock = none ∨ V'.ownBlock ≠ X.ownBlock) := by
    intro X xs m hX hx
    rcases hob with k | k
    · rw [k]; exact hx
    · rw [k]
      refine .inr fun e => ?_
      have := (hX.lt _ e.symm).2
      omega
  have kept : ∀ (X : Value) (xs : List Value) (m : Nat), w.ownsRow B E 1 X m xs → (V.ownBlock = none ∨ V.ownBlock ≠ X.ownBlock) → w1.ownsRow B E 1 X m xs := by
    intro X xs m hX hx
    refine hX.kept hg ?_
    rcases hx with k | k
    · rw [k]
      cases hX' : X.ownBlock with
      | none => exact .inl rfl
      | some g => exact .inr (by simp)
    · exact .inr (Ne.symm k)
  have hcs : Cs w1 p [a, b, c, V, H, O, .int .i64 s.t] := h.cs.fr (Fr.of_grown hg) h.vp
  refine ⟨h.lo, by have := hcs.set 3 V' (by simp); simpa using this, ownsRow_setCell_other (a := ⟨p, 3, none⟩) ?_ hV' _, ownsRow_setCell_other (a := ⟨p, 3, none⟩) (kept H _ _ h.h h.vh) h.hp _, ownsRow_setCell_other (a := ⟨p, 3, none⟩) (kept O _ _ h.o h.vo) h.op _, hV', h.hp, h.op, far H _ _ h.h h.vh, far O _ _ h.o h.vo, h.ho⟩
  show World.ownsRow _ B E 1 _ (s.v ++ [n]).length (iv (s.v ++ [n]))
  rw [List.length_append, List.length_singleton, iv_app]
  exact hr
/-- A hatch's value is added to the machine that is made. -/
theorem Mk.happ {E : TypeId} {B p : Nat} {a b c V H H' : Value} {hats : List Int} {w w1 : World} {O : Value} {s : Ms} {n : Int} (h : Mk E B p a b c V H hats w O s) (hr : w1.ownsRow B E 1 H' (hats.length + 1) (iv hats ++ [.int .i64 n])) (hg : w.grownBy w1 H.ownBlock) (hob : H'.ownBlock = H.ownBlock ∨ H'.ownBlock = some w.heap.size) :
    Mk E B p a b c V H' (hats ++ [n]) (w1.setCell ⟨p, 4, none⟩ H') O s := by
  have hpl := h.cs.lt
  have hH' : apart H' p := by
    intro e
    rcases hob with k | k
    · exact h.hp (k ▸ e)
    · rw [k] at e; injection e with e; omega
  have kept : ∀ (X : Value) (xs : List Value) (m : Nat), w.ownsRow B E 1 X m xs → (H.ownBlock = none ∨ H.ownBlock ≠ X.ownBlock) → w1.ownsRow B E 1 X m xs := by
    intro X xs m hX hx
    refine hX.kept hg ?_
    rcases hx with k | k
    · rw [k]
      cases hX' : X.ownBlock with
      | none => exact .inl rfl
      | some g => exact .inr (by simp)
    · exact .inr (Ne.symm k)
  have swap : ∀ X Y : Value, (X.ownBlock = none ∨ X.ownBlock ≠ Y.ownBlock) → (Y.ownBlock = none ∨ Y.ownBlock ≠ X.ownBlock) := by
    intro X Y hx
    rcases hx with k | k
    · rw [k]; cases Y.ownBlock with
      | none => exact .inl rfl
      | some g => exact .inr (by simp)
    · exact .inr (Ne.symm k)
  have far : ∀ (X : Value) (xs : List Value) (m : Nat), w.ownsRow B E 1 X m xs → (H.ownBlock = none ∨ H.ownBlock ≠ X.ownBlock) → (H'.ownBlock = none ∨ H'.ownBlock ≠ X.ownBlock) := by
    intro X xs m hX hx
    rcases hob with k | k
    · rw [k]; exact hx
    · rw [k]
      refine .inr fun e => ?_
      have := (hX.lt _ e.symm).2
      omega
  have hcs : Cs w1 p [a, b, c, V, H, O, .int .i64 s.t] := h.cs.fr (Fr.of_grown hg) h.hp
  refine ⟨h.lo, by have := hcs.set 4 H' (by simp); simpa using this, ownsRow_setCell_other (a := ⟨p, 4, none⟩) (kept V _ _ h.v (swap _ _ h.vh)) h.vp _, ownsRow_setCell_other (a := ⟨p, 4, none⟩) ?_ hH' _, ownsRow_setCell_other (a := ⟨p, 4, none⟩) (kept O _ _ h.o h.ho) h.op _, h.vp, hH', h.op, swap _ _ (far V _ _ h.v (swap _ _ h.vh)), h.vo, far O _ _ h.o h.ho⟩
  show World.ownsRow _ B E 1 _ (hats ++ [n]).length (iv (hats ++ [n]))
  rw [List.length_append, List.length_singleton, iv_app]
  exact hr
end Go.Proofs.YtjpjmoejdkmglaaGreat
