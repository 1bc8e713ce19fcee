/-
  Regions that draw their order: an operation may wait for another by way of a third; no program is in sight here.
  The walk over the reference's Without.
-/
import Derived.Test.YtjpjmoejdkmglaaJG
import Derived.Test.YtjpjmoejdkmglaaJK
import Derived.Test.YtjpjmoejdkmglaaJN
namespace Go.Proofs.Ytjpjmoejdkmglaa
open Go Go.RowKit

section
variable {P : Program} {md : Region.Mode} {ops : Array Oper} {Q : Exit → Act → World → Prop} {S : World → Prop} {n : Nat}

/-- Operation j waits for i, directly or by others. -/
def reachB (md : Region.Mode) (ops : Array Oper) : Nat → Nat → Nat → Bool
  | 0, _, _ => false
  | fuel + 1, j, i => ((ops[j]?).map fun o => o.after.any fun e => Region.binds md e && (e.on == i || reachB md ops fuel e.on i)).getD false
/-- What has been listed has all that it waits for listed. -/
def closedB (md : Region.Mode) (ops : Array Oper) (listed : Array Bool) : Bool :=
  (List.range ops.size).all fun j => !(listed.getD j true) || ((ops[j]?).map fun o => o.after.all fun e => !(Region.binds md e) || listed.getD e.on true).getD true
def Closed (md : Region.Mode) (ops : Array Oper) (listed : Array Bool) : Prop := ∀ (j : Nat) (oj : Oper), ops[j]? = some oj → listed.getD j true = true → ∀ e ∈ oj.after, Region.binds md e = true → listed.getD e.on true = true
theorem closed_spec {listed : Array Bool} (h : closedB md ops listed = true) : Closed md ops listed := fun j oj hj hl e he hb => by
  unfold closedB at h
  rw [List.all_eq_true] at h
  have := h j (List.mem_range.2 (Array.getElem?_eq_some_iff.1 hj).1)
  rw [hj, hl] at this
  simp only [Bool.not_true, Option.map_some, Option.getD_some, Bool.false_or] at this
  rw [Array.all_eq_true'] at this
  have := this e he
  rw [hb] at this
  simpa using this
theorem reach_listed {listed : Array Bool} (hc : Closed md ops listed) : ∀ (fuel j i : Nat), listed.getD j true = true → reachB md ops fuel j i = true → listed.getD i true = true
  | 0, _, _, _, h => by simp [reachB] at h
  | fuel + 1, j, i, hl, h => by
    unfold reachB at h
    cases ho : ops[j]? with
    | none => rw [ho] at h; simp at h
    | some oj =>
      rw [ho] at h
      simp only [Option.map_some, Option.getD_some] at h
      rw [Array.any_eq_true'] at h
      obtain ⟨e, he, h2⟩ := h
      rw [Bool.and_eq_true, Bool.or_eq_true, beq_iff_eq] at h2
      have hl2 := hc j oj ho hl e he h2.1
      rcases h2.2 with h3 | h3
      · rw [← h3]; exact hl2
      · exact reach_listed hc fuel e.on i hl2 h3
/-- From n on every operation waits for i. -/
def tailT (md : Region.Mode) (ops : Array Oper) (n i : Nat) : Bool := (List.range ops.size).all fun j => decide (j < n) || reachB md ops ops.size j i
theorem tailT_spec {listed : Array Bool} {i j : Nat} {oj : Oper} (hc : Closed md ops listed) (ht : tailT md ops n i = true) (hj : ops[j]? = some oj) (hr : ∀ e ∈ oj.after, Region.binds md e = true → listed.getD e.on true = true) (hi : listed.getD i true = false) : j < n := by
  unfold tailT at ht
  rw [List.all_eq_true] at ht
  have hlt : j < ops.size := (Array.getElem?_eq_some_iff.1 hj).1
  have h := ht j (List.mem_range.2 hlt)
  rw [Bool.or_eq_true, decide_eq_true_eq] at h
  rcases h with h | h
  · exact h
  · exfalso
    cases hs : ops.size with
    | zero => omega
    | succ fuel =>
      rw [hs] at h
      unfold reachB at h
      rw [hj] at h
      simp only [Option.map_some, Option.getD_some] at h
      rw [Array.any_eq_true'] at h
      obtain ⟨e, he, h2⟩ := h
      rw [Bool.and_eq_true, Bool.or_eq_true, beq_iff_eq] at h2
      have hl2 := hr e he h2.1
      have : listed.getD i true = true := by
        rcases h2.2 with h3 | h3
        · rw [← h3]; exact hl2
        · exact reach_listed hc fuel e.on i hl2 h3
      rw [hi] at this
      cases this
theorem Closed.set {listed : Array Bool} (hc : Closed md ops listed) {j : Nat} {oj : Oper} (hj : ops[j]? = some oj) (hr : ∀ e ∈ oj.after, Region.binds md e = true → listed.getD e.on true = true) : Closed md ops (listed.setIfInBounds j true) := by
  have mono : ∀ k, listed.getD k true = true → (listed.setIfInBounds j true).getD k true = true := fun k hk => by
    by_cases h : j = k
    · subst h
      rcases Nat.lt_or_ge j listed.size with h' | h'
      · simp [h']
      · simp [Nat.not_lt.2 h']
    · rw [getD_set_ne true h]; exact hk
  intro k ok hk hl e he hb
  by_cases h : j = k
  · subst h
    rw [hj] at hk
    cases hk
    exact mono _ (hr e he hb)
  · rw [getD_set_ne true h] at hl
    exact mono _ (hc k ok hk hl e he hb)
theorem wpAnyX_firstT {i : Nat} {oi : Oper} {v : Value} (hi : ops[i]? = some oi) (hsel : ∀ (j : Nat) (o : Oper) cs b, ops[j]? = some o → o.op ≠ .select cs b) (ht : tailT md ops n i = true) (hin : i < n)
    (hQ : ∀ c a w, Q (.panic c) (a.put oi.dst v) w → Q (.panic c) a w) :
    ∀ (fuel : Nat) (listed : Array Bool) (a : Act) (w : World), Closed md ops listed →
      (∀ j oj, ops[j]? = some oj → j ≠ i → listed.getD j true = false → (∀ e ∈ oj.after, Region.binds md e = true → e.on ≠ i) → oi.apart ops oj = true) →
      i ∈ Region.ready md ops listed → YieldsIf P ops S oi v a → S w →
      wpAnyX P md ops Q S n fuel (listed.setIfInBounds i true) (a.put oi.dst v) w → wpAnyX P md ops Q S n (fuel + 1) listed a w := by
  intro fuel
  induction fuel with
  | zero =>
    intro listed a w _ _ hr hy hS H
    refine ⟨fun h => (by rw [h] at hr; cases hr), fun j hj => ?_⟩
    by_cases hji : j = i
    · subst hji; exact hy.wpOp hi hS ⟨fun _ => hS, H⟩
    · have := ready_mono hj hji
      rw [H.1] at this
      cases this
  | succ fuel ih =>
    intro listed a w hcl hfree hr hy hS H
    refine ⟨fun h => (by rw [h] at hr; cases hr), fun j hj => ?_⟩
    by_cases hji : j = i
    · subst hji; exact hy.wpOp hi hS ⟨fun _ => hS, H⟩
    · have h1 := H.2 j (ready_mono hj hji)
      obtain ⟨hjun, oj, hoj, hall⟩ := mem_ready.1 hj
      have hun : listed.getD i true = false := (mem_ready.1 hr).1
      have hnot : ∀ e ∈ oj.after, Region.binds md e = true → e.on ≠ i := fun e he hb heq => by
        have h1 := hall e he hb
        have h0 := (mem_ready.1 hr).1
        rw [heq] at h1
        rcases Nat.lt_or_ge i listed.size with h' | h'
        · simp [h'] at h0 h1; rw [h0] at h1; cases h1
        · simp [Array.getElem?_eq_none h'] at h1
      have hbind : ∀ e ∈ oj.after, Region.binds md e = true → listed.getD e.on true = true := fun e he hb => by
        have h1 := hall e he hb
        rw [Array.getD_eq_getD_getElem?]
        rw [Array.getD_eq_getD_getElem?] at h1
        rcases Nat.lt_or_ge e.on listed.size with h' | h'
        · simp [h'] at h1 ⊢; exact h1
        · simp [Array.getElem?_eq_none h'] at h1
      have hjn : j < n := tailT_spec hcl ht hoj hbind hun
      have h2 := wpOp_putIf hoj (hfree j oj hoj hji hjun hnot) (fun cs b => hsel i oi cs b hi) (fun cs b => hsel j oj cs b hoj) hQ hy h1
      have hfree' : ∀ k ok, ops[k]? = some ok → k ≠ i → (listed.setIfInBounds j true).getD k true = false →
          (∀ e ∈ ok.after, Region.binds md e = true → e.on ≠ i) → oi.apart ops ok = true := fun k ok hk hki hun hno => by
        refine hfree k ok hk hki ?_ hno
        by_cases hjk : j = k
        · subst hjk; exact hjun
        · rw [getD_set_ne true hjk] at hun; exact hun
      refine wpOp_mono (fun a' w' h3 => ⟨h3.2.1, ih (listed.setIfInBounds j true) a' w' (hcl.set hoj hbind) hfree' (ready_mono hr (Ne.symm hji)) h3.1 (h3.2.1 hjn) ?_⟩) h2
      rw [Array.setIfInBounds_comm _ _ hji]
      exact h3.2.2
/-- Operation i is taken first. -/
theorem wpAnyX_takeT (i : Nat) {oi : Oper} {v : Value} {fuel : Nat} {listed : Array Bool} {a : Act} {w : World} (hi : ops[i]? = some oi)
    (hs : Region.noSelect ops = true) (hf : Region.free md ops listed i = true) (hr : (Region.ready md ops listed).contains i = true) (ht : (tailT md ops n i && decide (i < n) && closedB md ops listed) = true)
    (hQ : ∀ c a w, Q (.panic c) (a.put oi.dst v) w → Q (.panic c) a w) (hS : S w) (hy : YieldsIf P ops S oi v a)
    (h : wpAnyX P md ops Q S n fuel (listed.setIfInBounds i true) (a.put oi.dst v) w) : wpAnyX P md ops Q S n (fuel + 1) listed a w := by
  rw [Bool.and_eq_true, Bool.and_eq_true, decide_eq_true_eq] at ht
  exact wpAnyX_firstT hi (Region.noSelect_spec hs) ht.1.1 ht.1.2 hQ fuel listed a w (closed_spec ht.2) (Region.free_spec hi hf) (by simpa using hr) hy hS h
end

/-- Where a round of the reference's Without stands: the step's copy is in block q. -/
structure Ro (E : TypeId) (w0 w : World) (q : Nat) (V : Value) (k : Nat) (xs : List Value) (done : List Sp) (d x1 v n o tn : Int) (At : Option Addr) (lt ct : Nat) (tk : List Tm) (A6 : Option Addr) (l6 c6 : Nat) (th6 : List Sp) (A7 : Option Addr) (l7 c7 : Nat) (el7 : List Sp) (Ab : Option Addr) (lb cb : Nat) (bs : List Int) (W : World) : Prop where
  below0 : Below w0.heap.size w0 W
  below : Below w.heap.size w W
  lo : w0.heap.size ≤ w.heap.size
  qlo : w.heap.size ≤ q
  row : W.ownsRow w.heap.size E 10 V k xs
  rlt : ∀ g, V.ownBlock = some g → g < q
  rows : SRow (fun b => (b < w0.heap.size ∨ w.heap.size ≤ b) ∧ V.ownBlock ≠ some b ∧ b < q) W xs done
  s : Cs W q [.int .i64 d, .int .i64 x1, .int .i64 v, .int .i64 n, .int .i64 o, .int .i64 tn, .slice At lt ct, .slice A6 l6 c6, .slice A7 l7 c7, .slice Ab lb cb]
  len : tk.length = lt ∧ bs.length = lb
  len6 : th6.length = l6
  len7 : el7.length = l7
  tk5 : TOkN (fun b => b < w0.heap.size ∨ (w.heap.size ≤ b ∧ q < b)) W At ct tk
  s6 : SOkN (fun b => b < w0.heap.size ∨ (w.heap.size ≤ b ∧ q < b)) W A6 c6 th6
  s7 : SOkN (fun b => b < w0.heap.size ∨ (w.heap.size ≤ b ∧ q < b)) W A7 c7 el7
  z8 : ZsN (fun b => b < w0.heap.size ∨ (w.heap.size ≤ b ∧ q < b)) W Ab lb cb bs
theorem Ro.next {E : TypeId} {w0 w : World} {q : Nat} {V : Value} {k : Nat} {xs : List Value} {done : List Sp} {d x1 v n o tn : Int} {At : Option Addr} {lt ct : Nat} {tk : List Tm} {A6 : Option Addr} {l6 c6 : Nat} {th6 : List Sp} {A7 : Option Addr} {l7 c7 : Nat} {el7 : List Sp} {Ab : Option Addr} {lb cb : Nat} {bs : List Int} {W W' : World} (h : Ro E w0 w q V k xs done d x1 v n o tn At lt ct tk A6 l6 c6 th6 A7 l7 c7 el7 Ab lb cb bs W) (hb : Below W.heap.size W W') : Ro E w0 w q V k xs done d x1 v n o tn At lt ct tk A6 l6 c6 th6 A7 l7 c7 el7 Ab lb cb bs W' :=
  ⟨h.below0.trans (hb.mono h.below0.size), h.below.trans (hb.mono h.below.size), h.lo, h.qlo, own_below h.row hb, h.rlt, SRow.to (Keeps.below hb) _ _ h.rows, h.s.next hb, h.len, h.len6, h.len7, h.tk5.to (Keeps.below hb), h.s6.to (Keeps.below hb), h.s7.to (Keeps.below hb), h.z8.to (Keeps.below hb)⟩
theorem Ro.put {E : TypeId} {w0 w : World} {q : Nat} {V : Value} {k : Nat} {xs : List Value} {done : List Sp} {d x1 v n o tn : Int} {At : Option Addr} {lt ct : Nat} {tk : List Tm} {A6 : Option Addr} {l6 c6 : Nat} {th6 : List Sp} {A7 : Option Addr} {l7 c7 : Nat} {el7 : List Sp} {Ab : Option Addr} {lb cb : Nat} {bs : List Int} {W : World} (h : Ro E w0 w q V k xs done d x1 v n o tn At lt ct tk A6 l6 c6 th6 A7 l7 c7 el7 Ab lb cb bs W) {A8 A9 : Option Addr} {l8 c8 l9 c9 : Nat} {th8 el9 : List Sp} (h8 : th8.length = l8) (h9 : el9.length = l9) (hs8 : SOkN (fun b => b < w0.heap.size ∨ (w.heap.size ≤ b ∧ q < b)) W A8 c8 th8) (hs9 : SOkN (fun b => b < w0.heap.size ∨ (w.heap.size ≤ b ∧ q < b)) W A9 c9 el9) :
    Ro E w0 w q V k xs done d x1 v n o tn At lt ct tk A8 l8 c8 th8 A9 l9 c9 el9 Ab lb cb bs ((W.setCell ⟨q, 7, none⟩ (.slice A8 l8 c8)).setCell ⟨q, 8, none⟩ (.slice A9 l9 c9)) := by
  have hne : ¬ V.ownBlock = some q := fun e => by have := h.rlt q e; omega
  have kp : ∀ (S : Nat → Prop), (∀ b, S b → q ≠ b) → Keeps S S W ((W.setCell ⟨q, 7, none⟩ (.slice A8 l8 c8)).setCell ⟨q, 8, none⟩ (.slice A9 l9 c9)) := fun S hs => (keeps_set (p := ⟨q, 7, none⟩) _ hs).trans (keeps_set (p := ⟨q, 8, none⟩) _ hs)
  have k5 := kp (fun b => b < w0.heap.size ∨ (w.heap.size ≤ b ∧ q < b)) (fun b hb => by have := h.lo; have := h.qlo; omega)
  have kr := kp (fun b => (b < w0.heap.size ∨ w.heap.size ≤ b) ∧ V.ownBlock ≠ some b ∧ b < q) (fun b hb => by omega)
  have h0 : w0.heap.size ≤ q := Nat.le_trans h.lo h.qlo
  exact ⟨(h.below0.setCell (p := ⟨q, 7, none⟩) h0 _).setCell (p := ⟨q, 8, none⟩) h0 _, (h.below.setCell (p := ⟨q, 7, none⟩) h.qlo _).setCell (p := ⟨q, 8, none⟩) h.qlo _, h.lo, h.qlo, ownsRow_setCell_other (a := ⟨q, 8, none⟩) (ownsRow_setCell_other (a := ⟨q, 7, none⟩) h.row hne _) hne _, h.rlt, SRow.to kr _ _ h.rows, (h.s.set 7 _ (by simp)).set 8 _ (by simp), h.len, h8, h9, h.tk5.to k5, hs8.to k5, hs9.to k5, h.z8.to k5⟩
/-- The step is put to the row. -/
theorem Ro.grown {E : TypeId} {w0 w : World} {q : Nat} {V : Value} {k : Nat} {xs : List Value} {done : List Sp} {d x1 v n o tn : Int} {At : Option Addr} {lt ct : Nat} {tk : List Tm} {A6 : Option Addr} {l6 c6 : Nat} {th6 : List Sp} {A7 : Option Addr} {l7 c7 : Nat} {el7 : List Sp} {Ab : Option Addr} {lb cb : Nat} {bs : List Int} {W W' : World} {gg cap : Nat} (h : Ro E w0 w q V k xs done d x1 v n o tn At lt ct tk A6 l6 c6 th6 A7 l7 c7 el7 Ab lb cb bs W) (hg : (W.alloc (.cells #[.int .i64 d, .int .i64 x1, .int .i64 v, .int .i64 n, .int .i64 o, .int .i64 tn, .slice At lt ct, .slice A6 l6 c6, .slice A7 l7 c7, .slice Ab lb cb] E)).grownBy W' V.ownBlock) (hat : V.ownBlock = some gg ∨ gg = W.heap.size + 1) :
    Below w0.heap.size w0 W' ∧ Below w.heap.size w W' ∧ SRow (fun b => (b < w0.heap.size ∨ w.heap.size ≤ b) ∧ (Value.slice (some ⟨gg, 0, none⟩) (k + 1) cap).ownBlock ≠ some b) W' (xs ++ [.int .i64 d, .int .i64 x1, .int .i64 v, .int .i64 n, .int .i64 o, .int .i64 tn, .slice At lt ct, .slice A6 l6 c6, .slice A7 l7 c7, .slice Ab lb cb]) (done ++ [Sp.mk d x1 v n (.mk o tn tk) th6 el7 bs]) := by
  have hba := (Below.refl W.heap.size W).alloc (Nat.le_refl _) (.cells #[.int .i64 d, .int .i64 x1, .int .i64 v, .int .i64 n, .int .i64 o, .int .i64 tn, .slice At lt ct, .slice A6 l6 c6, .slice A7 l7 c7, .slice Ab lb cb] E)
  have h2 := h.next hba
  have hsv : SValN (fun b => b < w0.heap.size ∨ (w.heap.size ≤ b ∧ q < b)) (W.alloc (.cells #[.int .i64 d, .int .i64 x1, .int .i64 v, .int .i64 n, .int .i64 o, .int .i64 tn, .slice At lt ct, .slice A6 l6 c6, .slice A7 l7 c7, .slice Ab lb cb] E)) (.mk d x1 v n (.mk o tn tk) th6 el7 bs) (.agg #[.int .i64 d, .int .i64 x1, .int .i64 v, .int .i64 n, .int .i64 o, .int .i64 tn, .slice At lt ct, .slice A6 l6 c6, .slice A7 l7 c7, .slice Ab lb cb]) := ⟨d, x1, v, n, o, tn, tk, th6, el7, bs, At, ct, A6, c6, A7, c7, Ab, cb, rfl, by rw [h.len.1, h.len.2, h.len6, h.len7], h2.tk5, h2.s6, h2.s7, by rw [h.len.2]; exact h2.z8⟩
  have hkp : Keeps (fun b => b < w0.heap.size ∨ (w.heap.size ≤ b ∧ q < b)) (fun b => (b < w0.heap.size ∨ w.heap.size ≤ b) ∧ V.ownBlock ≠ some b) (W.alloc (.cells #[.int .i64 d, .int .i64 x1, .int .i64 v, .int .i64 n, .int .i64 o, .int .i64 tn, .slice At lt ct, .slice A6 l6 c6, .slice A7 l7 c7, .slice Ab lb cb] E)) (W.alloc (.cells #[.int .i64 d, .int .i64 x1, .int .i64 v, .int .i64 n, .int .i64 o, .int .i64 tn, .slice At lt ct, .slice A6 l6 c6, .slice A7 l7 c7, .slice Ab lb cb] E)) := Keeps.mono fun b _ hb => ⟨by omega, fun e => by have := h.rlt b e; have := (h.row.lt b e).1; have := h.lo; omega⟩
  have hkr : Keeps (fun b => (b < w0.heap.size ∨ w.heap.size ≤ b) ∧ V.ownBlock ≠ some b ∧ b < q) (fun b => (b < w0.heap.size ∨ w.heap.size ≤ b) ∧ V.ownBlock ≠ some b) (W.alloc (.cells #[.int .i64 d, .int .i64 x1, .int .i64 v, .int .i64 n, .int .i64 o, .int .i64 tn, .slice At lt ct, .slice A6 l6 c6, .slice A7 l7 c7, .slice Ab lb cb] E)) (W.alloc (.cells #[.int .i64 d, .int .i64 x1, .int .i64 v, .int .i64 n, .int .i64 o, .int .i64 tn, .slice At lt ct, .slice A6 l6 c6, .slice A7 l7 c7, .slice Ab lb cb] E)) := Keeps.mono fun b _ hb => ⟨hb.1, hb.2.1⟩
  have hfb : ∀ b, V.ownBlock = some b → w.heap.size ≤ b := fun b hb => (h2.row.lt b hb).1
  refine ⟨(Fr.of_grown hg).below h2.below0 (fun b hb => Nat.le_trans h.lo (hfb b hb)) h2.below0.size, (Fr.of_grown hg).below h2.below hfb h2.below.size, SRow.to (keeps_grown hg (hat.imp (fun e => by rw [e]; rfl) (fun e g he => ?_))) _ _ (SRow.snoc (cs := [.int .i64 d, .int .i64 x1, .int .i64 v, .int .i64 n, .int .i64 o, .int .i64 tn, .slice At lt ct, .slice A6 l6 c6, .slice A7 l7 c7, .slice Ab lb cb]) rfl (hsv.to hkp) _ _ (SRow.to hkr _ _ h2.rows))⟩
  rw [e] at he
  simp [Value.ownBlock] at he
  rw [World.size_alloc]
  omega

set_option maxRecDepth 100000 in
set_option maxHeartbeats 16000000 in
theorem rwithout_any (m : Nat) : (∀ (ks : List Sp) (l : Nat) (A : Option Addr) (c : Nat) (i : Int) (w0 w : World), ks.length = l → Sp.cntL ks ≤ m → Sp.cntL ks ≤ 1000000 → SOk w0 A c ks → Below w0.heap.size w0 w → -1000000 ≤ i → i ≤ 1000000 → Calls Try.prog 33 #[.slice A l c, .int .i64 i] w fun e w' => ∃ A' l' c', e = .returned (.slice A' l' c') ∧ (woL ks i).length = l' ∧ SOkN (fun b => b < w0.heap.size ∨ w.heap.size ≤ b) w' A' c' (woL ks i) ∧ Below w.heap.size w w') := by
  induction m with
  | zero =>
    intro ks l A c i w0 w hl hm hm6 ht h0 hi0 hi1
    have hk : ks = [] := by
      cases ks with
      | nil => rfl
      | cons k ks => have := Sp.cnt_pos k; simp only [Sp.cntL] at hm; omega
    subst hk
    have hl0 : l = 0 := hl.symm
    subst hl0
    have HB := Lib.hid ((Below.refl w.heap.size w).alloc (Nat.le_refl _) (.cells #[] 53))
    clear ht hi0 hi1 h0
    go_enter Try.func33, Try.ntmps33
    go_wp2_with fail
    go_loopw [1, 5, 6, 7, 9] (fun a u v _ _ wr => a = .int .i64 i ∧ u = .slice (some ⟨w.heap.size, 0, none⟩) 0 0 ∧ v = .int .i64 0 ∧ wr = w.alloc (.cells #[] 53)) (fun _ _ _ _ _ _ => 0)
    case atStart => exact ⟨rfl, rfl, rfl, rfl⟩
    case round =>
      obtain ⟨rfl, rfl, rfl, rfl⟩ := hrel
      go_wp2_with fail
      go_ret
      exact ⟨some ⟨w.heap.size, 0, none⟩, 0, 0, rfl, by rw [woL]; rfl, ⟨by rw [woL]; exact Nat.le_refl _, Nat.zero_le _, by rw [woL]; simp [SdN]⟩, HB.out⟩
  | succ m ih =>
    intro ks l A c i w0 w hl hm hm6 ht h0 hi0 hi1
    have IH := Lib.hid ih
    have HL := Lib.hid hl
    have HM := Lib.hid hm
    have HM6 := Lib.hid hm6
    have HT := Lib.hid ht
    have HLO := Lib.hid h0.size
    have hlm : l ≤ 1000000 := by have := Sp.len_cntL ks; omega
    obtain ⟨i0, hq0, hz0, hz1, hz2⟩ := info_parts infoP
    have HI := Lib.hid (And.intro hq0 (And.intro hz0 (And.intro hz1 hz2)))
    have HQ0 : Hid (woL ks i = [] ++ woL (ks.drop 0) i) := Lib.hid (by rw [List.drop_zero]; rfl)
    have HJB0 : Hid (-2000000 ≤ i - (sizeL (ks.drop 0) : Nat) ∧ i ≤ 1000000) := Lib.hid (by rw [List.drop_zero]; have := sizeL_cnt ks; omega)
    have hba := (Below.refl w.heap.size w).alloc (Nat.le_refl _) (.cells #[] 53)
    have HB0 := Lib.hid (h0.trans (hba.mono h0.size))
    have HB1 := Lib.hid hba
    have HW0 : Hid ((w.alloc (.cells #[] 53)).ownsRow w.heap.size 53 10 (.slice (some ⟨w.heap.size, 0, none⟩) 0 0) 0 []) := Lib.hid (World.ownsRow_made w #[] 0 (Nat.le_refl _) (Nat.zero_le _) rfl)
    clear ih hl hm hm6 ht hq0 hz0 hz1 hz2 hi0 hi1 h0 hba
    go_enter Try.func33, Try.ntmps33
    go_upto_region 2 with fail
    obtain ⟨w1, hw1⟩ : ∃ w1, w.alloc (.cells #[] 53) = w1 := ⟨_, rfl⟩
    rw [hw1] at HB0 HB1 HW0
    rw [hw1]
    clear hw1
    go_wp2_with fail
    go_loopw [1, 5, 6, 7, 9] (fun a u t _ _ wr => ∃ (k kk : Nat) (j : Int) (A2 : Option Addr) (c2 : Nat) (xs : List Value) (done : List Sp), k ≤ l ∧ kk ≤ k ∧ a = .int .i64 j ∧ u = .slice A2 kk c2 ∧ t = .int .i64 k ∧ Hid (woL ks i = done ++ woL (ks.drop k) j) ∧ Hid (done.length = kk) ∧ Hid (-2000000 ≤ j - (sizeL (ks.drop k) : Nat) ∧ j ≤ 1000000) ∧ Hid (Below w0.heap.size w0 wr) ∧ Hid (Below w.heap.size w wr) ∧ Hid (wr.ownsRow w.heap.size 53 10 (.slice A2 kk c2) kk xs) ∧ Hid (SRow (fun b => (b < w0.heap.size ∨ w.heap.size ≤ b) ∧ (Value.slice A2 kk c2).ownBlock ≠ some b) wr xs done)) (fun _ _ t _ _ _ => l - (intOf t).toNat)
    case atStart => exact ⟨0, 0, i, _, 0, [], [], by omega, by omega, rfl, rfl, rfl, HQ0, rfl, HJB0, HB0, HB1, HW0, Lib.hid rfl⟩
    case round =>
      clear HQ0 HJB0 HB0 HB1 HW0
      obtain ⟨k, kk, j, A2, c2, xs, done, hk, hkk, rfl, rfl, rfl, HQ, HDL, HJB, HB0, HB, HW, HX⟩ := hrel
      by_cases hlt : k < l
      · have hkl : k < ks.length := by rw [HL.out]; exact hlt
        have hlt' : (k : Int) < (l : Int) := by omega
        have hk0 : (0 : Int) ≤ (k : Int) := by omega
        obtain ⟨d, x1, v, n, o, tn, tk, th, el, bs, g, f, At, ct, Ah, ch, Ae, ce, Ab, cb, hkid, hA, hg, hsc, htok, hth, hel, hbs⟩ := (HT.out).step k hkl
        subst hA
        obtain ⟨lt, hlt1⟩ : ∃ l, tk.length = l := ⟨_, rfl⟩
        obtain ⟨lh, hlh⟩ : ∃ l, th.length = l := ⟨_, rfl⟩
        obtain ⟨le, hle⟩ : ∃ l, el.length = l := ⟨_, rfl⟩
        obtain ⟨lb, hlb⟩ : ∃ l, bs.length = l := ⟨_, rfl⟩
        rw [hlt1, hlh, hle, hlb] at hsc
        rw [hlb] at hbs
        have hdr : ks.drop k = .mk d x1 v n (.mk o tn tk) th el bs :: ks.drop (k + 1) := by rw [List.drop_eq_getElem_cons hkl, hkid]
        have hcm : 1 + Tm.cnt (.mk o tn tk) + Sp.cntL th + Sp.cntL el ≤ m + 1 := by
          have := Sp.cntL_get ks k hkl
          rw [hkid] at this
          simp only [Sp.cnt] at this
          have := HM.out
          omega
        have HLT := Lib.hid hlt1
        have HLH := Lib.hid hlh
        have HLE := Lib.hid hle
        have HLB := Lib.hid hlb
        have HCM := Lib.hid hcm
        obtain ⟨c0, c1, c2_, c3, c4, c5, c6, c7, c8, c9⟩ := hsc
        have HKID := Lib.hid hkid
        have HSC : Hid (SCell w0 g (f + k * 10) d x1 v n o tn At lt ct Ah lh ch Ae le ce Ab lb cb) := Lib.hid ⟨c0, c1, c2_, c3, c4, c5, c6, c7, c8, c9⟩
        have HG := Lib.hid hg
        have HSM : Hid (Sp.cntL th ≤ 1000000 ∧ Sp.cntL el ≤ 1000000 ∧ Sp.cntL th ≤ m ∧ Sp.cntL el ≤ m) := Lib.hid (by
          have h1 := Sp.cntL_get ks k hkl
          rw [hkid] at h1
          simp only [Sp.cnt] at h1
          have h3 := HM6.out
          have h4 := Tm.cnt_pos (.mk o tn tk)
          omega)
        obtain ⟨z2, hz2⟩ : ∃ z, sizeL th = z := ⟨_, rfl⟩
        obtain ⟨z3, hz3⟩ : ∃ z, sizeL el = z := ⟨_, rfl⟩
        have HZ2 := Lib.hid hz2
        have HZ3 := Lib.hid hz3
        have hsd : sizeL (ks.drop k) = 1 + (z2 + z3) + sizeL (ks.drop (k + 1)) := by rw [hdr, sizeL, sizeO, hz2, hz3]
        have hjb := HJB.out
        rw [hsd] at hjb
        have hza : z2 ≤ 1000000 := by rw [← hz2]; exact Nat.le_trans (sizeL_cnt th) HSM.out.1
        have hzc : z3 ≤ 1000000 := by rw [← hz3]; exact Nat.le_trans (sizeL_cnt el) HSM.out.2.1
        obtain ⟨j1, hj1⟩ : ∃ x : Int, x = j - 1 := ⟨_, rfl⟩
        obtain ⟨j2, hj2⟩ : ∃ x : Int, x = j1 - (z2 : Int) := ⟨_, rfl⟩
        obtain ⟨nn, hnn⟩ : ∃ x : Int, x = 1 + (z2 : Int) + (z3 : Int) := ⟨_, rfl⟩
        obtain ⟨j3, hj3⟩ : ∃ x : Int, x = j - nn := ⟨_, rfl⟩
        have HJB3 : Hid (-2000000 ≤ j3 - (sizeL (ks.drop (k + 1)) : Nat) ∧ j3 ≤ 1000000) := Lib.hid (by omega)
        have hjx : j ≤ 1000000 ∧ -2000000 ≤ j := by omega
        have HJX := Lib.hid hjx
        have hwa : IntKind.i64.wrap (1 + (z2 : Int)) = 1 + (z2 : Int) := IntWalk.i64_in _ (by omega)
        have hwb : IntKind.i64.wrap (1 + (z2 : Int) + (z3 : Int)) = nn := by rw [IntWalk.i64_in _ (by omega)]; omega
        have hw1 : IntKind.i64.wrap (j - 1) = j1 := by rw [IntWalk.i64_in _ (by omega)]; omega
        have hw2 : IntKind.i64.wrap (j1 - (z2 : Int)) = j2 := by rw [IntWalk.i64_in _ (by omega)]; omega
        have hw3 : IntKind.i64.wrap (j - nn) = j3 := by rw [IntWalk.i64_in _ (by omega)]; omega
        have HJ1 := Lib.hid hj1
        have HJ2 := Lib.hid hj2
        have HJ3 := Lib.hid hj3
        have HNN := Lib.hid hnn
        have HSO : Hid (woL (ks.drop (k + 1)) (j - (1 + (sizeO (.mk d x1 v n (.mk o tn tk) th el bs) : Nat))) = woL (ks.drop (k + 1)) j3) := Lib.hid (by
          have h3 : j - (1 + (sizeO (.mk d x1 v n (.mk o tn tk) th el bs) : Nat)) = j3 := by
            rw [sizeO, hz2, hz3]
            omega
          rw [h3])
        have HTK := Lib.hid htok
        have HHH := Lib.hid hth
        have HHE := Lib.hid hel
        have HTB := Lib.hid hbs
        have KQ : Hid (∀ W, Below wr.heap.size wr W → (W.cell? ⟨g, f + k * 10 + 7, none⟩ = some (.slice Ah lh ch) ∧ W.cell? ⟨g, f + k * 10 + 8, none⟩ = some (.slice Ae le ce))) := fun W h => by
          have hh := HB0.out.trans (h.mono HB0.out.size)
          exact ⟨(hh.cell (p := ⟨g, _, none⟩) HG.out).trans HSC.out.c7, (hh.cell (p := ⟨g, _, none⟩) HG.out).trans HSC.out.c8⟩
        clear hkid hdr hcm hlt1 hlh hle hlb htok hth hel hbs hz2 hz3 hsd hjb hj1 hj2 hj3 hnn HJB c0 c1 c2_ c3 c4 c5 c6 c7 c8 c9 hg hjx
        go_upto_region 5 with fail
        go_region_held3 (fun W => W.cell? ⟨g, f + k * 10 + 7, none⟩ = some (.slice Ah lh ch) ∧ W.cell? ⟨g, f + k * 10 + 8, none⟩ = some (.slice Ae le ce)) (first | with_reducible exact KQ.out _ HD2.out | with_reducible exact KQ.out _ HD1.out | exact KQ.out _ (Below.refl _ _).drew) (first
          | (go_at_call 26; refine (rsize_steps (Sp.cntL el) el le Ae ce _ z3 HLE.out (Nat.le_refl _) HSM.out.2.1 (HHE.out.below (HB0.out.trans (HD1.out.mono HB0.out.size))) HZ3).mono ?_; rintro e w6 ⟨rfl, hb2⟩; have HD2 := Lib.hid (HD1.out.trans (hb2.mono HD1.out.size)); clear hb2)
          | (go_at_call 26; refine (rsize_steps (Sp.cntL th) th lh Ah ch _ z2 HLH.out (Nat.le_refl _) HSM.out.1 (HHH.out.below (HB0.out.trans ((Below.refl wr.heap.size wr).drew.mono HB0.out.size))) HZ2).mono ?_; rintro e w5 ⟨rfl, hb1⟩; have HD1 := Lib.hid ((Below.refl wr.heap.size wr).drew.trans (hb1.mono (Nat.le_refl _))); clear hb1))
        have HB06 := Lib.hid (HB0.out.trans (HD2.out.mono HB0.out.size))
        have HB6 := Lib.hid (HB.out.trans (HD2.out.mono HB.out.size))
        have HW6 := Lib.hid (own_below HW.out HD2.out)
        have HX6 := Lib.hid (SRow.to (Keeps.below HD2.out) _ _ HX.out)
        clear HD1 HD2 KQ HB0 HB HW HX
        obtain ⟨c0, c1, c2_, c3, c4, c5, c6, c7, c8, c9⟩ := HSC.out.below HG.out HB06.out
        go_upto_region 7 with fail
        obtain ⟨w7, hw7⟩ : ∃ w7, w6.alloc (.cells #[.int .i64 d, .int .i64 x1, .int .i64 v, .int .i64 n, .int .i64 o, .int .i64 tn, .slice At lt ct, .slice Ah lh ch, .slice Ae le ce, .slice Ab lb cb] 53) = w7 := ⟨_, rfl⟩
        obtain ⟨q, hq⟩ : ∃ q, w6.heap.size = q := ⟨_, rfl⟩
        have hba := (Below.refl w6.heap.size w6).alloc (Nat.le_refl _) (.cells #[.int .i64 d, .int .i64 x1, .int .i64 v, .int .i64 n, .int .i64 o, .int .i64 tn, .slice At lt ct, .slice Ah lh ch, .slice Ae le ce, .slice Ab lb cb] 53)
        have HRO : Hid (Ro 53 w0 w q (.slice A2 kk c2) kk xs done d x1 v n o tn At lt ct tk Ah lh ch th Ae le ce el Ab lb cb bs w7) := Lib.hid (by
          have hqs := Cs.new w6 #[.int .i64 d, .int .i64 x1, .int .i64 v, .int .i64 n, .int .i64 o, .int .i64 tn, .slice At lt ct, .slice Ah lh ch, .slice Ae le ce, .slice Ab lb cb] 53
          rw [hw7] at hba hqs
          rw [hq] at hqs
          have hk0 : Keeps (fun b => b < w0.heap.size) (fun b => b < w0.heap.size ∨ (w.heap.size ≤ b ∧ q < b)) w0 w7 := (Keeps.below (HB06.out.trans (hba.mono HB06.out.size))).trans (Keeps.mono fun b _ hb => .inl hb)
          exact ⟨HB06.out.trans (hba.mono HB06.out.size), HB6.out.trans (hba.mono HB6.out.size), HLO.out, by rw [← hq]; exact HB6.out.size, own_below HW6.out hba, fun g hg => by rw [← hq]; exact (HW6.out.lt g hg).2, SRow.to ((Keeps.mono fun b hb hs => ⟨hs.1, hs.2, by rw [← hq]; exact hb⟩).trans (Keeps.below hba)) _ _ HX6.out, hqs, ⟨HLT.out, HLB.out⟩, HLH.out, HLE.out, HTK.out.okN.to hk0, HHH.out.okN.to hk0, HHE.out.okN.to hk0, HTB.out.zsN.to hk0⟩)
        rw [hw7, hq]
        clear hw7 hq hba HB06 HB6 HW6 HX6 c0 c1 c2_ c3 c4 c5 c6 c7 c8 c9 hwa hwb
        by_cases hj0 : j = 0
        · have HQ1 : Hid (woL ks i = done ++ woL (ks.drop (k + 1)) j3) := Lib.hid (by
            rw [HQ.out, woL_drop hkl HKID.out j, if_pos hj0, HSO.out])
          have HX7 : Hid (SRow (fun b => (b < w0.heap.size ∨ w.heap.size ≤ b) ∧ (Value.slice A2 kk c2).ownBlock ≠ some b) w7 xs done) := Lib.hid (SRow.to (Keeps.mono fun b _ hb => ⟨hb.1, hb.2.1⟩) _ _ HRO.out.rows)
          have HW7 := Lib.hid HRO.out.row
          have HB7 := Lib.hid HRO.out.below
          have HB07 := Lib.hid HRO.out.below0
          have HW4 : Hid (IntKind.i64.wrap (-nn) = j3) := Lib.hid (by rw [← hw3, hj0, Int.zero_sub])
          clear HQ hw1 hw2 hw3 HRO HSO HJ1 HJ2 HJ3
          subst hj0
          go_wp2_with fail
          go_roundw
          case rel => exact ⟨k + 1, kk, j3, A2, c2, xs, done, by omega, by omega, congrArg (Value.int .i64) ((IntWalk.i64_left _).symm.trans HW4.out), rfl, by go_num, HQ1, HDL, HJB3, HB07, HB7, HW7, HX7⟩
          case measure => simp [intOf]; omega
        have hj0b := beq_of hj0
        have hj0c := bne_of hj0
        have HNZ := Lib.hid hj0
        by_cases hin : 0 < j ∧ j < nn
        · have q1 : (0 : Int) < j := hin.1
          have q2 : j < nn := hin.2
          have q3 : decide ((0 : Int) < j) = true := decide_eq_true q1
          have q4 : decide (j < nn) = true := decide_eq_true q2
          have HST : Hid (woS (.mk d x1 v n (.mk o tn tk) th el bs) j = .mk d x1 v n (.mk o tn tk) (woL th j1) (woL el j2) bs) := Lib.hid (by
            have h1 : j - 1 = j1 := HJ1.out.symm
            have h2 : j1 - (sizeL th : Nat) = j2 := by rw [HZ2.out]; exact HJ2.out.symm
            rw [woS, h1, h2])
          have HJI : Hid (-1000000 ≤ j1 ∧ j1 ≤ 1000000 ∧ -1000000 ≤ j2 ∧ j2 ≤ 1000000) := Lib.hid (by have := HJ1.out; have := HJ2.out; have := HJX.out; omega)
          clear hin
          have a7 := HRO.out.s.at 7 _ rfl
          go_wp2_with fail
          go_at_call 26
          refine (rsize_steps (Sp.cntL th) th lh Ah ch _ z2 HLH.out (Nat.le_refl _) HSM.out.1 (HHH.out.below HRO.out.below0) HZ2).mono ?_
          rintro e w8 ⟨rfl, hb⟩
          have HRO8 := Lib.hid (HRO.out.next hb)
          clear hb HRO a7
          have HRO := HRO8
          clear HRO8
          go_upto_region 9 with fail
          have KP : Hid (∀ W, Below w8.heap.size w8 W → (W.cell? ⟨q, 7, none⟩ = some (.slice Ah lh ch) ∧ W.cell? ⟨q, 8, none⟩ = some (.slice Ae le ce))) := fun W h => ⟨(HRO.out.s.next h).at 7 _ rfl, (HRO.out.s.next h).at 8 _ rfl⟩
          have HD0 := Lib.hid (Below.refl w8.heap.size w8).drew
          have HS0 := KP.out _ HD0.out
          have hji := HJI.out
          refine wp_region_x (fun W => W.cell? ⟨q, 7, none⟩ = some (.slice Ah lh ch) ∧ W.cell? ⟨q, 8, none⟩ = some (.slice Ae le ce)) 13 (by kernel_rfl) ?_
          refine wpAnyX_takeT 0 (v := ?v0) rfl (by kernel_rfl) (by kernel_rfl) (by kernel_rfl) (by kernel_rfl) (fun _ _ _ h => h) HS0 (Or.inl ⟨by rfl, ?y0⟩) ?r0
          case y0 =>
            intro wq hSq
            obtain ⟨s1, s2⟩ := hSq
            go_simp
            try with_reducible rfl
          try simp only [Act.put, List.setIfInBounds_toArray]
          refine wpAnyX_takeT 1 (v := ?v1) rfl (by kernel_rfl) (by kernel_rfl) (by kernel_rfl) (by kernel_rfl) (fun _ _ _ h => h) HS0 (Or.inl ⟨by rfl, ?y1⟩) ?r1
          case y1 =>
            intro wq hSq
            obtain ⟨s1, s2⟩ := hSq
            go_simp
            try with_reducible rfl
          try simp only [Act.put]
          refine wpAnyX_takeT 2 (v := ?v2) rfl (by kernel_rfl) (by kernel_rfl) (by kernel_rfl) (by kernel_rfl) (fun _ _ _ h => h) HS0 (Or.inl ⟨by rfl, ?y2⟩) ?r2
          case y2 =>
            intro wq hSq
            obtain ⟨s1, s2⟩ := hSq
            go_simp
            try with_reducible rfl
          try simp only [Act.put]
          refine wpAnyX_takeT 3 (v := ?v3) rfl (by kernel_rfl) (by kernel_rfl) (by kernel_rfl) (by kernel_rfl) (fun _ _ _ h => h) HS0 (Or.inl ⟨by rfl, ?y3⟩) ?r3
          case y3 =>
            intro wq hSq
            obtain ⟨s1, s2⟩ := hSq
            go_simp
            try with_reducible rfl
          try simp only [Act.put]
          refine wpAnyX_takeT 5 (v := ?v5) rfl (by kernel_rfl) (by kernel_rfl) (by kernel_rfl) (by kernel_rfl) (fun _ _ _ h => h) HS0 (Or.inl ⟨by rfl, ?y5⟩) ?r5
          case y5 =>
            intro wq hSq
            obtain ⟨s1, s2⟩ := hSq
            go_simp
            try with_reducible rfl
          try simp only [Act.put]
          refine wpAnyX_takeT 6 (v := ?v6) rfl (by kernel_rfl) (by kernel_rfl) (by kernel_rfl) (by kernel_rfl) (fun _ _ _ h => h) HS0 (Or.inl ⟨by rfl, ?y6⟩) ?r6
          case y6 =>
            intro wq hSq
            obtain ⟨s1, s2⟩ := hSq
            go_simp
            try with_reducible rfl
          try simp only [Act.put]
          refine wpAnyX_takeT 7 (v := ?v7) rfl (by kernel_rfl) (by kernel_rfl) (by kernel_rfl) (by kernel_rfl) (fun _ _ _ h => h) HS0 (Or.inl ⟨by rfl, ?y7⟩) ?r7
          case y7 =>
            intro wq hSq
            obtain ⟨s1, s2⟩ := hSq
            go_simp
            try with_reducible rfl
          try simp only [Act.put]
          refine wpAnyX_takeT 8 (v := ?v8) rfl (by kernel_rfl) (by kernel_rfl) (by kernel_rfl) (by kernel_rfl) (fun _ _ _ h => h) HS0 (Or.inl ⟨by rfl, ?y8⟩) ?r8
          case y8 =>
            intro wq hSq
            obtain ⟨s1, s2⟩ := hSq
            go_simp
            try with_reducible rfl
          try simp only [Act.put]
          refine wpAnyX_takeT 9 (v := ?v9) rfl (by kernel_rfl) (by kernel_rfl) (by kernel_rfl) (by kernel_rfl) (fun _ _ _ h => h) HS0 (Or.inl ⟨by rfl, ?y9⟩) ?r9
          case y9 =>
            intro wq hSq
            obtain ⟨s1, s2⟩ := hSq
            go_simp
            try with_reducible rfl
          try simp only [Act.put]
          refine wpAnyX_takeT 10 (v := ?v10) rfl (by kernel_rfl) (by kernel_rfl) (by kernel_rfl) (by kernel_rfl) (fun _ _ _ h => h) HS0 (Or.inl ⟨by rfl, ?y10⟩) ?r10
          case y10 =>
            intro wq hSq
            obtain ⟨s1, s2⟩ := hSq
            go_simp
            try with_reducible rfl
          try simp only [Act.put]
          clear HS0
          refine wpAnyX_one 4 (by kernel_rfl) rfl (fun K hK => ?_)
          go_simp
          go_at_call 33
          refine (IH.out th lh Ah ch j1 w0 _ HLH.out HSM.out.2.2.1 HSM.out.1 HHH.out (HRO.out.below0.trans (HD0.out.mono HRO.out.below0.size)) (by omega) (by omega)).mono ?_
          rintro e wa ⟨A8, l8, c8, rfl, hl, hs, hb⟩
          have HD1 := Lib.hid (HD0.out.trans (hb.mono HD0.out.size))
          have HLA8 := Lib.hid hl
          have HSA8 : Hid (SOkN (fun b => b < w0.heap.size ∨ (w.heap.size ≤ b ∧ q < b)) wa A8 c8 (woL th j1)) := Lib.hid (hs.to (Keeps.mono fun b _ hb => by have h1 := HRO.out.s.lt; have h2 := HD0.out.size; have h3 := HRO.out.below.size; omega))
          refine hK _ _ (fun _ => KP.out _ HD1.out) ?_
          clear hK K hb hl hs
          try simp only [Act.put]
          have HS0 := KP.out _ HD1.out
          refine wpAnyX_takeT 12 (v := ?v12) rfl (by kernel_rfl) (by kernel_rfl) (by kernel_rfl) (by kernel_rfl) (fun _ _ _ h => h) HS0 (Or.inl ⟨by rfl, ?y12⟩) ?r12
          case y12 =>
            intro wq hSq
            obtain ⟨s1, s2⟩ := hSq
            go_simp
            try with_reducible rfl
          try simp only [Act.put]
          clear HS0
          refine wpAnyX_one 11 (by kernel_rfl) rfl (fun K hK => ?_)
          go_simp
          go_at_call 33
          refine (IH.out el le Ae ce j2 w0 _ HLE.out HSM.out.2.2.2 HSM.out.2.1 HHE.out (HRO.out.below0.trans (HD1.out.mono HRO.out.below0.size)) (by omega) (by omega)).mono ?_
          rintro e wb ⟨A9, l9, c9, rfl, hl, hs, hb⟩
          have HDB := Lib.hid hb
          have HD2 := Lib.hid (HD1.out.trans (hb.mono HD1.out.size))
          have HLA9 := Lib.hid hl
          have HSA9 : Hid (SOkN (fun b => b < w0.heap.size ∨ (w.heap.size ≤ b ∧ q < b)) wb A9 c9 (woL el j2)) := Lib.hid (hs.to (Keeps.mono fun b _ hb => by have h1 := HRO.out.s.lt; have h2 := HD1.out.size; have h3 := HRO.out.below.size; omega))
          refine hK _ _ (fun _ => KP.out _ HD2.out) ?_
          clear hK K hb hl hs
          try simp only [Act.put]
          have HS8 := Lib.hid (HSA8.out.to (Keeps.below HDB.out))
          have HROb := Lib.hid (HRO.out.next HD2.out)
          have n7 := HROb.out.s.at 7 _ rfl
          have n8 := HROb.out.s.at 8 _ rfl
          have f7 := HROb.out.s.free 7
          have f8 := HROb.out.s.free 8
          have hcl := HROb.out.s.lt
          refine wpAnyX_one 13 (by kernel_rfl) rfl (fun K hK => ?_)
          go_simp
          refine hK _ _ (fun h => absurd h (by decide)) ?_
          clear hK K
          try simp only [Act.put]
          refine wpAnyX_one 14 (by kernel_rfl) rfl (fun K hK => ?_)
          go_simp
          refine hK _ _ (fun h => absurd h (by decide)) ?_
          clear hK K
          try simp only [Act.put]
          refine wpAnyX_one 15 (by kernel_rfl) rfl (fun K hK => ?_)
          go_simp
          refine hK _ _ (fun h => absurd h (by decide)) ?_
          clear hK K
          try simp only [Act.put]
          refine wpAnyX_done (by kernel_rfl) ?_ _
          have HROc := Lib.hid (HROb.out.put HLA8.out HLA9.out HS8.out HSA9.out)
          obtain ⟨wc, hwc⟩ : ∃ wc, (wb.setCell ⟨q, 7, none⟩ (.slice A8 l8 c8)).setCell ⟨q, 8, none⟩ (.slice A9 l9 c9) = wc := ⟨_, rfl⟩
          rw [hwc] at HROc
          rw [hwc]
          clear hwc HROb HRO HS8 HSA8 HSA9 HLA8 HLA9 HD0 HD1 HD2 HDB KP n7 n8 f7 f8 hcl hji
          go_upto_region 11 with fail
          have n0 := HROc.out.s.at 0 _ rfl
          have n1 := HROc.out.s.at 1 _ rfl
          have n2 := HROc.out.s.at 2 _ rfl
          have n3 := HROc.out.s.at 3 _ rfl
          have n4 := HROc.out.s.at 4 _ rfl
          have n5 := HROc.out.s.at 5 _ rfl
          have n6 := HROc.out.s.at 6 _ rfl
          have n7 := HROc.out.s.at 7 _ rfl
          have n8 := HROc.out.s.at 8 _ rfl
          have n9 := HROc.out.s.at 9 _ rfl
          have hba := (Below.refl wc.heap.size wc).alloc (Nat.le_refl _) (.cells #[.int .i64 d, .int .i64 x1, .int .i64 v, .int .i64 n, .int .i64 o, .int .i64 tn, .slice At lt ct, .slice A8 l8 c8, .slice A9 l9 c9, .slice Ab lb cb] 53)
          have HWR := Lib.hid (own_below HROc.out.row hba)
          have HWS : Hid (w.heap.size ≤ (wc.alloc (.cells #[.int .i64 d, .int .i64 x1, .int .i64 v, .int .i64 n, .int .i64 o, .int .i64 tn, .slice At lt ct, .slice A8 l8 c8, .slice A9 l9 c9, .slice Ab lb cb] 53)).heap.size) := Lib.hid (Nat.le_trans HROc.out.below.size hba.size)
          clear hba
          go_wp2_with (at_builtin; (refine wpList_append_lies _ rfl _ _ 24 rfl w.heap.size 53 i0 _ 10 144 Try.underlying24 HI.out.1 HI.out.2.1 HI.out.2.2.1 HI.out.2.2.2 rfl (by decide) _ kk xs rfl HWR.out ⟨wc.heap.size, 0, none⟩ 1 1 [.int .i64 d, .int .i64 x1, .int .i64 v, .int .i64 n, .int .i64 o, .int .i64 tn, .slice At lt ct, .slice A8 l8 c8, .slice A9 l9 c9, .slice Ab lb cb] rfl rfl (World.news_of_block (cs := #[.int .i64 d, .int .i64 x1, .int .i64 v, .int .i64 n, .int .i64 o, .int .i64 tn, .slice At lt ct, .slice A8 l8 c8, .slice A9 l9 c9, .slice Ab lb cb]) (t := 53) (fr := (0, 0)) (heap_alloc_new wc _)) (by simp [Value.oneCell']) (by decide) (by unfold maxLen; omega) (by omega) HWS.out (wc.heap.size + 1) (by simp) ?_; intro gg cap wz hown hgrow hat hltz; have HGR := Lib.hid (HROc.out.grown (cap := cap) hgrow hat); have HOW := Lib.hid hown; clear hown hgrow hat))
          have HQ1 : Hid (woL ks i = (done ++ [Sp.mk d x1 v n (.mk o tn tk) (woL th j1) (woL el j2) bs]) ++ woL (ks.drop (k + 1)) j3) := Lib.hid (by
            rw [HQ.out, woL_drop hkl HKID.out j, if_neg HNZ.out, List.append_assoc, HST.out, HSO.out]; rfl)
          have HX7 := Lib.hid HGR.out.2.2
          have HB6 := Lib.hid HGR.out.2.1
          have HB06 := Lib.hid HGR.out.1
          have HDL1 : Hid ((done ++ [Sp.mk d x1 v n (.mk o tn tk) (woL th j1) (woL el j2) bs]).length = kk + 1) := Lib.hid (by rw [List.length_append, HDL.out]; rfl)
          clear HGR HROc HWR HWS HQ HDL
          go_roundw
          case rel => exact ⟨k + 1, kk + 1, j3, some ⟨gg, 0, none⟩, cap, xs ++ [.int .i64 d, .int .i64 x1, .int .i64 v, .int .i64 n, .int .i64 o, .int .i64 tn, .slice At lt ct, .slice A8 l8 c8, .slice A9 l9 c9, .slice Ab lb cb], _, by omega, by omega, rfl, rfl, by go_num, HQ1, HDL1, HJB3, HB06, HB6, HOW, HX7⟩
          case measure => simp [intOf]; omega
        have HST : Hid (woS (.mk d x1 v n (.mk o tn tk) th el bs) j = .mk d x1 v n (.mk o tn tk) th el bs) := Lib.hid (woS_out _ _ (by rw [sizeO, HZ2.out, HZ3.out]; have := HNN.out; omega))
        by_cases q1 : (0 : Int) < j
        · have q2 : ¬ j < nn := fun h => hin ⟨q1, h⟩
          have q3 : decide ((0 : Int) < j) = true := decide_eq_true q1
          have q4 : decide (j < nn) = false := decide_eq_false q2
          clear hin
          go_upto_region 11 with fail
          have n0 := HRO.out.s.at 0 _ rfl
          have n1 := HRO.out.s.at 1 _ rfl
          have n2 := HRO.out.s.at 2 _ rfl
          have n3 := HRO.out.s.at 3 _ rfl
          have n4 := HRO.out.s.at 4 _ rfl
          have n5 := HRO.out.s.at 5 _ rfl
          have n6 := HRO.out.s.at 6 _ rfl
          have n7 := HRO.out.s.at 7 _ rfl
          have n8 := HRO.out.s.at 8 _ rfl
          have n9 := HRO.out.s.at 9 _ rfl
          have hba := (Below.refl w7.heap.size w7).alloc (Nat.le_refl _) (.cells #[.int .i64 d, .int .i64 x1, .int .i64 v, .int .i64 n, .int .i64 o, .int .i64 tn, .slice At lt ct, .slice Ah lh ch, .slice Ae le ce, .slice Ab lb cb] 53)
          have HWR := Lib.hid (own_below HRO.out.row hba)
          have HWS : Hid (w.heap.size ≤ (w7.alloc (.cells #[.int .i64 d, .int .i64 x1, .int .i64 v, .int .i64 n, .int .i64 o, .int .i64 tn, .slice At lt ct, .slice Ah lh ch, .slice Ae le ce, .slice Ab lb cb] 53)).heap.size) := Lib.hid (Nat.le_trans HRO.out.below.size hba.size)
          clear hba
          go_wp2_with (at_builtin; (refine wpList_append_lies _ rfl _ _ 24 rfl w.heap.size 53 i0 _ 10 144 Try.underlying24 HI.out.1 HI.out.2.1 HI.out.2.2.1 HI.out.2.2.2 rfl (by decide) _ kk xs rfl HWR.out ⟨w7.heap.size, 0, none⟩ 1 1 [.int .i64 d, .int .i64 x1, .int .i64 v, .int .i64 n, .int .i64 o, .int .i64 tn, .slice At lt ct, .slice Ah lh ch, .slice Ae le ce, .slice Ab lb cb] rfl rfl (World.news_of_block (cs := #[.int .i64 d, .int .i64 x1, .int .i64 v, .int .i64 n, .int .i64 o, .int .i64 tn, .slice At lt ct, .slice Ah lh ch, .slice Ae le ce, .slice Ab lb cb]) (t := 53) (fr := (0, 0)) (heap_alloc_new w7 _)) (by simp [Value.oneCell']) (by decide) (by unfold maxLen; omega) (by omega) HWS.out (w7.heap.size + 1) (by simp) ?_; intro gg cap wz hown hgrow hat hltz; have HGR := Lib.hid (HRO.out.grown (cap := cap) hgrow hat); have HOW := Lib.hid hown; clear hown hgrow hat))
          have HQ1 : Hid (woL ks i = (done ++ [Sp.mk d x1 v n (.mk o tn tk) th el bs]) ++ woL (ks.drop (k + 1)) j3) := Lib.hid (by
            rw [HQ.out, woL_drop hkl HKID.out j, if_neg HNZ.out, List.append_assoc, HST.out, HSO.out]; rfl)
          have HX7 := Lib.hid HGR.out.2.2
          have HB6 := Lib.hid HGR.out.2.1
          have HB06 := Lib.hid HGR.out.1
          have HDL1 : Hid ((done ++ [Sp.mk d x1 v n (.mk o tn tk) th el bs]).length = kk + 1) := Lib.hid (by rw [List.length_append, HDL.out]; rfl)
          clear HGR HRO HWR HWS HQ HDL
          go_roundw
          case rel => exact ⟨k + 1, kk + 1, j3, some ⟨gg, 0, none⟩, cap, xs ++ [.int .i64 d, .int .i64 x1, .int .i64 v, .int .i64 n, .int .i64 o, .int .i64 tn, .slice At lt ct, .slice Ah lh ch, .slice Ae le ce, .slice Ab lb cb], _, by omega, by omega, rfl, rfl, by go_num, HQ1, HDL1, HJB3, HB06, HB6, HOW, HX7⟩
          case measure => simp [intOf]; omega
        · have q3 : decide ((0 : Int) < j) = false := decide_eq_false q1
          clear hin
          go_upto_region 11 with fail
          have n0 := HRO.out.s.at 0 _ rfl
          have n1 := HRO.out.s.at 1 _ rfl
          have n2 := HRO.out.s.at 2 _ rfl
          have n3 := HRO.out.s.at 3 _ rfl
          have n4 := HRO.out.s.at 4 _ rfl
          have n5 := HRO.out.s.at 5 _ rfl
          have n6 := HRO.out.s.at 6 _ rfl
          have n7 := HRO.out.s.at 7 _ rfl
          have n8 := HRO.out.s.at 8 _ rfl
          have n9 := HRO.out.s.at 9 _ rfl
          have hba := (Below.refl w7.heap.size w7).alloc (Nat.le_refl _) (.cells #[.int .i64 d, .int .i64 x1, .int .i64 v, .int .i64 n, .int .i64 o, .int .i64 tn, .slice At lt ct, .slice Ah lh ch, .slice Ae le ce, .slice Ab lb cb] 53)
          have HWR := Lib.hid (own_below HRO.out.row hba)
          have HWS : Hid (w.heap.size ≤ (w7.alloc (.cells #[.int .i64 d, .int .i64 x1, .int .i64 v, .int .i64 n, .int .i64 o, .int .i64 tn, .slice At lt ct, .slice Ah lh ch, .slice Ae le ce, .slice Ab lb cb] 53)).heap.size) := Lib.hid (Nat.le_trans HRO.out.below.size hba.size)
          clear hba
          go_wp2_with (at_builtin; (refine wpList_append_lies _ rfl _ _ 24 rfl w.heap.size 53 i0 _ 10 144 Try.underlying24 HI.out.1 HI.out.2.1 HI.out.2.2.1 HI.out.2.2.2 rfl (by decide) _ kk xs rfl HWR.out ⟨w7.heap.size, 0, none⟩ 1 1 [.int .i64 d, .int .i64 x1, .int .i64 v, .int .i64 n, .int .i64 o, .int .i64 tn, .slice At lt ct, .slice Ah lh ch, .slice Ae le ce, .slice Ab lb cb] rfl rfl (World.news_of_block (cs := #[.int .i64 d, .int .i64 x1, .int .i64 v, .int .i64 n, .int .i64 o, .int .i64 tn, .slice At lt ct, .slice Ah lh ch, .slice Ae le ce, .slice Ab lb cb]) (t := 53) (fr := (0, 0)) (heap_alloc_new w7 _)) (by simp [Value.oneCell']) (by decide) (by unfold maxLen; omega) (by omega) HWS.out (w7.heap.size + 1) (by simp) ?_; intro gg cap wz hown hgrow hat hltz; have HGR := Lib.hid (HRO.out.grown (cap := cap) hgrow hat); have HOW := Lib.hid hown; clear hown hgrow hat))
          have HQ1 : Hid (woL ks i = (done ++ [Sp.mk d x1 v n (.mk o tn tk) th el bs]) ++ woL (ks.drop (k + 1)) j3) := Lib.hid (by
            rw [HQ.out, woL_drop hkl HKID.out j, if_neg HNZ.out, List.append_assoc, HST.out, HSO.out]; rfl)
          have HX7 := Lib.hid HGR.out.2.2
          have HB6 := Lib.hid HGR.out.2.1
          have HB06 := Lib.hid HGR.out.1
          have HDL1 : Hid ((done ++ [Sp.mk d x1 v n (.mk o tn tk) th el bs]).length = kk + 1) := Lib.hid (by rw [List.length_append, HDL.out]; rfl)
          clear HGR HRO HWR HWS HQ HDL
          go_roundw
          case rel => exact ⟨k + 1, kk + 1, j3, some ⟨gg, 0, none⟩, cap, xs ++ [.int .i64 d, .int .i64 x1, .int .i64 v, .int .i64 n, .int .i64 o, .int .i64 tn, .slice At lt ct, .slice Ah lh ch, .slice Ae le ce, .slice Ab lb cb], _, by omega, by omega, rfl, rfl, by go_num, HQ1, HDL1, HJB3, HB06, HB6, HOW, HX7⟩
          case measure => simp [intOf]; omega
      · obtain rfl : k = l := by omega
        have hq := HQ.out
        rw [List.drop_of_length_le (by rw [HL.out]; exact Nat.le_refl _), woL, List.append_nil] at hq
        have HQ2 := Lib.hid hq
        clear hq HQ
        go_wp2_with fail
        go_ret
        exact ⟨A2, kk, c2, rfl, by rw [HQ2.out]; exact HDL.out, by rw [HQ2.out]; exact srow_ok HW.out (SRow.to keeps_end _ _ HX.out) HDL.out (fun b h => .inr h), HB.out⟩
end Go.Proofs.Ytjpjmoejdkmglaa
