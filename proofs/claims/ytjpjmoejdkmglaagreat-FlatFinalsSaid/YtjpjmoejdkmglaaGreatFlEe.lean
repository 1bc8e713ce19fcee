/-
  The walks over the reference's rounds and Steps.
-/
import Derived.Test.YtjpjmoejdkmglaaGreatJL
import Derived.Deep.Cut
import Derived.Deep.Upon
namespace Go.Proofs.YtjpjmoejdkmglaaGreat
open Go.RowKit

theorem Cs.newAt {W : World} (cs : Array Value) (T : TypeId) {b : Nat} (h : W.heap.size = b) : Cs (W.alloc (.cells cs T)) b cs.toList := h ▸ Cs.new W cs T
theorem keeps_set {S : Nat → Prop} {w : World} {p : Addr} (u : Value) (h : ∀ b, S b → p.block ≠ b) : Keeps S S w (w.setCell p u) := fun b hb hs => ⟨hs, by simpa using hb, fun j => World.cell?_setCell_far w p ⟨b, j, none⟩ u (h b hs)⟩
theorem step_append_none {P : Program} {w : World} {ops : Array Oper} {o : Oper} {a : Act} {K : Act → World → Prop} {Q : Exit → Act → World → Prop} {E : Prop} (hgd : o.guard = none) (s x : Operand) (t : TypeId)
    (ho : o.op = .call { callee := .builtin .append, args := #[s, x], argTypes := #[t, t] }) (e : TypeId) (i : TypeInfo) (ht : P.underlying t = some (.slice e)) (hi : P.info? e = some i)
    (base : Option Addr) (sLen sCap : Nat) (hle : sLen ≤ sCap) (hs : a.eval s = .slice base sLen sCap) (A : Option Addr) (c : Nat) (hx : a.eval x = .slice A 0 c)
    (h : K (a.put o.dst (.slice base sLen sCap)) w) : if Region.wanted o (yielded ops a.tmps) = true then Oper.wp P o a w K Q else E := by
  have hw : Region.wanted o (yielded ops a.tmps) = true := by simp [Region.wanted, hgd]
  rw [if_pos hw]
  have hsrc : Src P i.size t (.slice A 0 c) 0 [] w := by
    cases A with
    | some ad => exact Src.ofSlice w ht ad 0 c [] (by simp) (fun j u hu => by simp at hu) (fun u hu => by simp at hu)
    | none => exact ⟨.inl ⟨e, ht⟩, fun _ => rfl, rfl, rfl, by simp, fun u hu => by simp at hu⟩
  have hr := run_append_nothing w t t o.type e i ht hi base sLen sCap hle _ hsrc
  unfold Oper.wp execOp
  simp only [ho, resolve, invoke, builtin, Sem.run_bind, Sem.run_pure, Result.andThen_ok, List.map_toArray, List.map_cons, List.map_nil, hs, hx, hr]
  exact h
/-- A state is handed back; its lists lie in blocks of S or in new ones. -/
def RRan (S : Nat → Prop) (w : World) (s' : Ms) (lv : Nat) (e : Ending) (w' : World) : Prop :=
  ∃ (Ax : Option Addr) (cx : Nat) (Ao : Option Addr) (co : Nat), e = .returned (.agg #[.slice Ax lv cx, .slice Ao s'.o.length co, .int .i64 s'.t]) ∧ ZsN (fun b => (S b ∧ b < w.heap.size) ∨ w.heap.size ≤ b) w' Ax lv cx s'.v ∧ ZsN (fun b => (S b ∧ b < w.heap.size) ∨ w.heap.size ≤ b) w' Ao s'.o.length co s'.o ∧ Below w.heap.size w w'
/-- Where a run of the reference stands: the program in block qf, the state in qs, the result in qr. -/
structure Sr (w0 w : World) (qf qs qr B : Nat) (S : Nat → Prop) (FC : List Value) (lv : Nat) (Ax : Option Addr) (cx : Nat) (Ao : Option Addr) (co : Nat) (s : Ms) (W : World) : Prop where
  b0 : Below w0.heap.size w0 W
  bw : Below w.heap.size w W
  lo : w0.heap.size ≤ w.heap.size ∧ w.heap.size ≤ qf ∧ w.heap.size ≤ qs ∧ w.heap.size ≤ qr
  up : qf < B ∧ qs < B ∧ qr < B
  ne : qf ≠ qs ∧ qr ≠ qs ∧ B ≤ W.heap.size
  f : Cs W qf FC
  st : Cs W qs [.slice Ax lv cx, .slice Ao s.o.length co, .int .i64 s.t]
  r : Cs W qr [.slice none 0 0, .slice none 0 0, .int .i64 0]
  zv : ZsN (fun b => (S b ∧ b < w.heap.size) ∨ B ≤ b) W Ax lv cx s.v
  zo : ZsN (fun b => (S b ∧ b < w.heap.size) ∨ B ≤ b) W Ao s.o.length co s.o
theorem Sr.next {w0 w : World} {qf qs qr B : Nat} {S : Nat → Prop} {FC : List Value} {lv : Nat} {Ax : Option Addr} {cx : Nat} {Ao : Option Addr} {co : Nat} {s : Ms} {W W' : World} (h : Sr w0 w qf qs qr B S FC lv Ax cx Ao co s W) (hb : Below W.heap.size W W') : Sr w0 w qf qs qr B S FC lv Ax cx Ao co s W' :=
  ⟨h.b0.trans (hb.mono h.b0.size), h.bw.trans (hb.mono h.bw.size), h.lo, h.up, ⟨h.ne.1, h.ne.2.1, Nat.le_trans h.ne.2.2 hb.size⟩, h.f.next hb, h.st.next hb, h.r.next hb, h.zv.to (Keeps.below hb), h.zo.to (Keeps.below hb)⟩
theorem Sr.keep {w0 w : World} {qf qs qr B : Nat} {S : Nat → Prop} {FC : List Value} {lv : Nat} {Ax : Option Addr} {cx : Nat} {Ao : Option Addr} {co : Nat} {s : Ms} {W : World} (h : Sr w0 w qf qs qr B S FC lv Ax cx Ao co s W) {S' : Nat → Prop} (hs : ∀ b, S' b → (S b ∧ b < w.heap.size) ∨ B ≤ b) (i : Nat) (u : Value) : Keeps S' S' W (W.setCell ⟨qs, i, none⟩ u) := keeps_set _ (fun b hb => by have := hs b hb; have := h.up; have := h.lo; simp only; omega)
theorem Sr.time {w0 w : World} {qf qs qr B : Nat} {S : Nat → Prop} {FC : List Value} {lv : Nat} {Ax : Option Addr} {cx : Nat} {Ao : Option Addr} {co : Nat} {s : Ms} {W : World} (h : Sr w0 w qf qs qr B S FC lv Ax cx Ao co s W) (t : Int) : Sr w0 w qf qs qr B S FC lv Ax cx Ao co ⟨s.v, s.o, t⟩ (W.setCell ⟨qs, 2, none⟩ (.int .i64 t)) :=
  ⟨h.b0.setCell (p := ⟨qs, 2, none⟩) (Nat.le_trans h.lo.1 h.lo.2.2.1) _, h.bw.setCell (p := ⟨qs, 2, none⟩) h.lo.2.2.1 _, h.lo, h.up, ⟨h.ne.1, h.ne.2.1, by rw [World.size_setCell]; exact h.ne.2.2⟩, h.f.other (p := ⟨qs, 2, none⟩) (fun e => h.ne.1 e.symm) _, h.st.set 2 _ (by simp), h.r.other (p := ⟨qs, 2, none⟩) (fun e => h.ne.2.1 e.symm) _, h.zv.to (h.keep (fun _ hb => hb) 2 _), h.zo.to (h.keep (fun _ hb => hb) 2 _)⟩
theorem Sr.val {w0 w : World} {qf qs qr B : Nat} {S : Nat → Prop} {FC : List Value} {lv : Nat} {Ax : Option Addr} {cx : Nat} {Ao : Option Addr} {co : Nat} {s : Ms} {W : World} (h : Sr w0 w qf qs qr B S FC lv Ax cx Ao co s W) {A9 : Option Addr} {c9 : Nat} {v9 : List Int} (hz : ZsN (fun b => (S b ∧ b < w.heap.size) ∨ B ≤ b) W A9 lv c9 v9) : Sr w0 w qf qs qr B S FC lv A9 c9 Ao co ⟨v9, s.o, s.t⟩ (W.setCell ⟨qs, 0, none⟩ (.slice A9 lv c9)) :=
  ⟨h.b0.setCell (p := ⟨qs, 0, none⟩) (Nat.le_trans h.lo.1 h.lo.2.2.1) _, h.bw.setCell (p := ⟨qs, 0, none⟩) h.lo.2.2.1 _, h.lo, h.up, ⟨h.ne.1, h.ne.2.1, by rw [World.size_setCell]; exact h.ne.2.2⟩, h.f.other (p := ⟨qs, 0, none⟩) (fun e => h.ne.1 e.symm) _, h.st.set 0 _ (by simp), h.r.other (p := ⟨qs, 0, none⟩) (fun e => h.ne.2.1 e.symm) _, hz.to (h.keep (fun _ hb => hb) 0 _), h.zo.to (h.keep (fun _ hb => hb) 0 _)⟩
theorem Sr.outp {w0 w : World} {qf qs qr B : Nat} {S : Nat → Prop} {FC : List Value} {lv : Nat} {Ax : Option Addr} {cx : Nat} {Ao : Option Addr} {co : Nat} {s : Ms} {W : World} (h : Sr w0 w qf qs qr B S FC lv Ax cx Ao co s W) {A9 : Option Addr} {l9 c9 : Nat} {o9 : List Int} (hl : o9.length = l9) (hz : ZsN (fun b => (S b ∧ b < w.heap.size) ∨ B ≤ b) W A9 l9 c9 o9) : Sr w0 w qf qs qr B S FC lv Ax cx A9 c9 ⟨s.v, o9, s.t⟩ (W.setCell ⟨qs, 1, none⟩ (.slice A9 l9 c9)) := by
  subst hl
  exact ⟨h.b0.setCell (p := ⟨qs, 1, none⟩) (Nat.le_trans h.lo.1 h.lo.2.2.1) _, h.bw.setCell (p := ⟨qs, 1, none⟩) h.lo.2.2.1 _, h.lo, h.up, ⟨h.ne.1, h.ne.2.1, by rw [World.size_setCell]; exact h.ne.2.2⟩, h.f.other (p := ⟨qs, 1, none⟩) (fun e => h.ne.1 e.symm) _, h.st.set 1 _ (by simp), h.r.other (p := ⟨qs, 1, none⟩) (fun e => h.ne.2.1 e.symm) _, h.zv.to (h.keep (fun _ hb => hb) 1 _), hz.to (h.keep (fun _ hb => hb) 1 _)⟩
/-- A call has handed a state back, and it is stored. -/
theorem Sr.ran {w0 w : World} {qf qs qr B : Nat} {S : Nat → Prop} {FC : List Value} {lv : Nat} {Ax : Option Addr} {cx : Nat} {Ao : Option Addr} {co : Nat} {s : Ms} {W W' : World} (h : Sr w0 w qf qs qr B S FC lv Ax cx Ao co s W) {A8 A9 : Option Addr} {c8 c9 : Nat} {s9 : Ms} (hb : Below W.heap.size W W') (h8 : ZsN (fun b => ((S b ∧ b < w.heap.size) ∨ B ≤ b) ∧ b < W.heap.size ∨ W.heap.size ≤ b) W' A8 lv c8 s9.v) (h9 : ZsN (fun b => ((S b ∧ b < w.heap.size) ∨ B ≤ b) ∧ b < W.heap.size ∨ W.heap.size ≤ b) W' A9 s9.o.length c9 s9.o) :
    Sr w0 w qf qs qr B S FC lv A8 c8 A9 c9 s9 (((W'.setCell ⟨qs, 0, none⟩ (.slice A8 lv c8)).setCell ⟨qs, 1, none⟩ (.slice A9 s9.o.length c9)).setCell ⟨qs, 2, none⟩ (.int .i64 s9.t)) := by
  have h2 := h.next hb
  have k8 := h8.to (Keeps.mono (S' := (fun b => (S b ∧ b < w.heap.size) ∨ B ≤ b)) fun b _ hb => by have := h.ne.2.2; rcases hb with hb | hb; exact hb.1; exact .inr (by omega))
  have k9 := h9.to (Keeps.mono (S' := (fun b => (S b ∧ b < w.heap.size) ∨ B ≤ b)) fun b _ hb => by have := h.ne.2.2; rcases hb with hb | hb; exact hb.1; exact .inr (by omega))
  have g1 := h2.val k8
  have g2 := g1.outp rfl (k9.to (h2.keep (fun _ hb => hb) 0 _))
  exact g2.time s9.t
theorem Sr.done {w0 w : World} {qf qs qr B : Nat} {S : Nat → Prop} {FC : List Value} {lv : Nat} {Ax : Option Addr} {cx : Nat} {Ao : Option Addr} {co : Nat} {s : Ms} {W : World} (h : Sr w0 w qf qs qr B S FC lv Ax cx Ao co s W) : RRan S w s lv (.returned (.agg #[.slice Ax lv cx, .slice Ao s.o.length co, .int .i64 s.t])) (((W.setCell ⟨qr, 0, none⟩ (.slice Ax lv cx)).setCell ⟨qr, 1, none⟩ (.slice Ao s.o.length co)).setCell ⟨qr, 2, none⟩ (.int .i64 s.t)) := by
  have hk : ∀ v0 v1 v2, Keeps (fun b => (S b ∧ b < w.heap.size) ∨ B ≤ b) (fun b => (S b ∧ b < w.heap.size) ∨ w.heap.size ≤ b) W (((W.setCell ⟨qr, 0, none⟩ v0).setCell ⟨qr, 1, none⟩ v1).setCell ⟨qr, 2, none⟩ v2) := fun v0 v1 v2 => by
    have k : ∀ b, (S b ∧ b < w.heap.size) ∨ B ≤ b → qr ≠ b := fun b hb => by have := h.up; have := h.lo; omega
    exact (((keeps_set (p := ⟨qr, 0, none⟩) v0 k).trans (keeps_set (p := ⟨qr, 1, none⟩) v1 k)).trans (keeps_set (p := ⟨qr, 2, none⟩) v2 k)).trans (Keeps.mono fun b _ hb => hb.imp (fun x => x) (fun x => by have := h.up; have := h.lo; omega))
  have hl := h.lo.2.2.2
  exact ⟨Ax, cx, Ao, co, rfl, h.zv.to (hk _ _ _), h.zo.to (hk _ _ _), ((h.bw.setCell (p := ⟨qr, 0, none⟩) hl _).setCell (p := ⟨qr, 1, none⟩) hl _).setCell (p := ⟨qr, 2, none⟩) hl _⟩

set_option maxRecDepth 100000 in
set_option maxHeartbeats 8000000 in
theorem rrounds_b (vs : List Vr) (hvb : vB vs) (Av : Option Addr) (lv cv : Nat) (Ag : Option Addr) (lg cg : Nat) (Ay : Option Addr) (ly cy : Nat) (Ah0 : Option Addr) (lh0 ch0 : Nat) (hats : List Int) (w0 : World) (hv0 : VOk w0 Av lv cv vs) (_hh0 : Zs w0 Ah0 lh0 ch0 hats) (_hlv : lv ≤ 1000) (m : Nat) (IH : Hid (∀ (S : Nat → Prop) (ks : List Sp) (l : Nat) (A : Option Addr) (c : Nat) (w : World) (s : Ms) (Ax : Option Addr) (cx : Nat) (Ao : Option Addr) (co : Nat) (n : Nat) (s' : Ms) (top : Bool), ks.length = l → Sp.cntL ks ≤ m → SOk w0 A c ks → Below w0.heap.size w0 w → ZsN S w Ax lv cx s.v → ZsN S w Ao s.o.length co s.o → stepsC vs lh0 top ks = 0 → Fit vs n s → n + outL ks ≤ 1000 → Hid (runL vs hats ks s = s') → Calls Tryz.prog 24 #[.agg #[.slice Av lv cv, .slice Ag lg cg, .slice Ay ly cy], .slice Ah0 lh0 ch0, .slice A l c, .agg #[.slice Ax lv cx, .slice Ao s.o.length co, .int .i64 s.t]] w (RRan S w s' lv))) (S : Nat → Prop)
    (d x1 v n o tn : Int) (tk : List Tm) (th el : List Sp) (bs : List Int) (At : Option Addr) (lt ct : Nat) (Ah : Option Addr) (lh ch : Nat) (Ae : Option Addr) (le ce : Nat) (Ab : Option Addr) (lb cb : Nat) (hlt : tk.length = lt) (hlh : th.length = lh) (hm : Sp.cntL th ≤ m) (ht : TOk w0 At ct tk) (hth : SOk w0 Ah ch th) (hF : Fine vs lh0 4 x1 v n (.mk o tn tk) th el bs)
    (w : World) (s : Ms) (Ax : Option Addr) (cx : Nat) (Ao : Option Addr) (co : Nat) (n0 : Nat) (s' : Ms) (hb : Below w0.heap.size w0 w) (hzv : ZsN S w Ax lv cx s.v) (hzo : ZsN S w Ao s.o.length co s.o) (hfit : Fit vs n0 s) (hroom : n0 + n.toNat * outL th ≤ 1000) (HR : Hid (loopM x1 (fun l => valueP l (.mk o tn tk)) (fun s => runL vs hats th s) n.toNat s = s')) :
    Calls Tryz.prog 53 #[.agg #[.slice Av lv cv, .slice Ag lg cg, .slice Ay ly cy], .slice Ah0 lh0 ch0, .agg #[.int .i64 d, .int .i64 x1, .int .i64 v, .int .i64 n, .int .i64 o, .int .i64 tn, .slice At lt ct, .slice Ah lh ch, .slice Ae le ce, .slice Ab lb cb], .agg #[.slice Ax lv cx, .slice Ao s.o.length co, .int .i64 s.t]] w (RRan S w s' lv) := by
  have hn := hF.num.2.2 rfl
  obtain ⟨N, hN⟩ : ∃ N : Nat, n = N := ⟨n.toNat, by omega⟩
  subst hN
  rw [Int.toNat_natCast] at hroom
  have HR0 : Hid (loopM x1 (fun l => valueP l (.mk o tn tk)) (fun s => runL vs hats th s) (N - 0) s = s') := HR
  have hN1 : N ≤ 4096 := by omega
  have HVB := Lib.hid hvb
  have HV0 := Lib.hid hv0
  have HLT := Lib.hid hlt
  have HLH := Lib.hid hlh
  have HM := Lib.hid hm
  have HT := Lib.hid ht
  have HTH := Lib.hid hth
  have HF := Lib.hid hF
  have HROOM := Lib.hid hroom
  have hbx := (((((Below.refl w.heap.size w).alloc (by simp; try omega) (.cells #[.slice Av lv cv, .slice Ag lg cg, .slice Ay ly cy] 26)).alloc (by simp; try omega) (.cells #[.int .i64 d, .int .i64 x1, .int .i64 v, .int .i64 (N : Int), .int .i64 o, .int .i64 tn, .slice At lt ct, .slice Ah lh ch, .slice Ae le ce, .slice Ab lb cb] 56)).alloc (by simp; try omega) (.cells #[.slice Ax lv cx, .slice Ao s.o.length co, .int .i64 s.t] 42)).alloc (by simp; try omega) (.cells #[.slice none 0 0, .slice none 0 0, .int .i64 0] 42))
  have HS0 : Hid (Sr w0 w w.heap.size (w.heap.size + 1 + 1) (w.heap.size + 1 + 1 + 1) (w.heap.size + 1 + 1 + 1 + 1) S [.slice Av lv cv, .slice Ag lg cg, .slice Ay ly cy] lv Ax cx Ao co s ((((w.alloc (.cells #[.slice Av lv cv, .slice Ag lg cg, .slice Ay ly cy] 26)).alloc (.cells #[.int .i64 d, .int .i64 x1, .int .i64 v, .int .i64 (N : Int), .int .i64 o, .int .i64 tn, .slice At lt ct, .slice Ah lh ch, .slice Ae le ce, .slice Ab lb cb] 56)).alloc (.cells #[.slice Ax lv cx, .slice Ao s.o.length co, .int .i64 s.t] 42)).alloc (.cells #[.slice none 0 0, .slice none 0 0, .int .i64 0] 42))) := Lib.hid ⟨hb.trans (hbx.mono hb.size), hbx, ⟨hb.size, by omega, by omega, by omega⟩, ⟨by omega, by omega, by omega⟩, ⟨by omega, by omega, by simp⟩, ((((Cs.newAt (W := w) #[.slice Av lv cv, .slice Ag lg cg, .slice Ay ly cy] 26 (by simp)).alloc (.cells #[.int .i64 d, .int .i64 x1, .int .i64 v, .int .i64 (N : Int), .int .i64 o, .int .i64 tn, .slice At lt ct, .slice Ah lh ch, .slice Ae le ce, .slice Ab lb cb] 56)).alloc (.cells #[.slice Ax lv cx, .slice Ao s.o.length co, .int .i64 s.t] 42)).alloc (.cells #[.slice none 0 0, .slice none 0 0, .int .i64 0] 42)), ((Cs.newAt (W := ((w.alloc (.cells #[.slice Av lv cv, .slice Ag lg cg, .slice Ay ly cy] 26)).alloc (.cells #[.int .i64 d, .int .i64 x1, .int .i64 v, .int .i64 (N : Int), .int .i64 o, .int .i64 tn, .slice At lt ct, .slice Ah lh ch, .slice Ae le ce, .slice Ab lb cb] 56))) #[.slice Ax lv cx, .slice Ao s.o.length co, .int .i64 s.t] 42 (by simp)).alloc (.cells #[.slice none 0 0, .slice none 0 0, .int .i64 0] 42)), (Cs.newAt (W := (((w.alloc (.cells #[.slice Av lv cv, .slice Ag lg cg, .slice Ay ly cy] 26)).alloc (.cells #[.int .i64 d, .int .i64 x1, .int .i64 v, .int .i64 (N : Int), .int .i64 o, .int .i64 tn, .slice At lt ct, .slice Ah lh ch, .slice Ae le ce, .slice Ab lb cb] 56)).alloc (.cells #[.slice Ax lv cx, .slice Ao s.o.length co, .int .i64 s.t] 42))) #[.slice none 0 0, .slice none 0 0, .int .i64 0] 42 (by simp)), (hzv.to (Keeps.mono fun b hb hs => .inl ⟨hs, hb⟩)).to (Keeps.below hbx), (hzo.to (Keeps.mono fun b hb hs => .inl ⟨hs, hb⟩)).to (Keeps.below hbx)⟩
  have HQ0 : Hid (Cs ((((w.alloc (.cells #[.slice Av lv cv, .slice Ag lg cg, .slice Ay ly cy] 26)).alloc (.cells #[.int .i64 d, .int .i64 x1, .int .i64 v, .int .i64 (N : Int), .int .i64 o, .int .i64 tn, .slice At lt ct, .slice Ah lh ch, .slice Ae le ce, .slice Ab lb cb] 56)).alloc (.cells #[.slice Ax lv cx, .slice Ao s.o.length co, .int .i64 s.t] 42)).alloc (.cells #[.slice none 0 0, .slice none 0 0, .int .i64 0] 42)) (w.heap.size + 1) [.int .i64 d, .int .i64 x1, .int .i64 v, .int .i64 (N : Int), .int .i64 o, .int .i64 tn, .slice At lt ct, .slice Ah lh ch, .slice Ae le ce, .slice Ab lb cb]) := Lib.hid (((Cs.newAt (W := (w.alloc (.cells #[.slice Av lv cv, .slice Ag lg cg, .slice Ay ly cy] 26))) #[.int .i64 d, .int .i64 x1, .int .i64 v, .int .i64 (N : Int), .int .i64 o, .int .i64 tn, .slice At lt ct, .slice Ah lh ch, .slice Ae le ce, .slice Ab lb cb] 56 (by simp)).alloc (.cells #[.slice Ax lv cx, .slice Ao s.o.length co, .int .i64 s.t] 42)).alloc (.cells #[.slice none 0 0, .slice none 0 0, .int .i64 0] 42))
  have HFT : Hid (Fit vs (n0 + 0 * outL th) s) := Lib.hid (by simpa using hfit)
  clear hvb hv0 _hh0 hlt hlh hm ht hth hF hroom hb hfit hn HR hbx hzv hzo
  go_enter Tryz.func53, Tryz.ntmps53
  go_upto_region 1 with fail
  obtain ⟨w1, hw1⟩ : ∃ w1, ((((w.alloc (.cells #[.slice Av lv cv, .slice Ag lg cg, .slice Ay ly cy] 26)).alloc (.cells #[.int .i64 d, .int .i64 x1, .int .i64 v, .int .i64 (N : Int), .int .i64 o, .int .i64 tn, .slice At lt ct, .slice Ah lh ch, .slice Ae le ce, .slice Ab lb cb] 56)).alloc (.cells #[.slice Ax lv cx, .slice Ao s.o.length co, .int .i64 s.t] 42)).alloc (.cells #[.slice none 0 0, .slice none 0 0, .int .i64 0] 42)) = w1 := ⟨_, rfl⟩
  rw [hw1] at HS0 HQ0
  rw [hw1]
  clear hw1
  go_wp2_with fail
  go_loopw [9] (fun i wr => ∃ (k : Nat) (s1 : Ms) (A1 : Option Addr) (c1 : Nat) (A2 : Option Addr) (c2 : Nat), k ≤ N ∧ i = .int .i64 k ∧ Hid (loopM x1 (fun l => valueP l (.mk o tn tk)) (fun s => runL vs hats th s) (N - k) s1 = s') ∧ Hid (Sr w0 w w.heap.size (w.heap.size + 1 + 1) (w.heap.size + 1 + 1 + 1) (w.heap.size + 1 + 1 + 1 + 1) S [.slice Av lv cv, .slice Ag lg cg, .slice Ay ly cy] lv A1 c1 A2 c2 s1 wr) ∧ Hid (Cs wr (w.heap.size + 1) [.int .i64 d, .int .i64 x1, .int .i64 v, .int .i64 (N : Int), .int .i64 o, .int .i64 tn, .slice At lt ct, .slice Ah lh ch, .slice Ae le ce, .slice Ab lb cb]) ∧ Hid (Fit vs (n0 + k * outL th) s1)) (fun i _ => N - (intOf i).toNat)
  case atStart => exact ⟨0, s, Ax, cx, Ao, co, by omega, rfl, HR0, HS0, HQ0, HFT⟩
  case round =>
    clear HR0 HS0 HQ0 HFT
    obtain ⟨k, ⟨sv, so, st⟩, A1, c1, A2, c2, hk, rfl, HR, HS, HQ, HFT⟩ := hrel
    have n3 := HQ.out.at 3 _ rfl
    by_cases hlt : k < N
    · have hlt' : (k : Int) < (N : Int) := by omega
      obtain ⟨tz, htz⟩ : ∃ z, IntKind.i64.wrap (st + x1) = z := ⟨_, rfl⟩
      have HTZ : Hid (bumpT st x1 = tz) := htz
      have n1 := HQ.out.at 1 _ rfl
      have t2 := HS.out.st.at 2 _ rfl
      have tf2 := HS.out.st.free 2
      have htl := HS.out.st.lt
      have hsz := HS.out.ne.2.2
      go_upto_region 5 with fail
      have HS2 := Lib.hid (HS.out.time tz)
      have HQ2 := Lib.hid (HQ.out.other (p := ⟨w.heap.size + 1 + 1, 2, none⟩) (by simp only; omega) (.int .i64 tz))
      obtain ⟨w2, hw2⟩ : ∃ w2, wr.setCell ⟨w.heap.size + 1 + 1, 2, none⟩ (.int .i64 tz) = w2 := ⟨_, rfl⟩
      rw [hw2] at HS2 HQ2
      rw [hw2]
      clear hw2 n1 t2 tf2 htl htz HS HQ n3 hsz
      simp only at HS2
      have HFT2 : Hid (Fit vs (n0 + k * outL th) ⟨sv, so, tz⟩) := Lib.hid ⟨HFT.out.1, HFT.out.2⟩
      obtain ⟨r, hr⟩ : ∃ r, valueP sv (.mk o tn tk) = r := ⟨_, rfl⟩
      have HRV := Lib.hid hr
      clear hr
      have n4 := HQ2.out.at 4 _ rfl
      have n5 := HQ2.out.at 5 _ rfl
      have n6 := HQ2.out.at 6 _ rfl
      have t0 := HS2.out.st.at 0 _ rfl
      go_wp2_with fail
      go_at_call 55
      refine (rvalue_any vs HVB.out false sv HFT2.out.1 A1 lv c1 (Tm.cnt (.mk o tn tk)) o tn tk lt At ct _ r HLT.out (Nat.le_refl _) (HT.out.below HS2.out.b0) HS2.out.zv.1 (Lib.hid HF.out.fm) (Lib.hid HF.out.rg) HRV).mono ?_
      rintro e w3 ⟨rfl, hb1⟩
      have HS3 := Lib.hid (HS2.out.next hb1)
      have HQ3 := Lib.hid (HQ2.out.next hb1)
      clear hb1 HS2 HQ2 n4 n5 n6 t0
      have HR2 : Hid ((if r = 0 then (⟨sv, so, tz⟩ : Ms) else loopM x1 (fun l => valueP l (.mk o tn tk)) (fun s => runL vs hats th s) (N - (k + 1)) (runL vs hats th ⟨sv, so, tz⟩)) = s') := by
        show _ = _
        have := HR.out
        rw [show N - k = N - (k + 1) + 1 by omega, loopM] at this
        simp only [HRV.out, HTZ.out] at this
        exact this
      clear HR
      have t0 := HS3.out.st.at 0 _ rfl; have tf0 := HS3.out.st.free 0; have t1 := HS3.out.st.at 1 _ rfl; have tf1 := HS3.out.st.free 1; have t2 := HS3.out.st.at 2 _ rfl; have tf2 := HS3.out.st.free 2; have htl := HS3.out.st.lt
      by_cases hr0 : r = 0
      · have hrb : (r == 0) = true := by rw [hr0]; rfl
        have hs : (⟨sv, so, tz⟩ : Ms) = s' := by rw [← HR2.out, if_pos hr0]
        subst hs
        clear HR2 hr0
        have r0 := HS3.out.r.at 0 _ rfl; have rf0 := HS3.out.r.free 0; have r1 := HS3.out.r.at 1 _ rfl; have rf1 := HS3.out.r.free 1; have r2 := HS3.out.r.at 2 _ rfl; have rf2 := HS3.out.r.free 2; have hrl := HS3.out.r.lt
        go_wp2_with fail
        have HF := ((HS3.out.r.set 0 (.slice A1 lv c1) (by simp)).set 1 (.slice A2 (⟨sv, so, tz⟩ : Ms).o.length c2) (by simp)).set 2 (.int .i64 (⟨sv, so, tz⟩ : Ms).t) (by simp)
        have z0 := HF.at 0 _ rfl
        have z1 := HF.at 1 _ rfl
        have z2 := HF.at 2 _ rfl
        refine bodyPost_ret (v := .agg #[.slice A1 lv c1, .slice A2 (⟨sv, so, tz⟩ : Ms).o.length c2, .int .i64 (⟨sv, so, tz⟩ : Ms).t]) (by simp [results, Tryz.results53, go_sem, z0, z1, z2]) rfl ?_
        exact HS3.out.done
      · have hrb : (r == 0) = false := beq_of hr0
        obtain ⟨s2, hs2⟩ : ∃ z, runL vs hats th ⟨sv, so, tz⟩ = z := ⟨_, rfl⟩
        have HS2 := Lib.hid hs2
        have HR3 : Hid (loopM x1 (fun l => valueP l (.mk o tn tk)) (fun s => runL vs hats th s) (N - (k + 1)) s2 = s') := by show _ = _; rw [← HR2.out, if_neg hr0, hs2]
        have HRM : Hid (n0 + k * outL th + outL th ≤ 1000) := Lib.hid (by
          have h1 := HROOM.out
          have h2 := Nat.mul_le_mul_right (outL th) (show k + 1 ≤ N by omega)
          rw [Nat.succ_mul] at h2
          omega)
        clear HR2 hs2 hr0
        have n7 := HQ3.out.at 7 _ rfl
        have f0 := HS3.out.f.at 0 _ rfl; have f1 := HS3.out.f.at 1 _ rfl; have f2 := HS3.out.f.at 2 _ rfl
        go_wp2_with fail
        go_at_call 24
        refine (IH.out (fun b => (S b ∧ b < w.heap.size) ∨ w.heap.size + 1 + 1 + 1 + 1 ≤ b) th lh Ah ch w3 ⟨sv, so, tz⟩ A1 c1 A2 c2 (n0 + k * outL th) s2 false HLH.out HM.out HTH.out HS3.out.b0 HS3.out.zv HS3.out.zo HF.out.th HFT2.out HRM.out HS2).mono ?_
        rintro e w4 ⟨A8, c8, A9, c9, rfl, k8, k9, hb4⟩
        have HSr := Lib.hid (HS3.out.next hb4)
        have HQ4 := Lib.hid (HQ3.out.next hb4)
        have HSn := Lib.hid (HS3.out.ran hb4 k8 k9)
        have HFT4 : Hid (Fit vs (n0 + (k + 1) * outL th) s2) := by
          show Fit _ _ _
          have := runL_fit HVB.out (hats := hats) th _ _ HFT2.out
          rw [HS2.out] at this
          rw [Nat.succ_mul, ← Nat.add_assoc]
          exact this
        clear hb4 k8 k9 HS3 HQ3 HFT n7 f0 f1 f2 t0 t1 t2 tf0 tf1 tf2 htl
        have t0 := HSr.out.st.at 0 _ rfl; have tf0 := HSr.out.st.free 0; have t1 := HSr.out.st.at 1 _ rfl; have tf1 := HSr.out.st.free 1; have t2 := HSr.out.st.at 2 _ rfl; have tf2 := HSr.out.st.free 2; have htl := HSr.out.st.lt
        have HQn := Lib.hid (((HQ4.out.other (p := ⟨w.heap.size + 1 + 1, 0, none⟩) (by simp only; omega) (.slice A8 lv c8)).other (p := ⟨w.heap.size + 1 + 1, 1, none⟩) (by simp only; omega) (.slice A9 s2.o.length c9)).other (p := ⟨w.heap.size + 1 + 1, 2, none⟩) (by simp only; omega) (.int .i64 s2.t))
        clear HQ4
        go_wp2_with fail
        go_roundw
        case rel => exact ⟨k + 1, s2, A8, c8, A9, c9, by omega, by go_num, HR3, HSn, HQn, HFT4⟩
        case measure => simp [intOf]; omega
    · obtain rfl : k = N := by omega
      have hs : (⟨sv, so, st⟩ : Ms) = s' := by rw [← HR.out, Nat.sub_self, loopM]
      subst hs
      clear HR
      have t0 := HS.out.st.at 0 _ rfl; have tf0 := HS.out.st.free 0; have t1 := HS.out.st.at 1 _ rfl; have tf1 := HS.out.st.free 1; have t2 := HS.out.st.at 2 _ rfl; have tf2 := HS.out.st.free 2; have htl := HS.out.st.lt
      have r0 := HS.out.r.at 0 _ rfl; have rf0 := HS.out.r.free 0; have r1 := HS.out.r.at 1 _ rfl; have rf1 := HS.out.r.free 1; have r2 := HS.out.r.at 2 _ rfl; have rf2 := HS.out.r.free 2; have hrl := HS.out.r.lt
      go_wp2_with fail
      have HF := ((HS.out.r.set 0 (.slice A1 lv c1) (by simp)).set 1 (.slice A2 (⟨sv, so, st⟩ : Ms).o.length c2) (by simp)).set 2 (.int .i64 (⟨sv, so, st⟩ : Ms).t) (by simp)
      have z0 := HF.at 0 _ rfl
      have z1 := HF.at 1 _ rfl
      have z2 := HF.at 2 _ rfl
      refine bodyPost_ret (v := .agg #[.slice A1 lv c1, .slice A2 (⟨sv, so, st⟩ : Ms).o.length c2, .int .i64 (⟨sv, so, st⟩ : Ms).t]) (by simp [results, Tryz.results53, go_sem, z0, z1, z2]) rfl ?_
      exact HS.out.done

set_option maxRecDepth 100000 in
set_option maxHeartbeats 16000000 in
theorem rrun_any (vs : List Vr) (hvb : vB vs) (Av : Option Addr) (lv cv : Nat) (Ag : Option Addr) (lg cg : Nat) (Ay : Option Addr) (ly cy : Nat) (Ah0 : Option Addr) (lh0 ch0 : Nat) (hats : List Int) (w0 : World) (hv0 : VOk w0 Av lv cv vs) (hh0 : Zs w0 Ah0 lh0 ch0 hats) (hlv : lv ≤ 1000) (hhl : hats.length = lh0) (m : Nat) : (∀ (S : Nat → Prop) (ks : List Sp) (l : Nat) (A : Option Addr) (c : Nat) (w : World) (s : Ms) (Ax : Option Addr) (cx : Nat) (Ao : Option Addr) (co : Nat) (n : Nat) (s' : Ms) (top : Bool), ks.length = l → Sp.cntL ks ≤ m → SOk w0 A c ks → Below w0.heap.size w0 w → ZsN S w Ax lv cx s.v → ZsN S w Ao s.o.length co s.o → stepsC vs lh0 top ks = 0 → Fit vs n s → n + outL ks ≤ 1000 → Hid (runL vs hats ks s = s') → Calls Tryz.prog 24 #[.agg #[.slice Av lv cv, .slice Ag lg cg, .slice Ay ly cy], .slice Ah0 lh0 ch0, .slice A l c, .agg #[.slice Ax lv cx, .slice Ao s.o.length co, .int .i64 s.t]] w (RRan S w s' lv)) := by
  induction m with
  | zero =>
    intro S ks l A c w s Ax cx Ao co n s' top hl hm ht hb hzv hzo hc hf hr H
    have hks : ks = [] := by
      cases ks with
      | nil => rfl
      | cons k ks => have := Sp.cnt_pos k; simp only [Sp.cntL] at hm; omega
    subst hks
    have hl0 : l = 0 := hl.symm
    subst hl0
    have hs : s = s' := by rw [← H.out, runL]
    subst hs
    have hbx := ((((Below.refl w.heap.size w).alloc (by simp; try omega) (.cells #[.slice Av lv cv, .slice Ag lg cg, .slice Ay ly cy] 26)).alloc (by simp; try omega) (.cells #[.slice Ax lv cx, .slice Ao s.o.length co, .int .i64 s.t] 42)).alloc (by simp; try omega) (.cells #[.slice none 0 0, .slice none 0 0, .int .i64 0] 42))
    have HS0 : Hid (Sr w0 w w.heap.size (w.heap.size + 1) (w.heap.size + 1 + 1) (w.heap.size + 1 + 1 + 1) S [.slice Av lv cv, .slice Ag lg cg, .slice Ay ly cy] lv Ax cx Ao co s (((w.alloc (.cells #[.slice Av lv cv, .slice Ag lg cg, .slice Ay ly cy] 26)).alloc (.cells #[.slice Ax lv cx, .slice Ao s.o.length co, .int .i64 s.t] 42)).alloc (.cells #[.slice none 0 0, .slice none 0 0, .int .i64 0] 42))) := Lib.hid ⟨hb.trans (hbx.mono hb.size), hbx, ⟨hb.size, by omega, by omega, by omega⟩, ⟨by omega, by omega, by omega⟩, ⟨by omega, by omega, by simp⟩, (((Cs.newAt (W := w) #[.slice Av lv cv, .slice Ag lg cg, .slice Ay ly cy] 26 (by simp)).alloc (.cells #[.slice Ax lv cx, .slice Ao s.o.length co, .int .i64 s.t] 42)).alloc (.cells #[.slice none 0 0, .slice none 0 0, .int .i64 0] 42)), ((Cs.newAt (W := (w.alloc (.cells #[.slice Av lv cv, .slice Ag lg cg, .slice Ay ly cy] 26))) #[.slice Ax lv cx, .slice Ao s.o.length co, .int .i64 s.t] 42 (by simp)).alloc (.cells #[.slice none 0 0, .slice none 0 0, .int .i64 0] 42)), (Cs.newAt (W := ((w.alloc (.cells #[.slice Av lv cv, .slice Ag lg cg, .slice Ay ly cy] 26)).alloc (.cells #[.slice Ax lv cx, .slice Ao s.o.length co, .int .i64 s.t] 42))) #[.slice none 0 0, .slice none 0 0, .int .i64 0] 42 (by simp)), (hzv.to (Keeps.mono fun b hb hs => .inl ⟨hs, hb⟩)).to (Keeps.below hbx), (hzo.to (Keeps.mono fun b hb hs => .inl ⟨hs, hb⟩)).to (Keeps.below hbx)⟩
    clear ht hb hc hf hr H hv0 hvb hh0 hzv hzo hbx
    go_enter Tryz.func24, Tryz.ntmps24
    go_upto_region 1 with fail
    obtain ⟨w1, hw1⟩ : ∃ w1, (((w.alloc (.cells #[.slice Av lv cv, .slice Ag lg cg, .slice Ay ly cy] 26)).alloc (.cells #[.slice Ax lv cx, .slice Ao s.o.length co, .int .i64 s.t] 42)).alloc (.cells #[.slice none 0 0, .slice none 0 0, .int .i64 0] 42)) = w1 := ⟨_, rfl⟩
    rw [hw1] at HS0
    rw [hw1]
    clear hw1
    go_wp2_with fail
    go_loopw [9] (fun u wr => u = .int .i64 0 ∧ wr = w1) (fun _ _ => 0)
    case atStart => exact ⟨rfl, rfl⟩
    case round =>
      obtain ⟨rfl, rfl⟩ := hrel
      have t0 := HS0.out.st.at 0 _ rfl; have tf0 := HS0.out.st.free 0; have t1 := HS0.out.st.at 1 _ rfl; have tf1 := HS0.out.st.free 1; have t2 := HS0.out.st.at 2 _ rfl; have tf2 := HS0.out.st.free 2; have htl := HS0.out.st.lt
      have r0 := HS0.out.r.at 0 _ rfl; have rf0 := HS0.out.r.free 0; have r1 := HS0.out.r.at 1 _ rfl; have rf1 := HS0.out.r.free 1; have r2 := HS0.out.r.at 2 _ rfl; have rf2 := HS0.out.r.free 2; have hrl := HS0.out.r.lt
      go_wp2_with fail
      have HF := ((HS0.out.r.set 0 (.slice Ax lv cx) (by simp)).set 1 (.slice Ao s.o.length co) (by simp)).set 2 (.int .i64 s.t) (by simp)
      have z0 := HF.at 0 _ rfl
      have z1 := HF.at 1 _ rfl
      have z2 := HF.at 2 _ rfl
      refine bodyPost_ret (v := .agg #[.slice Ax lv cx, .slice Ao s.o.length co, .int .i64 s.t]) (by simp [results, Tryz.results24, go_sem, z0, z1, z2]) rfl ?_
      exact HS0.out.done
  | succ m ih =>
    intro S ks l A c w s Ax cx Ao co n s' top hl hm ht hb hzv hzo hc hf hr H
    have IH := Lib.hid ih
    have HVB := Lib.hid hvb
    have HV0 := Lib.hid hv0
    have HH0 := Lib.hid hh0
    have HVL := Lib.hid hv0.len
    have HHL := Lib.hid hhl
    have HM := Lib.hid hm
    have HL := Lib.hid hl
    have HT := Lib.hid ht
    have HC := Lib.hid hc
    have HRS0 : Hid (runL vs hats (ks.drop 0) s = s') := H
    have HFR0 : Hid (Fit vs n s ∧ n + outL (ks.drop 0) ≤ 1000) := Lib.hid ⟨hf, hr⟩
    have hlm : l ≤ 9223372036854775807 := by have h1 := ht.1; have h2 := ht.2.1; unfold maxLen at h2; omega
    obtain ⟨i0, hi0, hz0, hz1, hz2⟩ := info_parts infoI
    have HI := Lib.hid (And.intro hi0 (And.intro hz0 (And.intro hz1 hz2)))
    have hbx := ((((Below.refl w.heap.size w).alloc (by simp; try omega) (.cells #[.slice Av lv cv, .slice Ag lg cg, .slice Ay ly cy] 26)).alloc (by simp; try omega) (.cells #[.slice Ax lv cx, .slice Ao s.o.length co, .int .i64 s.t] 42)).alloc (by simp; try omega) (.cells #[.slice none 0 0, .slice none 0 0, .int .i64 0] 42))
    have HS0 : Hid (Sr w0 w w.heap.size (w.heap.size + 1) (w.heap.size + 1 + 1) (w.heap.size + 1 + 1 + 1) S [.slice Av lv cv, .slice Ag lg cg, .slice Ay ly cy] lv Ax cx Ao co s (((w.alloc (.cells #[.slice Av lv cv, .slice Ag lg cg, .slice Ay ly cy] 26)).alloc (.cells #[.slice Ax lv cx, .slice Ao s.o.length co, .int .i64 s.t] 42)).alloc (.cells #[.slice none 0 0, .slice none 0 0, .int .i64 0] 42))) := Lib.hid ⟨hb.trans (hbx.mono hb.size), hbx, ⟨hb.size, by omega, by omega, by omega⟩, ⟨by omega, by omega, by omega⟩, ⟨by omega, by omega, by simp⟩, (((Cs.newAt (W := w) #[.slice Av lv cv, .slice Ag lg cg, .slice Ay ly cy] 26 (by simp)).alloc (.cells #[.slice Ax lv cx, .slice Ao s.o.length co, .int .i64 s.t] 42)).alloc (.cells #[.slice none 0 0, .slice none 0 0, .int .i64 0] 42)), ((Cs.newAt (W := (w.alloc (.cells #[.slice Av lv cv, .slice Ag lg cg, .slice Ay ly cy] 26))) #[.slice Ax lv cx, .slice Ao s.o.length co, .int .i64 s.t] 42 (by simp)).alloc (.cells #[.slice none 0 0, .slice none 0 0, .int .i64 0] 42)), (Cs.newAt (W := ((w.alloc (.cells #[.slice Av lv cv, .slice Ag lg cg, .slice Ay ly cy] 26)).alloc (.cells #[.slice Ax lv cx, .slice Ao s.o.length co, .int .i64 s.t] 42))) #[.slice none 0 0, .slice none 0 0, .int .i64 0] 42 (by simp)), (hzv.to (Keeps.mono fun b hb hs => .inl ⟨hs, hb⟩)).to (Keeps.below hbx), (hzo.to (Keeps.mono fun b hb hs => .inl ⟨hs, hb⟩)).to (Keeps.below hbx)⟩
    clear ih hvb hv0 hh0 hhl hm hl ht hb hc hf hr H hzv hzo hbx hi0 hz0 hz1 hz2
    go_enter Tryz.func24, Tryz.ntmps24
    go_upto_region 1 with fail
    obtain ⟨w1, hw1⟩ : ∃ w1, (((w.alloc (.cells #[.slice Av lv cv, .slice Ag lg cg, .slice Ay ly cy] 26)).alloc (.cells #[.slice Ax lv cx, .slice Ao s.o.length co, .int .i64 s.t] 42)).alloc (.cells #[.slice none 0 0, .slice none 0 0, .int .i64 0] 42)) = w1 := ⟨_, rfl⟩
    rw [hw1] at HS0
    rw [hw1]
    clear hw1
    go_wp2_with fail
    go_loopw [9] (fun i wr => ∃ (k : Nat) (s1 : Ms) (A1 : Option Addr) (c1 : Nat) (A2 : Option Addr) (c2 : Nat) (nn : Nat), k ≤ l ∧ i = .int .i64 k ∧ Hid (runL vs hats (ks.drop k) s1 = s') ∧ Hid (Sr w0 w w.heap.size (w.heap.size + 1) (w.heap.size + 1 + 1) (w.heap.size + 1 + 1 + 1) S [.slice Av lv cv, .slice Ag lg cg, .slice Ay ly cy] lv A1 c1 A2 c2 s1 wr) ∧ Hid (Fit vs nn s1 ∧ nn + outL (ks.drop k) ≤ 1000)) (fun i _ => l - (intOf i).toNat)
    case atStart => exact ⟨0, s, Ax, cx, Ao, co, n, by omega, rfl, HRS0, HS0, HFR0⟩
    case round =>
      clear HRS0 HS0 HFR0
      obtain ⟨k, ⟨sv, so, st0⟩, A1, c1, A2, c2, nn, hk, rfl, HRS, HS, HFR⟩ := hrel
      by_cases hlt : k < l
      · have hkl : k < ks.length := by rw [HL.out]; exact hlt
        have hlt' : (k : Int) < (l : Int) := by omega
        have hk0 : (0 : Int) ≤ (k : Int) := by omega
        obtain ⟨d, x1, v, n, o, tn, tk, th, el, bs, g, f, At, ct, Ah, ch, Ae, ce, Ab, cb, hkid, hA, hg, hsc, htok, hth, hel, hbs⟩ := (HT.out).step k hkl
        subst hA
        obtain ⟨lt, hlt1⟩ : ∃ l, tk.length = l := ⟨_, rfl⟩
        obtain ⟨lh, hlh⟩ : ∃ l, th.length = l := ⟨_, rfl⟩
        obtain ⟨le, hle⟩ : ∃ l, el.length = l := ⟨_, rfl⟩
        obtain ⟨lb, hlb⟩ : ∃ l, bs.length = l := ⟨_, rfl⟩
        rw [hlt1, hlh, hle, hlb] at hsc
        rw [hlb] at hbs
        have hdr : ks.drop k = .mk d x1 v n (.mk o tn tk) th el bs :: ks.drop (k + 1) := by rw [List.drop_eq_getElem_cons hkl, hkid]
        have hcm : 1 + Tm.cnt (.mk o tn tk) + Sp.cntL th + Sp.cntL el ≤ m + 1 := by
          have := Sp.cntL_get ks k hkl
          rw [hkid] at this
          simp only [Sp.cnt] at this
          have := HM.out
          omega
        have HLT := Lib.hid hlt1
        have HLH := Lib.hid hlh
        have HLE := Lib.hid hle
        have HLB := Lib.hid hlb
        have HCM := Lib.hid hcm
        obtain ⟨lastb, hst⟩ := stepsC_get ks vs lh0 top k hkl HC.out
        rw [hkid] at hst
        have HF := Lib.hid (stepC_fine hst)
        have HKID := Lib.hid hkid
        have HTK := Lib.hid htok
        have HTH := Lib.hid hth
        have HTE := Lib.hid hel
        have HTB := Lib.hid hbs
        have HFT0 := Lib.hid HFR.out.1
        have HRM := Lib.hid HFR.out.2
        obtain ⟨e0, e1, e2, e3, e4, e5, e6, e7, e8, e9⟩ := hsc.below hg HS.out.b0
        have hba := (Below.refl wr.heap.size wr).alloc (Nat.le_refl _) (.cells #[.int .i64 d, .int .i64 x1, .int .i64 v, .int .i64 n, .int .i64 o, .int .i64 tn, .slice At lt ct, .slice Ah lh ch, .slice Ae le ce, .slice Ab lb cb] 56)
        have HS3 := Lib.hid (HS.out.next hba)
        have HQ3 := Lib.hid (Cs.new wr #[.int .i64 d, .int .i64 x1, .int .i64 v, .int .i64 n, .int .i64 o, .int .i64 tn, .slice At lt ct, .slice Ah lh ch, .slice Ae le ce, .slice Ab lb cb] 56)
        have HQB : Hid (w.heap.size + 1 + 1 + 1 ≤ wr.heap.size) := Lib.hid HS.out.ne.2.2
        clear hkid hdr hcm hst htok hth hel hbs hlt1 hlh hle hlb hba HS HFR hsc hg
        go_upto_region 5 with fail
        obtain ⟨w3, hw3⟩ : ∃ w3, wr.alloc (.cells #[.int .i64 d, .int .i64 x1, .int .i64 v, .int .i64 n, .int .i64 o, .int .i64 tn, .slice At lt ct, .slice Ah lh ch, .slice Ae le ce, .slice Ab lb cb] 56) = w3 := ⟨_, rfl⟩
        obtain ⟨q, hq⟩ : ∃ q, wr.heap.size = q := ⟨_, rfl⟩
        rw [hw3] at HS3 HQ3
        rw [hq] at HQ3 HQB
        rw [hw3, hq]
        clear hw3 hq e0 e1 e2 e3 e4 e5 e6 e7 e8 e9
        have hqb := HQB.out
        have n0 := HQ3.out.at 0 _ rfl
        have n1 := HQ3.out.at 1 _ rfl
        by_cases hd4 : d = 4
        · subst hd4
          have n2 := HQ3.out.at 2 _ rfl; have n3 := HQ3.out.at 3 _ rfl; have n4 := HQ3.out.at 4 _ rfl; have n5 := HQ3.out.at 5 _ rfl; have n6 := HQ3.out.at 6 _ rfl; have n7 := HQ3.out.at 7 _ rfl; have n8 := HQ3.out.at 8 _ rfl; have n9 := HQ3.out.at 9 _ rfl
          have t0 := HS3.out.st.at 0 _ rfl; have tf0 := HS3.out.st.free 0; have t1 := HS3.out.st.at 1 _ rfl; have tf1 := HS3.out.st.free 1; have t2 := HS3.out.st.at 2 _ rfl; have tf2 := HS3.out.st.free 2; have htl := HS3.out.st.lt
          have f0 := HS3.out.f.at 0 _ rfl; have f1 := HS3.out.f.at 1 _ rfl; have f2 := HS3.out.f.at 2 _ rfl
          obtain ⟨s2, hs2⟩ : ∃ z, loopM x1 (fun l => valueP l (.mk o tn tk)) (fun s => runL vs hats th s) n.toNat ⟨sv, so, st0⟩ = z := ⟨_, rfl⟩
          have HS2 := Lib.hid hs2
          have hev : runO vs hats (.mk 4 x1 v n (.mk o tn tk) th el bs) ⟨sv, so, st0⟩ = s2 := by rw [runO_loop, hs2]
          have HEV := Lib.hid hev
          have HRO : Hid (nn + n.toNat * outL th ≤ 1000) := Lib.hid (by have := HRM.out; rw [outL_drop hkl, HKID.out, outO_loop] at this; omega)
          clear hs2 hev
          go_wp2_with fail
          go_at_call 53
          refine (rrounds_b vs HVB.out Av lv cv Ag lg cg Ay ly cy Ah0 lh0 ch0 hats w0 HV0.out HH0.out hlv m IH (fun b => (S b ∧ b < w.heap.size) ∨ w.heap.size + 1 + 1 + 1 ≤ b) 4 x1 v n o tn tk th el bs At lt ct Ah lh ch Ae le ce Ab lb cb HLT.out HLH.out (by have := HCM.out; omega) HTK.out HTH.out HF.out w3 ⟨sv, so, st0⟩ A1 c1 A2 c2 nn s2 HS3.out.b0 HS3.out.zv HS3.out.zo HFT0.out HRO.out HS2).mono ?_
          rintro e w4 ⟨A8, c8, A9, c9, rfl, k8, k9, hb4⟩
          have HSr := Lib.hid (HS3.out.next hb4)
          have HSn := Lib.hid (HS3.out.ran hb4 k8 k9)
          have hev := HEV.out
          clear hb4 k8 k9 HS3 t0 t1 t2 tf0 tf1 tf2 htl f0 f1 f2
          have t0 := HSr.out.st.at 0 _ rfl; have tf0 := HSr.out.st.free 0; have t1 := HSr.out.st.at 1 _ rfl; have tf1 := HSr.out.st.free 1; have t2 := HSr.out.st.at 2 _ rfl; have tf2 := HSr.out.st.free 2; have htl := HSr.out.st.lt
          have hnx := run_next hkl HKID.out HRS.out hev HFT0.out HRM.out HVB.out
          have HN1 := Lib.hid hnx.1
          have HN2 := Lib.hid hnx.2
          clear hnx hev HSr HQ3 HEV n0 n1 n2 n3 n4 n5 n6 n7 n8 n9
          go_wp2_with fail
          go_roundw
          case rel => exact ⟨k + 1, _, A8, c8, A9, c9, _, by omega, by go_num, HN1, HSn, HN2⟩
          case measure => simp [intOf]; omega
        have hd4b := beq_of hd4
        obtain ⟨tz, htz⟩ : ∃ z, IntKind.i64.wrap (st0 + x1) = z := ⟨_, rfl⟩
        have HTZ : Hid (bumpT st0 x1 = tz) := htz
        have t2 := HS3.out.st.at 2 _ rfl
        have tf2 := HS3.out.st.free 2
        have htl := HS3.out.st.lt
        go_upto_region 8 with fail
        have HS2 := Lib.hid (HS3.out.time tz)
        have HQ2 := Lib.hid (HQ3.out.other (p := ⟨w.heap.size + 1, 2, none⟩) (by simp only; omega) (.int .i64 tz))
        obtain ⟨w2, hw2⟩ : ∃ w2, w3.setCell ⟨w.heap.size + 1, 2, none⟩ (.int .i64 tz) = w2 := ⟨_, rfl⟩
        rw [hw2] at HS2 HQ2
        rw [hw2]
        simp only at HS2
        clear hw2 n0 n1 t2 tf2 htl htz HS3 HQ3
        have HFT : Hid (Fit vs nn ⟨sv, so, tz⟩) := Lib.hid ⟨HFT0.out.1, HFT0.out.2⟩
        have n0 := HQ2.out.at 0 _ rfl
        have hkd := HF.out.kind
        obtain rfl | rfl | rfl | rfl | rfl | rfl : d = 0 ∨ d = 1 ∨ d = 2 ∨ d = 3 ∨ d = 5 ∨ d = 6 := by omega
        · obtain ⟨r, hr⟩ : ∃ r, valueP sv (.mk o tn tk) = r := ⟨_, rfl⟩
          have HRV := Lib.hid hr
          have hvr := HF.out.var (.inl rfl)
          have HHV := Lib.hid hvr
          have hev : runO vs hats (.mk 0 x1 v n (.mk o tn tk) th el bs) ⟨sv, so, st0⟩ = ⟨setV vs sv v r, so, tz⟩ := by
            rw [(runO_act vs hats 0 x1 v n (.mk o tn tk) th el bs ⟨sv, so, st0⟩ (by decide) (by decide)), actM, if_pos rfl]
            simp only [hr, HTZ.out]
          have HEV := Lib.hid hev
          clear hr hvr hev
          go_upto_region 10 with fail
          have KP : Hid (∀ W, Below w2.heap.size w2 W → (W.cell? ⟨w.heap.size, 0, none⟩ = some (.slice Av lv cv) ∧ W.cell? ⟨w.heap.size, 1, none⟩ = some (.slice Ag lg cg) ∧ W.cell? ⟨w.heap.size, 2, none⟩ = some (.slice Ay ly cy) ∧ W.cell? ⟨w.heap.size + 1, 0, none⟩ = some (.slice A1 lv c1) ∧ W.cell? ⟨q, 2, none⟩ = some (.int .i64 v) ∧ W.cell? ⟨q, 4, none⟩ = some (.int .i64 o) ∧ W.cell? ⟨q, 5, none⟩ = some (.int .i64 tn) ∧ W.cell? ⟨q, 6, none⟩ = some (.slice At lt ct))) := fun W h => ⟨(HS2.out.next h).f.at 0 _ rfl, (HS2.out.next h).f.at 1 _ rfl, (HS2.out.next h).f.at 2 _ rfl, (HS2.out.next h).st.at 0 _ rfl, (HQ2.out.next h).at 2 _ rfl, (HQ2.out.next h).at 4 _ rfl, (HQ2.out.next h).at 5 _ rfl, (HQ2.out.next h).at 6 _ rfl⟩
          have HD0 := Lib.hid (Below.refl w2.heap.size w2).drew
          have HS0 := KP.out _ HD0.out
          clear n0
          refine wp_region_x (fun W => W.cell? ⟨w.heap.size, 0, none⟩ = some (.slice Av lv cv) ∧ W.cell? ⟨w.heap.size, 1, none⟩ = some (.slice Ag lg cg) ∧ W.cell? ⟨w.heap.size, 2, none⟩ = some (.slice Ay ly cy) ∧ W.cell? ⟨w.heap.size + 1, 0, none⟩ = some (.slice A1 lv c1) ∧ W.cell? ⟨q, 2, none⟩ = some (.int .i64 v) ∧ W.cell? ⟨q, 4, none⟩ = some (.int .i64 o) ∧ W.cell? ⟨q, 5, none⟩ = some (.int .i64 tn) ∧ W.cell? ⟨q, 6, none⟩ = some (.slice At lt ct)) 11 (by kernel_rfl) ?_
          refine wpAnyX_take 0 (v := ?v0a) rfl (by kernel_rfl) (by kernel_rfl) (by kernel_rfl) (by kernel_rfl) (fun _ _ _ h => h) HS0 (Or.inl ⟨by rfl, ?y0a⟩) ?r0a
          case y0a =>
            intro wq hSq
            obtain ⟨s0, s1, s2, s3, s4, s5, s6, s7⟩ := hSq
            go_simp
            try with_reducible rfl
          try simp only [Act.put, List.setIfInBounds_toArray]
          refine wpAnyX_take 1 (v := ?v1a) rfl (by kernel_rfl) (by kernel_rfl) (by kernel_rfl) (by kernel_rfl) (fun _ _ _ h => h) HS0 (Or.inl ⟨by rfl, ?y1a⟩) ?r1a
          case y1a =>
            intro wq hSq
            obtain ⟨s0, s1, s2, s3, s4, s5, s6, s7⟩ := hSq
            go_simp
            try with_reducible rfl
          try simp only [Act.put]
          refine wpAnyX_take 2 (v := ?v2a) rfl (by kernel_rfl) (by kernel_rfl) (by kernel_rfl) (by kernel_rfl) (fun _ _ _ h => h) HS0 (Or.inl ⟨by rfl, ?y2a⟩) ?r2a
          case y2a =>
            intro wq hSq
            obtain ⟨s0, s1, s2, s3, s4, s5, s6, s7⟩ := hSq
            go_simp
            try with_reducible rfl
          try simp only [Act.put]
          refine wpAnyX_take 3 (v := ?v3a) rfl (by kernel_rfl) (by kernel_rfl) (by kernel_rfl) (by kernel_rfl) (fun _ _ _ h => h) HS0 (Or.inl ⟨by rfl, ?y3a⟩) ?r3a
          case y3a =>
            intro wq hSq
            obtain ⟨s0, s1, s2, s3, s4, s5, s6, s7⟩ := hSq
            go_simp
            try with_reducible rfl
          try simp only [Act.put]
          refine wpAnyX_take 4 (v := ?v4a) rfl (by kernel_rfl) (by kernel_rfl) (by kernel_rfl) (by kernel_rfl) (fun _ _ _ h => h) HS0 (Or.inl ⟨by rfl, ?y4a⟩) ?r4a
          case y4a =>
            intro wq hSq
            obtain ⟨s0, s1, s2, s3, s4, s5, s6, s7⟩ := hSq
            go_simp
            try with_reducible rfl
          try simp only [Act.put]
          refine wpAnyX_take 5 (v := ?v5a) rfl (by kernel_rfl) (by kernel_rfl) (by kernel_rfl) (by kernel_rfl) (fun _ _ _ h => h) HS0 (Or.inl ⟨by rfl, ?y5a⟩) ?r5a
          case y5a =>
            intro wq hSq
            obtain ⟨s0, s1, s2, s3, s4, s5, s6, s7⟩ := hSq
            go_simp
            try with_reducible rfl
          try simp only [Act.put]
          refine wpAnyX_take 6 (v := ?v6a) rfl (by kernel_rfl) (by kernel_rfl) (by kernel_rfl) (by kernel_rfl) (fun _ _ _ h => h) HS0 (Or.inl ⟨by rfl, ?y6a⟩) ?r6a
          case y6a =>
            intro wq hSq
            obtain ⟨s0, s1, s2, s3, s4, s5, s6, s7⟩ := hSq
            go_simp
            try with_reducible rfl
          try simp only [Act.put]
          refine wpAnyX_take 7 (v := ?v7a) rfl (by kernel_rfl) (by kernel_rfl) (by kernel_rfl) (by kernel_rfl) (fun _ _ _ h => h) HS0 (Or.inl ⟨by rfl, ?y7a⟩) ?r7a
          case y7a =>
            intro wq hSq
            obtain ⟨s0, s1, s2, s3, s4, s5, s6, s7⟩ := hSq
            go_simp
            try with_reducible rfl
          try simp only [Act.put]
          refine wpAnyX_take 8 (v := ?v8a) rfl (by kernel_rfl) (by kernel_rfl) (by kernel_rfl) (by kernel_rfl) (fun _ _ _ h => h) HS0 (Or.inl ⟨by rfl, ?y8a⟩) ?r8a
          case y8a =>
            intro wq hSq
            obtain ⟨s0, s1, s2, s3, s4, s5, s6, s7⟩ := hSq
            go_simp
            try with_reducible rfl
          try simp only [Act.put]
          clear HS0
          refine wpAnyX_one 9 (by kernel_rfl) rfl (fun K hK => ?_)
          go_simp
          go_at_call 55
          refine (rvalue_any vs HVB.out false sv HFT.out.1 A1 lv c1 (Tm.cnt (.mk o tn tk)) o tn tk lt At ct _ r HLT.out (Nat.le_refl _) (HTK.out.below (HS2.out.b0.trans (HD0.out.mono HS2.out.b0.size))) (HS2.out.zv.1.below HD0.out) (Lib.hid HF.out.fm) (Lib.hid HF.out.rg) HRV).mono ?_
          rintro e w4 ⟨rfl, hb1⟩
          have HD1 := Lib.hid (HD0.out.trans (hb1.mono HD0.out.size))
          refine hK _ _ (fun _ => KP.out _ HD1.out) ?_
          clear hK K hb1
          try simp only [Act.put]
          refine wpAnyX_one 10 (by kernel_rfl) rfl (fun K hK => ?_)
          go_simp
          go_at_call 54
          refine (rset_b vs HVB.out Av lv cv Ag lg cg Ay ly cy A1 c1 sv v r _ (HV0.out.below (HS2.out.b0.trans (HD1.out.mono HS2.out.b0.size))) (HS2.out.zv.1.below HD1.out) hlv HHV.out.1 (by rw [← HVL.out]; exact HHV.out.2)).mono ?_
          rintro e w5 ⟨A9, c9, rfl, hz9, hb9⟩
          have HD2 := Lib.hid (HD1.out.trans (hb9.mono HD1.out.size))
          have HZ9 : Hid (ZsN (fun b => (S b ∧ b < w.heap.size) ∨ w.heap.size + 1 + 1 + 1 ≤ b) w5 A9 lv c9 (setV vs sv v r)) := Lib.hid (hz9.to (Keeps.mono fun b _ hb => .inr (by have h1 := HS2.out.ne.2.2; have h2 := HD1.out.size; omega)))
          refine hK _ _ (fun _ => KP.out _ HD2.out) ?_
          clear hK K hb9 hz9
          try simp only [Act.put]
          have HS5 := Lib.hid (HS2.out.next HD2.out)
          have t0 := HS5.out.st.at 0 _ rfl
          have tf0 := HS5.out.st.free 0
          have htl := HS5.out.st.lt
          refine wpAnyX_one 11 (by kernel_rfl) rfl (fun K hK => ?_)
          go_simp
          refine hK _ _ (fun h => absurd h (by decide)) ?_
          clear hK K
          try simp only [Act.put]
          refine wpAnyX_one 12 (by kernel_rfl) rfl (fun K hK => ?_)
          go_simp
          refine hK _ _ (fun h => absurd h (by decide)) ?_
          clear hK K
          refine wpAnyX_done (by kernel_rfl) ?_ _
          have HSn : Hid (Sr w0 w w.heap.size (w.heap.size + 1) (w.heap.size + 1 + 1) (w.heap.size + 1 + 1 + 1) S [.slice Av lv cv, .slice Ag lg cg, .slice Ay ly cy] lv A9 c9 A2 c2 ⟨setV vs sv v r, so, tz⟩ (w5.setCell ⟨w.heap.size + 1, 0, none⟩ (.slice A9 lv c9))) := Lib.hid (HS5.out.val HZ9.out)
          have hev := HEV.out
          have hnx := run_next hkl HKID.out HRS.out hev HFT0.out HRM.out HVB.out
          have HN1 := Lib.hid hnx.1
          have HN2 := Lib.hid hnx.2
          clear hnx hev HS2 HQ2 HD0 HD1 HD2 KP HZ9 HS5 HEV t0 tf0 htl
          go_wp2_with fail
          go_roundw
          case rel => exact ⟨k + 1, _, A9, c9, A2, c2, _, by omega, by go_num, HN1, HSn, HN2⟩
          case measure => simp [intOf]; omega
        · obtain ⟨r, hr⟩ : ∃ r, valueP sv (.mk o tn tk) = r := ⟨_, rfl⟩
          have HRV := Lib.hid hr
          have hol : so.length + 1 ≤ 1000 := by have := HRM.out; rw [outL_drop hkl, HKID.out, outO_out] at this; have := HFT.out.2; simp only at this; omega
          have HOL := Lib.hid hol
          have hev : runO vs hats (.mk 1 x1 v n (.mk o tn tk) th el bs) ⟨sv, so, st0⟩ = ⟨sv, so ++ [r], tz⟩ := by
            rw [(runO_act vs hats 1 x1 v n (.mk o tn tk) th el bs ⟨sv, so, st0⟩ (by decide) (by decide)), actM, if_neg (by decide), if_pos rfl]
            simp only [hr, HTZ.out]
          have HEV := Lib.hid hev
          clear hr hev hol
          go_upto_region 12 with fail
          have KP : Hid (∀ W, Below w2.heap.size w2 W → (W.cell? ⟨w.heap.size + 1, 0, none⟩ = some (.slice A1 lv c1) ∧ W.cell? ⟨w.heap.size + 1, 1, none⟩ = some (.slice A2 so.length c2) ∧ W.cell? ⟨q, 4, none⟩ = some (.int .i64 o) ∧ W.cell? ⟨q, 5, none⟩ = some (.int .i64 tn) ∧ W.cell? ⟨q, 6, none⟩ = some (.slice At lt ct))) := fun W h => ⟨(HS2.out.next h).st.at 0 _ rfl, (HS2.out.next h).st.at 1 _ rfl, (HQ2.out.next h).at 4 _ rfl, (HQ2.out.next h).at 5 _ rfl, (HQ2.out.next h).at 6 _ rfl⟩
          have HD0 := Lib.hid (Below.refl w2.heap.size w2).drew
          have HS0 := KP.out _ HD0.out
          clear n0
          refine wp_region_x (fun W => W.cell? ⟨w.heap.size + 1, 0, none⟩ = some (.slice A1 lv c1) ∧ W.cell? ⟨w.heap.size + 1, 1, none⟩ = some (.slice A2 so.length c2) ∧ W.cell? ⟨q, 4, none⟩ = some (.int .i64 o) ∧ W.cell? ⟨q, 5, none⟩ = some (.int .i64 tn) ∧ W.cell? ⟨q, 6, none⟩ = some (.slice At lt ct)) 11 (by kernel_rfl) ?_
          refine wpAnyX_take 1 (v := ?v1d) rfl (by kernel_rfl) (by kernel_rfl) (by kernel_rfl) (by kernel_rfl) (fun _ _ _ h => h) HS0 (Or.inl ⟨by rfl, ?y1d⟩) ?r1d
          case y1d =>
            intro wq hSq
            obtain ⟨s0, s1, s2, s3, s4⟩ := hSq
            go_simp
            try with_reducible rfl
          try simp only [Act.put, List.setIfInBounds_toArray]
          refine wpAnyX_take 2 (v := ?v2d) rfl (by kernel_rfl) (by kernel_rfl) (by kernel_rfl) (by kernel_rfl) (fun _ _ _ h => h) HS0 (Or.inl ⟨by rfl, ?y2d⟩) ?r2d
          case y2d =>
            intro wq hSq
            obtain ⟨s0, s1, s2, s3, s4⟩ := hSq
            go_simp
            try with_reducible rfl
          try simp only [Act.put]
          refine wpAnyX_take 4 (v := ?v4d) rfl (by kernel_rfl) (by kernel_rfl) (by kernel_rfl) (by kernel_rfl) (fun _ _ _ h => h) HS0 (Or.inl ⟨by rfl, ?y4d⟩) ?r4d
          case y4d =>
            intro wq hSq
            obtain ⟨s0, s1, s2, s3, s4⟩ := hSq
            go_simp
            try with_reducible rfl
          try simp only [Act.put]
          refine wpAnyX_take 5 (v := ?v5d) rfl (by kernel_rfl) (by kernel_rfl) (by kernel_rfl) (by kernel_rfl) (fun _ _ _ h => h) HS0 (Or.inl ⟨by rfl, ?y5d⟩) ?r5d
          case y5d =>
            intro wq hSq
            obtain ⟨s0, s1, s2, s3, s4⟩ := hSq
            go_simp
            try with_reducible rfl
          try simp only [Act.put]
          refine wpAnyX_take 6 (v := ?v6d) rfl (by kernel_rfl) (by kernel_rfl) (by kernel_rfl) (by kernel_rfl) (fun _ _ _ h => h) HS0 (Or.inl ⟨by rfl, ?y6d⟩) ?r6d
          case y6d =>
            intro wq hSq
            obtain ⟨s0, s1, s2, s3, s4⟩ := hSq
            go_simp
            try with_reducible rfl
          try simp only [Act.put]
          refine wpAnyX_take 7 (v := ?v7d) rfl (by kernel_rfl) (by kernel_rfl) (by kernel_rfl) (by kernel_rfl) (fun _ _ _ h => h) HS0 (Or.inl ⟨by rfl, ?y7d⟩) ?r7d
          case y7d =>
            intro wq hSq
            obtain ⟨s0, s1, s2, s3, s4⟩ := hSq
            go_simp
            try with_reducible rfl
          try simp only [Act.put]
          clear HS0
          refine wpAnyX_one 0 (by kernel_rfl) rfl (fun K hK => ?_)
          go_simp
          have HD1 := Lib.hid (HD0.out.alloc HD0.out.size (.cells #[] 3))
          have HR0 : Hid ((w2.drew.alloc (.cells #[] 3)).ownsRow w2.heap.size 3 1 (.slice (some ⟨w2.heap.size, 0, none⟩) 0 0) 0 (iv [])) := Lib.hid (World.ownsRow_made w2.drew #[] 0 (Nat.le_refl _) (Nat.zero_le _) rfl)
          refine hK _ _ (fun _ => KP.out _ HD1.out) ?_
          clear hK K
          try simp only [Act.put]
          have hzo := HS2.out.zo.1.below HD1.out
          by_cases hso : so = []
          · subst hso
            refine wpAnyX_one 3 (by kernel_rfl) rfl (fun K hK => ?_)
            refine step_append_none (by rfl) _ _ _ (by rfl) 3 i0 Tryz.underlying27 HI.out.1 (some ⟨w2.heap.size, 0, none⟩) 0 0 (Nat.le_refl _) (by rfl) A2 c2 (by rfl) ?_
            have HR3 : Hid ((w2.drew.alloc (.cells #[] 3)).ownsRow w2.heap.size 3 1 (.slice (some ⟨w2.heap.size, 0, none⟩) ([] : List Int).length 0) ([] : List Int).length (iv [])) := HR0
            refine hK _ _ (fun _ => KP.out _ HD1.out) ?_
            clear hK K hzo
            try simp only [Act.put]
            refine wpAnyX_one 8 (by kernel_rfl) rfl (fun K hK => ?_)
            go_simp
            go_at_call 55
            refine (rvalue_any vs HVB.out false sv HFT.out.1 A1 lv c1 (Tm.cnt (.mk o tn tk)) o tn tk lt At ct _ r HLT.out (Nat.le_refl _) (HTK.out.below (HS2.out.b0.trans (HD1.out.mono HS2.out.b0.size))) (HS2.out.zv.1.below HD1.out) (Lib.hid HF.out.fm) (Lib.hid HF.out.rg) HRV).mono ?_
            rintro e w5 ⟨rfl, hb1⟩
            have HD2 := Lib.hid (HD1.out.trans (hb1.mono HD1.out.size))
            have HR5 := Lib.hid (own_below HR3.out hb1)
            refine hK _ _ (fun _ => KP.out _ HD2.out) ?_
            clear hK K hb1
            try simp only [Act.put]
            refine wpAnyX_one 9 (by kernel_rfl) rfl (fun K hK => ?_)
            go_simp
            have HD3 := Lib.hid (HD2.out.alloc HD2.out.size (.cells #[.int .i64 r] 3))
            have HR6 := Lib.hid (own_below HR5.out ((Below.refl w5.heap.size w5).alloc (Nat.le_refl _) (.cells #[.int .i64 r] 3)))
            refine hK _ _ (fun _ => KP.out _ HD3.out) ?_
            clear hK K
            try simp only [Act.put]
            refine wpAnyX_one 10 (by kernel_rfl) rfl (fun K hK => ?_)
            refine step_append_lies _ (by rfl) _ _ _ (by rfl) w2.heap.size 3 i0 (.int .i64 0) 1 8 Tryz.underlying27 HI.out.1 HI.out.2.1 HI.out.2.2.1 HI.out.2.2.2 rfl (by decide) (.slice (some ⟨w2.heap.size, 0, none⟩) ([] : List Int).length 0) ([] : List Int).length (iv []) (by rfl) HR6.out ⟨w5.heap.size, 0, none⟩ 1 1 [.int .i64 r] (by rfl) (by rfl) (World.news_of_block (cs := #[.int .i64 r]) (t := 3) (fr := (0, 0)) (heap_alloc_new w5 _)) (by simp [Value.oneCell']) (by decide) (by have := HOL.out; unfold maxLen; omega) (by have := HOL.out; omega) HD3.out.size (w5.heap.size + 1) (by simp) ?_
            intro gg cap w7 hown hgrow hat hlt7
            have HD4 := Lib.hid ((Fr.of_grown hgrow).below HD3.out (fun x hx => (HR6.out.lt x hx).1) HD3.out.size)
            have HZ9 : Hid (ZsN (fun b => (S b ∧ b < w.heap.size) ∨ w.heap.size + 1 + 1 + 1 ≤ b) w7 (some ⟨gg, 0, none⟩) (([] : List Int).length + 1) cap ([] ++ [r])) := Lib.hid ⟨by
              exact Zs.of_row (zs := [] ++ [r]) (by rw [List.length_append, iv_app]; exact hown), fun _ ad had => by injection had with had; subst had; exact .inr (by have h1 := HS2.out.ne.2.2; have h2 := (hown.lt gg rfl).1; simp only; omega)⟩
            refine hK _ _ (fun _ => KP.out _ HD4.out) ?_
            clear hK K hown hgrow hat
            try simp only [Act.put]
            have HS7 := Lib.hid (HS2.out.next HD4.out)
            have t1 := HS7.out.st.at 1 _ rfl
            have tf1 := HS7.out.st.free 1
            have htl := HS7.out.st.lt
            refine wpAnyX_one 11 (by kernel_rfl) rfl (fun K hK => ?_)
            go_simp
            refine hK _ _ (fun h => absurd h (by decide)) ?_
            clear hK K
            try simp only [Act.put]
            refine wpAnyX_one 12 (by kernel_rfl) rfl (fun K hK => ?_)
            go_simp
            refine hK _ _ (fun h => absurd h (by decide)) ?_
            clear hK K
            refine wpAnyX_done (by kernel_rfl) ?_ _
            have HSn : Hid (Sr w0 w w.heap.size (w.heap.size + 1) (w.heap.size + 1 + 1) (w.heap.size + 1 + 1 + 1) S [.slice Av lv cv, .slice Ag lg cg, .slice Ay ly cy] lv A1 c1 (some ⟨gg, 0, none⟩) cap ⟨sv, [] ++ [r], tz⟩ (w7.setCell ⟨w.heap.size + 1, 1, none⟩ (.slice (some ⟨gg, 0, none⟩) (([] : List Int).length + 1) cap))) := Lib.hid (HS7.out.outp (by rw [List.length_append]; rfl) HZ9.out)
            have hev := HEV.out
            have hnx := run_next hkl HKID.out HRS.out hev HFT0.out HRM.out HVB.out
            have HN1 := Lib.hid hnx.1
            have HN2 := Lib.hid hnx.2
            clear hnx hev HS2 HQ2 HD0 HD1 HD2 HD3 HD4 KP HZ9 HS7 HEV HR5 HR6 t1 tf1 htl
            go_wp2_with fail
            go_roundw
            case rel => exact ⟨k + 1, _, A1, c1, _, _, _, by omega, by go_num, HN1, HSn, HN2⟩
            case measure => simp [intOf]; omega
          · have hsl : 0 < so.length := List.length_pos_iff.2 hso
            obtain ⟨g2, f2_, hA2, hg2, hc2⟩ := hzo.mem hsl
            subst hA2
            have HNW : Hid (∀ j u, (iv so)[j]? = some u → (w2.drew.alloc (.cells #[] 3)).cell? ((⟨g2, f2_, none⟩ : Addr).add j) = some u) := Lib.hid (fun j u hu => by
              have hj : j < so.length := by rw [← iv_len]; exact (List.getElem?_eq_some_iff.1 hu).1
              rw [iv_get so j hj] at hu
              injection hu with hu
              have hadd : (⟨g2, f2_, none⟩ : Addr).add j = ⟨g2, f2_ + j, none⟩ := by unfold Addr.add; split <;> simp_all
              rw [hadd, hc2 j hj, hu])
            refine wpAnyX_one 3 (by kernel_rfl) rfl (fun K hK => ?_)
            refine step_append_lies _ (by rfl) _ _ _ (by rfl) w2.heap.size 3 i0 (.int .i64 0) 1 8 Tryz.underlying27 HI.out.1 HI.out.2.1 HI.out.2.2.1 HI.out.2.2.2 rfl (by decide) (.slice (some ⟨w2.heap.size, 0, none⟩) 0 0) 0 (iv []) (by rfl) HR0.out ⟨g2, f2_, none⟩ so.length c2 (iv so) (by rfl) (by rw [iv_len, Nat.mul_one]) HNW.out (by intro u hu; unfold iv at hu; obtain ⟨z, _, rfl⟩ := List.mem_map.1 hu; rfl) hsl (by have := HOL.out; unfold maxLen; omega) (by have := HOL.out; omega) HD1.out.size _ rfl ?_
            intro g3 c3 w3 hown hgrow hat hlt3
            have HD1' := Lib.hid ((Fr.of_grown hgrow).below HD1.out (fun x hx => (HR0.out.lt x hx).1) HD1.out.size)
            have HR3 : Hid (w3.ownsRow w2.heap.size 3 1 (.slice (some ⟨g3, 0, none⟩) so.length c3) so.length (iv so)) := Lib.hid (by rw [Nat.zero_add] at hown; exact hown)
            rw [Nat.zero_add]
            refine hK _ _ (fun _ => KP.out _ HD1'.out) ?_
            clear hK K hzo hown hgrow hat hlt3 HD1 hg2 hc2
            have HD1 := HD1'
            clear HD1'
            try simp only [Act.put]
            refine wpAnyX_one 8 (by kernel_rfl) rfl (fun K hK => ?_)
            go_simp
            go_at_call 55
            refine (rvalue_any vs HVB.out false sv HFT.out.1 A1 lv c1 (Tm.cnt (.mk o tn tk)) o tn tk lt At ct _ r HLT.out (Nat.le_refl _) (HTK.out.below (HS2.out.b0.trans (HD1.out.mono HS2.out.b0.size))) (HS2.out.zv.1.below HD1.out) (Lib.hid HF.out.fm) (Lib.hid HF.out.rg) HRV).mono ?_
            rintro e w5 ⟨rfl, hb1⟩
            have HD2 := Lib.hid (HD1.out.trans (hb1.mono HD1.out.size))
            have HR5 := Lib.hid (own_below HR3.out hb1)
            refine hK _ _ (fun _ => KP.out _ HD2.out) ?_
            clear hK K hb1
            try simp only [Act.put]
            refine wpAnyX_one 9 (by kernel_rfl) rfl (fun K hK => ?_)
            go_simp
            have HD3 := Lib.hid (HD2.out.alloc HD2.out.size (.cells #[.int .i64 r] 3))
            have HR6 := Lib.hid (own_below HR5.out ((Below.refl w5.heap.size w5).alloc (Nat.le_refl _) (.cells #[.int .i64 r] 3)))
            refine hK _ _ (fun _ => KP.out _ HD3.out) ?_
            clear hK K
            try simp only [Act.put]
            refine wpAnyX_one 10 (by kernel_rfl) rfl (fun K hK => ?_)
            refine step_append_lies _ (by rfl) _ _ _ (by rfl) w2.heap.size 3 i0 (.int .i64 0) 1 8 Tryz.underlying27 HI.out.1 HI.out.2.1 HI.out.2.2.1 HI.out.2.2.2 rfl (by decide) (.slice (some ⟨g3, 0, none⟩) so.length c3) so.length (iv so) (by rfl) HR6.out ⟨w5.heap.size, 0, none⟩ 1 1 [.int .i64 r] (by rfl) (by rfl) (World.news_of_block (cs := #[.int .i64 r]) (t := 3) (fr := (0, 0)) (heap_alloc_new w5 _)) (by simp [Value.oneCell']) (by decide) (by have := HOL.out; unfold maxLen; omega) (by have := HOL.out; omega) HD3.out.size (w5.heap.size + 1) (by simp) ?_
            intro gg cap w7 hown hgrow hat hlt7
            have HD4 := Lib.hid ((Fr.of_grown hgrow).below HD3.out (fun x hx => (HR6.out.lt x hx).1) HD3.out.size)
            have HZ9 : Hid (ZsN (fun b => (S b ∧ b < w.heap.size) ∨ w.heap.size + 1 + 1 + 1 ≤ b) w7 (some ⟨gg, 0, none⟩) (so.length + 1) cap (so ++ [r])) := Lib.hid ⟨by
              exact Zs.of_row (zs := so ++ [r]) (by rw [List.length_append, iv_app]; exact hown), fun _ ad had => by injection had with had; subst had; exact .inr (by have h1 := HS2.out.ne.2.2; have h2 := (hown.lt gg rfl).1; simp only; omega)⟩
            refine hK _ _ (fun _ => KP.out _ HD4.out) ?_
            clear hK K hown hgrow hat
            try simp only [Act.put]
            have HS7 := Lib.hid (HS2.out.next HD4.out)
            have t1 := HS7.out.st.at 1 _ rfl
            have tf1 := HS7.out.st.free 1
            have htl := HS7.out.st.lt
            refine wpAnyX_one 11 (by kernel_rfl) rfl (fun K hK => ?_)
            go_simp
            refine hK _ _ (fun h => absurd h (by decide)) ?_
            clear hK K
            try simp only [Act.put]
            refine wpAnyX_one 12 (by kernel_rfl) rfl (fun K hK => ?_)
            go_simp
            refine hK _ _ (fun h => absurd h (by decide)) ?_
            clear hK K
            refine wpAnyX_done (by kernel_rfl) ?_ _
            have HSn : Hid (Sr w0 w w.heap.size (w.heap.size + 1) (w.heap.size + 1 + 1) (w.heap.size + 1 + 1 + 1) S [.slice Av lv cv, .slice Ag lg cg, .slice Ay ly cy] lv A1 c1 (some ⟨gg, 0, none⟩) cap ⟨sv, so ++ [r], tz⟩ (w7.setCell ⟨w.heap.size + 1, 1, none⟩ (.slice (some ⟨gg, 0, none⟩) (so.length + 1) cap))) := Lib.hid (HS7.out.outp (by rw [List.length_append]; rfl) HZ9.out)
            have hev := HEV.out
            have hnx := run_next hkl HKID.out HRS.out hev HFT0.out HRM.out HVB.out
            have HN1 := Lib.hid hnx.1
            have HN2 := Lib.hid hnx.2
            clear hnx hev HS2 HQ2 HD0 HD1 HD2 HD3 HD4 KP HZ9 HS7 HEV HR5 HR6 t1 tf1 htl
            go_wp2_with fail
            go_roundw
            case rel => exact ⟨k + 1, _, A1, c1, _, _, _, by omega, by go_num, HN1, HSn, HN2⟩
            case measure => simp [intOf]; omega
        · have hev : runO vs hats (.mk 2 x1 v n (.mk o tn tk) th el bs) ⟨sv, so, st0⟩ = ⟨sv, so, tz⟩ := by
            rw [(runO_act vs hats 2 x1 v n (.mk o tn tk) th el bs ⟨sv, so, st0⟩ (by decide) (by decide)), actM, if_neg (by decide), if_neg (by decide), if_neg (by decide), if_neg (by decide)]
            simp only [HTZ.out]
          have hnx := run_next hkl HKID.out HRS.out hev HFT0.out HRM.out HVB.out
          have HN1 := Lib.hid hnx.1
          have HN2 := Lib.hid hnx.2
          clear hnx hev HQ2
          go_wp2_with fail
          go_roundw
          case rel => exact ⟨k + 1, _, A1, c1, A2, c2, _, by omega, by go_num, HN1, HS2, HN2⟩
          case measure => simp [intOf]; omega
        · obtain ⟨r, hr⟩ : ∃ r, valueP sv (.mk o tn tk) = r := ⟨_, rfl⟩
          have HRV := Lib.hid hr
          clear hr
          have n4 := HQ2.out.at 4 _ rfl
          have n5 := HQ2.out.at 5 _ rfl
          have n6 := HQ2.out.at 6 _ rfl
          have t0 := HS2.out.st.at 0 _ rfl
          go_wp2_with fail
          go_at_call 55
          refine (rvalue_any vs HVB.out false sv HFT.out.1 A1 lv c1 (Tm.cnt (.mk o tn tk)) o tn tk lt At ct _ r HLT.out (Nat.le_refl _) (HTK.out.below (HS2.out.b0.trans ((Below.refl w2.heap.size w2).mono HS2.out.b0.size))) (HS2.out.zv.1.below (Below.refl w2.heap.size w2)) (Lib.hid HF.out.fm) (Lib.hid HF.out.rg) HRV).mono ?_
          rintro e w4 ⟨rfl, hb1⟩
          have HS4 := Lib.hid (HS2.out.next hb1)
          have HQ4 := Lib.hid (HQ2.out.next hb1)
          clear hb1 HS2 HQ2 n0 n4 n5 n6 t0
          by_cases hr0 : r = 0
          · have hrb : (r != 0) = false := by rw [hr0]; rfl
            obtain ⟨s2, hs2⟩ : ∃ z, runL vs hats el ⟨sv, so, tz⟩ = z := ⟨_, rfl⟩
            have HSE2 := Lib.hid hs2
            have hev : runO vs hats (.mk 3 x1 v n (.mk o tn tk) th el bs) ⟨sv, so, st0⟩ = s2 := by
              rw [runO_if]
              simp only [HRV.out, HTZ.out]
              rw [if_neg (by rw [hr0]; simp), hs2]
            have HEV := Lib.hid hev
            have HRO : Hid (nn + outL el ≤ 1000) := Lib.hid (by have := HRM.out; rw [outL_drop hkl, HKID.out, outO_if] at this; omega)
            clear hs2 hev hr0
            have n8 := HQ4.out.at 8 _ rfl
            have t0 := HS4.out.st.at 0 _ rfl; have tf0 := HS4.out.st.free 0; have t1 := HS4.out.st.at 1 _ rfl; have tf1 := HS4.out.st.free 1; have t2 := HS4.out.st.at 2 _ rfl; have tf2 := HS4.out.st.free 2; have htl := HS4.out.st.lt
            have f0 := HS4.out.f.at 0 _ rfl; have f1 := HS4.out.f.at 1 _ rfl; have f2 := HS4.out.f.at 2 _ rfl
            go_wp2_with fail
            go_at_call 24
            refine (IH.out (fun b => (S b ∧ b < w.heap.size) ∨ w.heap.size + 1 + 1 + 1 ≤ b) el le Ae ce w4 ⟨sv, so, tz⟩ A1 c1 A2 c2 nn s2 false HLE.out (by have := HCM.out; have := Tm.cnt_pos (.mk o tn tk); omega) HTE.out HS4.out.b0 HS4.out.zv HS4.out.zo HF.out.el HFT.out HRO.out HSE2).mono ?_
            rintro e w5 ⟨A8, c8, A9, c9, rfl, k8, k9, hb4⟩
            have HSr := Lib.hid (HS4.out.next hb4)
            have HSn := Lib.hid (HS4.out.ran hb4 k8 k9)
            have hev := HEV.out
            clear hb4 k8 k9 HS4 t0 t1 t2 tf0 tf1 tf2 htl f0 f1 f2 n8
            have t0 := HSr.out.st.at 0 _ rfl; have tf0 := HSr.out.st.free 0; have t1 := HSr.out.st.at 1 _ rfl; have tf1 := HSr.out.st.free 1; have t2 := HSr.out.st.at 2 _ rfl; have tf2 := HSr.out.st.free 2; have htl := HSr.out.st.lt
            have hnx := run_next hkl HKID.out HRS.out hev HFT0.out HRM.out HVB.out
            have HN1 := Lib.hid hnx.1
            have HN2 := Lib.hid hnx.2
            clear hnx hev HSr HQ4 HEV
            go_wp2_with fail
            go_roundw
            case rel => exact ⟨k + 1, _, A8, c8, A9, c9, _, by omega, by go_num, HN1, HSn, HN2⟩
            case measure => simp [intOf]; omega
          · have hrb : (r != 0) = true := bne_of hr0
            obtain ⟨s2, hs2⟩ : ∃ z, runL vs hats th ⟨sv, so, tz⟩ = z := ⟨_, rfl⟩
            have HSE2 := Lib.hid hs2
            have hev : runO vs hats (.mk 3 x1 v n (.mk o tn tk) th el bs) ⟨sv, so, st0⟩ = s2 := by
              rw [runO_if]
              simp only [HRV.out, HTZ.out]
              rw [if_pos hr0, hs2]
            have HEV := Lib.hid hev
            have HRO : Hid (nn + outL th ≤ 1000) := Lib.hid (by have := HRM.out; rw [outL_drop hkl, HKID.out, outO_if] at this; omega)
            clear hs2 hev hr0
            have n7 := HQ4.out.at 7 _ rfl
            have t0 := HS4.out.st.at 0 _ rfl; have tf0 := HS4.out.st.free 0; have t1 := HS4.out.st.at 1 _ rfl; have tf1 := HS4.out.st.free 1; have t2 := HS4.out.st.at 2 _ rfl; have tf2 := HS4.out.st.free 2; have htl := HS4.out.st.lt
            have f0 := HS4.out.f.at 0 _ rfl; have f1 := HS4.out.f.at 1 _ rfl; have f2 := HS4.out.f.at 2 _ rfl
            go_wp2_with fail
            go_at_call 24
            refine (IH.out (fun b => (S b ∧ b < w.heap.size) ∨ w.heap.size + 1 + 1 + 1 ≤ b) th lh Ah ch w4 ⟨sv, so, tz⟩ A1 c1 A2 c2 nn s2 false HLH.out (by have := HCM.out; have := Tm.cnt_pos (.mk o tn tk); omega) HTH.out HS4.out.b0 HS4.out.zv HS4.out.zo HF.out.th HFT.out HRO.out HSE2).mono ?_
            rintro e w5 ⟨A8, c8, A9, c9, rfl, k8, k9, hb4⟩
            have HSr := Lib.hid (HS4.out.next hb4)
            have HSn := Lib.hid (HS4.out.ran hb4 k8 k9)
            have hev := HEV.out
            clear hb4 k8 k9 HS4 t0 t1 t2 tf0 tf1 tf2 htl f0 f1 f2 n7
            have t0 := HSr.out.st.at 0 _ rfl; have tf0 := HSr.out.st.free 0; have t1 := HSr.out.st.at 1 _ rfl; have tf1 := HSr.out.st.free 1; have t2 := HSr.out.st.at 2 _ rfl; have tf2 := HSr.out.st.free 2; have htl := HSr.out.st.lt
            have hnx := run_next hkl HKID.out HRS.out hev HFT0.out HRM.out HVB.out
            have HN1 := Lib.hid hnx.1
            have HN2 := Lib.hid hnx.2
            clear hnx hev HSr HQ4 HEV
            go_wp2_with fail
            go_roundw
            case rel => exact ⟨k + 1, _, A8, c8, A9, c9, _, by omega, by go_num, HN1, HSn, HN2⟩
            case measure => simp [intOf]; omega
        · have hvr := HF.out.var (.inr rfl)
          have HHV := Lib.hid hvr
          have hnr := HF.out.hat rfl
          obtain ⟨N, hN⟩ : ∃ N : Nat, n = N := ⟨n.toNat, by omega⟩
          subst hN
          have hNl : N < lh0 := by omega
          have hNI : (N : Int) < (lh0 : Int) := by omega
          have hN0 : (0 : Int) ≤ (N : Int) := by omega
          obtain ⟨hn, hhn⟩ : ∃ z, hats.getD N 0 = z := ⟨_, rfl⟩
          obtain ⟨gh, fh, hAh, hgh, hch⟩ := (HH0.out.below HS2.out.b0).mem (by omega)
          subst hAh
          have HGH := Lib.hid hgh
          have HHC : Hid (w2.cell? ⟨gh, fh + N, none⟩ = some (.int .i64 hn)) := Lib.hid (by rw [hch N hNl, hhn])
          have hev : runO vs hats (.mk 5 x1 v (N : Int) (.mk o tn tk) th el bs) ⟨sv, so, st0⟩ = ⟨setV vs sv v hn, so, tz⟩ := by
            rw [(runO_act vs hats 5 x1 v (N : Int) (.mk o tn tk) th el bs ⟨sv, so, st0⟩ (by decide) (by decide)), actM, if_neg (by decide), if_neg (by decide), if_pos rfl]
            simp only [HTZ.out, Int.toNat_natCast, hhn]
          have HEV := Lib.hid hev
          clear hhn hvr hev hgh hch hnr
          go_upto_region 14 with fail
          have KP : Hid (∀ W, Below w2.heap.size w2 W → (W.cell? ⟨w.heap.size, 0, none⟩ = some (.slice Av lv cv) ∧ W.cell? ⟨w.heap.size, 1, none⟩ = some (.slice Ag lg cg) ∧ W.cell? ⟨w.heap.size, 2, none⟩ = some (.slice Ay ly cy) ∧ W.cell? ⟨w.heap.size + 1, 0, none⟩ = some (.slice A1 lv c1) ∧ W.cell? ⟨q, 2, none⟩ = some (.int .i64 v) ∧ W.cell? ⟨q, 3, none⟩ = some (.int .i64 (N : Int)) ∧ W.cell? ⟨gh, fh + N, none⟩ = some (.int .i64 hn))) := fun W h => ⟨(HS2.out.next h).f.at 0 _ rfl, (HS2.out.next h).f.at 1 _ rfl, (HS2.out.next h).f.at 2 _ rfl, (HS2.out.next h).st.at 0 _ rfl, (HQ2.out.next h).at 2 _ rfl, (HQ2.out.next h).at 3 _ rfl, (h.cell (p := ⟨gh, _, none⟩) HGH.out).trans HHC.out⟩
          have HD0 := Lib.hid (Below.refl w2.heap.size w2).drew
          have HS0 := KP.out _ HD0.out
          clear n0
          refine wp_region_x (fun W => W.cell? ⟨w.heap.size, 0, none⟩ = some (.slice Av lv cv) ∧ W.cell? ⟨w.heap.size, 1, none⟩ = some (.slice Ag lg cg) ∧ W.cell? ⟨w.heap.size, 2, none⟩ = some (.slice Ay ly cy) ∧ W.cell? ⟨w.heap.size + 1, 0, none⟩ = some (.slice A1 lv c1) ∧ W.cell? ⟨q, 2, none⟩ = some (.int .i64 v) ∧ W.cell? ⟨q, 3, none⟩ = some (.int .i64 (N : Int)) ∧ W.cell? ⟨gh, fh + N, none⟩ = some (.int .i64 hn)) 11 (by kernel_rfl) ?_
          refine wpAnyX_take 0 (v := ?v0b) rfl (by kernel_rfl) (by kernel_rfl) (by kernel_rfl) (by kernel_rfl) (fun _ _ _ h => h) HS0 (Or.inl ⟨by rfl, ?y0b⟩) ?r0b
          case y0b =>
            intro wq hSq
            obtain ⟨s0, s1, s2, s3, s4, s5, s6⟩ := hSq
            go_simp
            try with_reducible rfl
          try simp only [Act.put, List.setIfInBounds_toArray]
          refine wpAnyX_take 1 (v := ?v1b) rfl (by kernel_rfl) (by kernel_rfl) (by kernel_rfl) (by kernel_rfl) (fun _ _ _ h => h) HS0 (Or.inl ⟨by rfl, ?y1b⟩) ?r1b
          case y1b =>
            intro wq hSq
            obtain ⟨s0, s1, s2, s3, s4, s5, s6⟩ := hSq
            go_simp
            try with_reducible rfl
          try simp only [Act.put]
          refine wpAnyX_take 2 (v := ?v2b) rfl (by kernel_rfl) (by kernel_rfl) (by kernel_rfl) (by kernel_rfl) (fun _ _ _ h => h) HS0 (Or.inl ⟨by rfl, ?y2b⟩) ?r2b
          case y2b =>
            intro wq hSq
            obtain ⟨s0, s1, s2, s3, s4, s5, s6⟩ := hSq
            go_simp
            try with_reducible rfl
          try simp only [Act.put]
          refine wpAnyX_take 3 (v := ?v3b) rfl (by kernel_rfl) (by kernel_rfl) (by kernel_rfl) (by kernel_rfl) (fun _ _ _ h => h) HS0 (Or.inl ⟨by rfl, ?y3b⟩) ?r3b
          case y3b =>
            intro wq hSq
            obtain ⟨s0, s1, s2, s3, s4, s5, s6⟩ := hSq
            go_simp
            try with_reducible rfl
          try simp only [Act.put]
          refine wpAnyX_take 4 (v := ?v4b) rfl (by kernel_rfl) (by kernel_rfl) (by kernel_rfl) (by kernel_rfl) (fun _ _ _ h => h) HS0 (Or.inl ⟨by rfl, ?y4b⟩) ?r4b
          case y4b =>
            intro wq hSq
            obtain ⟨s0, s1, s2, s3, s4, s5, s6⟩ := hSq
            go_simp
            try with_reducible rfl
          try simp only [Act.put]
          refine wpAnyX_take 5 (v := ?v5b) rfl (by kernel_rfl) (by kernel_rfl) (by kernel_rfl) (by kernel_rfl) (fun _ _ _ h => h) HS0 (Or.inl ⟨by rfl, ?y5b⟩) ?r5b
          case y5b =>
            intro wq hSq
            obtain ⟨s0, s1, s2, s3, s4, s5, s6⟩ := hSq
            go_simp
            try with_reducible rfl
          try simp only [Act.put]
          refine wpAnyX_take 6 (v := ?v6b) rfl (by kernel_rfl) (by kernel_rfl) (by kernel_rfl) (by kernel_rfl) (fun _ _ _ h => h) HS0 (Or.inl ⟨by rfl, ?y6b⟩) ?r6b
          case y6b =>
            intro wq hSq
            obtain ⟨s0, s1, s2, s3, s4, s5, s6⟩ := hSq
            go_simp
            try with_reducible rfl
          try simp only [Act.put]
          refine wpAnyX_take 7 (v := ?v7b) rfl (by kernel_rfl) (by kernel_rfl) (by kernel_rfl) (by kernel_rfl) (fun _ _ _ h => h) HS0 (Or.inl ⟨by rfl, ?y7b⟩) ?r7b
          case y7b =>
            intro wq hSq
            obtain ⟨s0, s1, s2, s3, s4, s5, s6⟩ := hSq
            go_simp
            try with_reducible rfl
          try simp only [Act.put]
          refine wpAnyX_take 8 (v := ?v8b) rfl (by kernel_rfl) (by kernel_rfl) (by kernel_rfl) (by kernel_rfl) (fun _ _ _ h => h) HS0 (Or.inl ⟨by rfl, ?y8b⟩) ?r8b
          case y8b =>
            intro wq hSq
            obtain ⟨s0, s1, s2, s3, s4, s5, s6⟩ := hSq
            go_simp
            try with_reducible rfl
          try simp only [Act.put]
          refine wpAnyX_take 9 (v := ?v9b) rfl (by kernel_rfl) (by kernel_rfl) (by kernel_rfl) (by kernel_rfl) (fun _ _ _ h => h) HS0 (Or.inl ⟨by rfl, ?y9b⟩) ?r9b
          case y9b =>
            intro wq hSq
            obtain ⟨s0, s1, s2, s3, s4, s5, s6⟩ := hSq
            go_simp
            try with_reducible rfl
          try simp only [Act.put]
          clear HS0
          refine wpAnyX_one 10 (by kernel_rfl) rfl (fun K hK => ?_)
          go_simp
          go_at_call 54
          refine (rset_b vs HVB.out Av lv cv Ag lg cg Ay ly cy A1 c1 sv v hn _ (HV0.out.below (HS2.out.b0.trans (HD0.out.mono HS2.out.b0.size))) (HS2.out.zv.1.below HD0.out) hlv HHV.out.1 (by rw [← HVL.out]; exact HHV.out.2)).mono ?_
          rintro e w5 ⟨A9, c9, rfl, hz9, hb9⟩
          have HD2 := Lib.hid (HD0.out.trans (hb9.mono HD0.out.size))
          have HZ9 : Hid (ZsN (fun b => (S b ∧ b < w.heap.size) ∨ w.heap.size + 1 + 1 + 1 ≤ b) w5 A9 lv c9 (setV vs sv v hn)) := Lib.hid (hz9.to (Keeps.mono fun b _ hb => .inr (by have h1 := HS2.out.ne.2.2; have h2 := HD0.out.size; omega)))
          refine hK _ _ (fun _ => KP.out _ HD2.out) ?_
          clear hK K hb9 hz9
          try simp only [Act.put]
          have HS5 := Lib.hid (HS2.out.next HD2.out)
          have t0 := HS5.out.st.at 0 _ rfl
          have tf0 := HS5.out.st.free 0
          have htl := HS5.out.st.lt
          refine wpAnyX_one 11 (by kernel_rfl) rfl (fun K hK => ?_)
          go_simp
          refine hK _ _ (fun h => absurd h (by decide)) ?_
          clear hK K
          try simp only [Act.put]
          refine wpAnyX_one 12 (by kernel_rfl) rfl (fun K hK => ?_)
          go_simp
          refine hK _ _ (fun h => absurd h (by decide)) ?_
          clear hK K
          refine wpAnyX_done (by kernel_rfl) ?_ _
          have HSn : Hid (Sr w0 w w.heap.size (w.heap.size + 1) (w.heap.size + 1 + 1) (w.heap.size + 1 + 1 + 1) S [.slice Av lv cv, .slice Ag lg cg, .slice Ay ly cy] lv A9 c9 A2 c2 ⟨setV vs sv v hn, so, tz⟩ (w5.setCell ⟨w.heap.size + 1, 0, none⟩ (.slice A9 lv c9))) := Lib.hid (HS5.out.val HZ9.out)
          have hev := HEV.out
          have hnx := run_next hkl HKID.out HRS.out hev HFT0.out HRM.out HVB.out
          have HN1 := Lib.hid hnx.1
          have HN2 := Lib.hid hnx.2
          clear hnx hev HS2 HQ2 HD0 HD2 KP HZ9 HS5 HEV t0 tf0 htl
          go_wp2_with fail
          go_roundw
          case rel => exact ⟨k + 1, _, A9, c9, A2, c2, _, by omega, by go_num, HN1, HSn, HN2⟩
          case measure => simp [intOf]; omega
        · obtain ⟨tw, htw⟩ : ∃ z, settledP bs tz = z := ⟨_, rfl⟩
          have HTW := Lib.hid htw
          have hev : runO vs hats (.mk 6 x1 v n (.mk o tn tk) th el bs) ⟨sv, so, st0⟩ = ⟨sv, so, tw⟩ := by
            rw [(runO_act vs hats 6 x1 v n (.mk o tn tk) th el bs ⟨sv, so, st0⟩ (by decide) (by decide)), actM, if_neg (by decide), if_neg (by decide), if_neg (by decide), if_pos rfl]
            simp only [HTZ.out, htw]
          have HEV := Lib.hid hev
          clear htw hev
          have n9 := HQ2.out.at 9 _ rfl
          have t2 := HS2.out.st.at 2 _ rfl
          have tf2 := HS2.out.st.free 2
          have htl := HS2.out.st.lt
          go_wp2_with fail
          go_at_call 56
          refine (rsettled_b bs tz tw HTW Ab lb cb _ (HTB.out.below HS2.out.b0)).mono ?_
          rintro e w4 ⟨rfl, rfl⟩
          have HSn := Lib.hid (HS2.out.time tw)
          have hev := HEV.out
          have hnx := run_next hkl HKID.out HRS.out hev HFT0.out HRM.out HVB.out
          have HN1 := Lib.hid hnx.1
          have HN2 := Lib.hid hnx.2
          clear hnx hev HQ2 HEV n9
          go_wp2_with fail
          go_roundw
          case rel => exact ⟨k + 1, _, A1, c1, A2, c2, _, by omega, by go_num, HN1, HSn, HN2⟩
          case measure => simp [intOf]; omega
      · obtain rfl : k = l := by omega
        have hs : (⟨sv, so, st0⟩ : Ms) = s' := by rw [← HRS.out, List.drop_of_length_le (by rw [HL.out]; exact Nat.le_refl _), runL]
        subst hs
        clear HRS
        have t0 := HS.out.st.at 0 _ rfl; have tf0 := HS.out.st.free 0; have t1 := HS.out.st.at 1 _ rfl; have tf1 := HS.out.st.free 1; have t2 := HS.out.st.at 2 _ rfl; have tf2 := HS.out.st.free 2; have htl := HS.out.st.lt
        have r0 := HS.out.r.at 0 _ rfl; have rf0 := HS.out.r.free 0; have r1 := HS.out.r.at 1 _ rfl; have rf1 := HS.out.r.free 1; have r2 := HS.out.r.at 2 _ rfl; have rf2 := HS.out.r.free 2; have hrl := HS.out.r.lt
        go_wp2_with fail
        have HF := ((HS.out.r.set 0 (.slice A1 lv c1) (by simp)).set 1 (.slice A2 (⟨sv, so, st0⟩ : Ms).o.length c2) (by simp)).set 2 (.int .i64 (⟨sv, so, st0⟩ : Ms).t) (by simp)
        have z0 := HF.at 0 _ rfl
        have z1 := HF.at 1 _ rfl
        have z2 := HF.at 2 _ rfl
        refine bodyPost_ret (v := .agg #[.slice A1 lv c1, .slice A2 (⟨sv, so, st0⟩ : Ms).o.length c2, .int .i64 (⟨sv, so, st0⟩ : Ms).t]) (by simp [results, Tryz.results24, go_sem, z0, z1, z2]) rfl ?_
        exact HS.out.done
end Go.Proofs.YtjpjmoejdkmglaaGreat
