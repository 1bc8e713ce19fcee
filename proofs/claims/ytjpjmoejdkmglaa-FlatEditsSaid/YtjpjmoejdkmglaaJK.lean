/-
  Trees in memory whose blocks are known, and rows of their cells; no program is in sight here.
  The walk over copyTerm.
  The walks over copyStep and copySteps.
  The walk over without.
-/
import Derived.Test.YtjpjmoejdkmglaaFlMm
import Derived.Test.YtjpjmoejdkmglaaFlDe
import Derived.Deep.RegionLaw
import Derived.Deep.AppendLies
import Derived.Deep.Cut
import Derived.Test.YtjpjmoejdkmglaaFlQc
import Derived.Test.YtjpjmoejdkmglaaJN
import Derived.Test.YtjpjmoejdkmglaaJF
namespace Go.Proofs.Ytjpjmoejdkmglaa
open Go.RowKit

/-- From world to world: the blocks of S are there and unchanged, and they are of S'. -/
def Keeps (S S' : Nat → Prop) (w w' : World) : Prop := ∀ b, b < w.heap.size → S b → S' b ∧ b < w'.heap.size ∧ ∀ j, w'.cell? ⟨b, j, none⟩ = w.cell? ⟨b, j, none⟩
theorem Keeps.below {S : Nat → Prop} {w w' : World} (hb : Below w.heap.size w w') : Keeps S S w w' := fun b h hs => ⟨hs, Nat.lt_of_lt_of_le h hb.size, fun j => hb.cell (p := ⟨b, j, none⟩) h⟩
theorem Keeps.mono {S S' : Nat → Prop} {w : World} (h : ∀ b, b < w.heap.size → S b → S' b) : Keeps S S' w w := fun b hb hs => ⟨h b hb hs, hb, fun _ => rfl⟩
theorem Keeps.fr {S T : Nat → Prop} {w w' : World} (hf : Fr T w w') (h : ∀ b, S b → ¬ T b) : Keeps S S w w' := fun b hb hs => ⟨hs, Nat.lt_of_lt_of_le hb hf.size, fun j => hf.cell (p := ⟨b, j, none⟩) hb (h b hs)⟩
theorem Keeps.trans {S S' S'' : Nat → Prop} {w w' w'' : World} (h : Keeps S S' w w') (k : Keeps S' S'' w' w'') : Keeps S S'' w w'' := fun b hb hs => by
  obtain ⟨h1, h2, h3⟩ := h b hb hs
  obtain ⟨k1, k2, k3⟩ := k b h2 h1
  exact ⟨k1, k2, fun j => (k3 j).trans (h3 j)⟩
mutual
/-- As Td, all blocks in S. -/
def TdN (S : Nat → Prop) (w : World) : Option Addr → Nat → List Tm → Prop
  | _, _, [] => True
  | A, i, k :: ks => TdEN S w A i k ∧ TdN S w A (i + 1) ks
def TdEN (S : Nat → Prop) (w : World) : Option Addr → Nat → Tm → Prop
  | A, i, .mk o n ks => ∃ g f A' c, A = some ⟨g, f, none⟩ ∧ (S g ∧ g < w.heap.size) ∧ ks.length ≤ c ∧ c ≤ maxLen ∧
      w.cell? ⟨g, f + i * 3, none⟩ = some (.int .i64 o) ∧ w.cell? ⟨g, f + i * 3 + 1, none⟩ = some (.int .i64 n) ∧ w.cell? ⟨g, f + i * 3 + 2, none⟩ = some (.slice A' ks.length c) ∧ TdN S w A' 0 ks
end
mutual
theorem TdN.to {S S' : Nat → Prop} {w w' : World} (hb : Keeps S S' w w') : ∀ (A : Option Addr) (i : Nat) (ks : List Tm), TdN S w A i ks → TdN S' w' A i ks
  | _, _, [], _ => by simp [TdN]
  | A, i, k :: ks, h => by
    simp only [TdN] at h ⊢
    exact ⟨TdEN.to hb A i k h.1, TdN.to hb A (i + 1) ks h.2⟩
theorem TdEN.to {S S' : Nat → Prop} {w w' : World} (hb : Keeps S S' w w') : ∀ (A : Option Addr) (i : Nat) (k : Tm), TdEN S w A i k → TdEN S' w' A i k
  | A, i, .mk o n ks, h => by
    simp only [TdEN] at h ⊢
    obtain ⟨g, f, A', c, h1, ⟨h2, h2'⟩, h3, h4, c0, c1, c2, hk⟩ := h
    obtain ⟨b1, b2, b3⟩ := hb g h2' h2
    exact ⟨g, f, A', c, h1, ⟨b1, b2⟩, h3, h4, (b3 _).trans c0, (b3 _).trans c1, (b3 _).trans c2, TdN.to hb A' 0 ks hk⟩
end
mutual
theorem TdN.td {S : Nat → Prop} {w : World} : ∀ (A : Option Addr) (i : Nat) (ks : List Tm), TdN S w A i ks → Td w A i ks
  | _, _, [], _ => by simp [Td]
  | A, i, k :: ks, h => by
    simp only [TdN, Td] at h ⊢
    exact ⟨TdEN.td A i k h.1, TdN.td A (i + 1) ks h.2⟩
theorem TdEN.td {S : Nat → Prop} {w : World} : ∀ (A : Option Addr) (i : Nat) (k : Tm), TdEN S w A i k → TdE w A i k
  | A, i, .mk o n ks, h => by
    simp only [TdEN, TdE] at h ⊢
    obtain ⟨g, f, A', c, h1, ⟨h2, h2'⟩, h3, h4, c0, c1, c2, hk⟩ := h
    exact ⟨g, f, A', c, h1, h2', h3, h4, c0, c1, c2, TdN.td A' 0 ks hk⟩
end
mutual
theorem Td.tdN {w : World} : ∀ (A : Option Addr) (i : Nat) (ks : List Tm), Td w A i ks → TdN (fun b => b < w.heap.size) w A i ks
  | _, _, [], _ => by simp [TdN]
  | A, i, k :: ks, h => by
    simp only [TdN, Td] at h ⊢
    exact ⟨TdE.tdN A i k h.1, Td.tdN A (i + 1) ks h.2⟩
theorem TdE.tdN {w : World} : ∀ (A : Option Addr) (i : Nat) (k : Tm), TdE w A i k → TdEN (fun b => b < w.heap.size) w A i k
  | A, i, .mk o n ks, h => by
    simp only [TdEN, TdE] at h ⊢
    obtain ⟨g, f, A', c, h1, h2, h3, h4, c0, c1, c2, hk⟩ := h
    exact ⟨g, f, A', c, h1, ⟨h2, h2⟩, h3, h4, c0, c1, c2, Td.tdN A' 0 ks hk⟩
end
def TOkN (S : Nat → Prop) (w : World) (A : Option Addr) (c : Nat) (ks : List Tm) : Prop := ks.length ≤ c ∧ c ≤ maxLen ∧ TdN S w A 0 ks
theorem TOkN.to {S S' : Nat → Prop} {w w' : World} {A : Option Addr} {c : Nat} {ks : List Tm} (h : TOkN S w A c ks) (hb : Keeps S S' w w') : TOkN S' w' A c ks := ⟨h.1, h.2.1, TdN.to hb A 0 ks h.2.2⟩
theorem TOkN.ok {S : Nat → Prop} {w : World} {A : Option Addr} {c : Nat} {ks : List Tm} (h : TOkN S w A c ks) : TOk w A c ks := ⟨h.1, h.2.1, TdN.td A 0 ks h.2.2⟩
theorem TOk.okN {w : World} {A : Option Addr} {c : Nat} {ks : List Tm} (h : TOk w A c ks) : TOkN (fun b => b < w.heap.size) w A c ks := ⟨h.1, h.2.1, Td.tdN A 0 ks h.2.2⟩
theorem TOkN.nil (S : Nat → Prop) (w : World) : TOkN S w none 0 [] := ⟨Nat.le_refl _, Nat.zero_le _, by simp [TdN]⟩
/-- Integers whose block is in S. -/
def ZsN (S : Nat → Prop) (w : World) (A : Option Addr) (l c : Nat) (zs : List Int) : Prop := Zs w A l c zs ∧ (0 < l → ∀ ad, A = some ad → S ad.block)
theorem ZsN.to {S S' : Nat → Prop} {w w' : World} {A : Option Addr} {l c : Nat} {zs : List Int} (h : ZsN S w A l c zs) (hb : Keeps S S' w w') : ZsN S' w' A l c zs := by
  refine ⟨⟨h.1.len, h.1.cap, h.1.big, fun h0 => ?_⟩, fun h0 ad ha => ?_⟩
  · obtain ⟨g, f, h1, h2, h3⟩ := h.1.mem h0
    obtain ⟨b1, b2, b3⟩ := hb g h2 (h.2 h0 _ h1)
    exact ⟨g, f, h1, b2, fun j hj => (b3 _).trans (h3 j hj)⟩
  · obtain ⟨g, f, h1, h2, h3⟩ := h.1.mem h0
    obtain ⟨b1, b2, b3⟩ := hb g h2 (h.2 h0 _ h1)
    rw [ha] at h1
    cases h1
    exact b1
theorem Zs.zsN {w : World} {A : Option Addr} {l c : Nat} {zs : List Int} (h : Zs w A l c zs) : ZsN (fun b => b < w.heap.size) w A l c zs := ⟨h, fun h0 ad ha => by
  obtain ⟨g, f, h1, h2, h3⟩ := h.mem h0
  rw [ha] at h1
  cases h1
  exact h2⟩
mutual
/-- As Sd, all blocks in S. -/
def SdN (S : Nat → Prop) (w : World) : Option Addr → Nat → List Sp → Prop
  | _, _, [] => True
  | A, i, k :: ks => SdEN S w A i k ∧ SdN S w A (i + 1) ks
def SdEN (S : Nat → Prop) (w : World) : Option Addr → Nat → Sp → Prop
  | A, i, .mk d k v n (.mk o tn tk) th el bs => ∃ g f At ct Ah ch Ae ce Ab cb, A = some ⟨g, f, none⟩ ∧ (S g ∧ g < w.heap.size) ∧
      SCell w g (f + i * 10) d k v n o tn At tk.length ct Ah th.length ch Ae el.length ce Ab bs.length cb ∧ TOkN S w At ct tk ∧ (th.length ≤ ch ∧ ch ≤ maxLen ∧ SdN S w Ah 0 th) ∧ (el.length ≤ ce ∧ ce ≤ maxLen ∧ SdN S w Ae 0 el) ∧ ZsN S w Ab bs.length cb bs
end
theorem SCell.to {w w' : World} {g f : Nat} {d k v n o tn : Int} {At : Option Addr} {lt ct : Nat} {Ah : Option Addr} {lh ch : Nat} {Ae : Option Addr} {le ce : Nat} {Ab : Option Addr} {lb cb : Nat} (h : SCell w g f d k v n o tn At lt ct Ah lh ch Ae le ce Ab lb cb) (hc : ∀ j, w'.cell? ⟨g, j, none⟩ = w.cell? ⟨g, j, none⟩) : SCell w' g f d k v n o tn At lt ct Ah lh ch Ae le ce Ab lb cb :=
  ⟨(hc _).trans h.c0, (hc _).trans h.c1, (hc _).trans h.c2, (hc _).trans h.c3, (hc _).trans h.c4, (hc _).trans h.c5, (hc _).trans h.c6, (hc _).trans h.c7, (hc _).trans h.c8, (hc _).trans h.c9⟩
mutual
theorem SdN.to {S S' : Nat → Prop} {w w' : World} (hb : Keeps S S' w w') : ∀ (A : Option Addr) (i : Nat) (ks : List Sp), SdN S w A i ks → SdN S' w' A i ks
  | _, _, [], _ => by simp [SdN]
  | A, i, k :: ks, h => by
    simp only [SdN] at h ⊢
    exact ⟨SdEN.to hb A i k h.1, SdN.to hb A (i + 1) ks h.2⟩
theorem SdEN.to {S S' : Nat → Prop} {w w' : World} (hb : Keeps S S' w w') : ∀ (A : Option Addr) (i : Nat) (k : Sp), SdEN S w A i k → SdEN S' w' A i k
  | A, i, .mk d k v n (.mk o tn tk) th el bs, h => by
    simp only [SdEN] at h ⊢
    obtain ⟨g, f, At, ct, Ah, ch, Ae, ce, Ab, cb, h1, ⟨h2, h2'⟩, hc, ht, ⟨h3, h4, h5⟩, ⟨h6, h7, h8⟩, h9⟩ := h
    obtain ⟨b1, b2, b3⟩ := hb g h2' h2
    exact ⟨g, f, At, ct, Ah, ch, Ae, ce, Ab, cb, h1, ⟨b1, b2⟩, hc.to b3, ht.to hb, ⟨h3, h4, SdN.to hb Ah 0 th h5⟩, ⟨h6, h7, SdN.to hb Ae 0 el h8⟩, h9.to hb⟩
end
mutual
theorem SdN.sd {S : Nat → Prop} {w : World} : ∀ (A : Option Addr) (i : Nat) (ks : List Sp), SdN S w A i ks → Sd w A i ks
  | _, _, [], _ => by simp [Sd]
  | A, i, k :: ks, h => by
    simp only [SdN, Sd] at h ⊢
    exact ⟨SdEN.sd A i k h.1, SdN.sd A (i + 1) ks h.2⟩
theorem SdEN.sd {S : Nat → Prop} {w : World} : ∀ (A : Option Addr) (i : Nat) (k : Sp), SdEN S w A i k → SdE w A i k
  | A, i, .mk d k v n (.mk o tn tk) th el bs, h => by
    simp only [SdEN, SdE] at h ⊢
    obtain ⟨g, f, At, ct, Ah, ch, Ae, ce, Ab, cb, h1, ⟨h2, h2'⟩, hc, ht, ⟨h3, h4, h5⟩, ⟨h6, h7, h8⟩, h9⟩ := h
    exact ⟨g, f, At, ct, Ah, ch, Ae, ce, Ab, cb, h1, h2', hc, ht.ok, ⟨h3, h4, SdN.sd Ah 0 th h5⟩, ⟨h6, h7, SdN.sd Ae 0 el h8⟩, h9.1⟩
end
mutual
theorem Sd.sdN {w : World} : ∀ (A : Option Addr) (i : Nat) (ks : List Sp), Sd w A i ks → SdN (fun b => b < w.heap.size) w A i ks
  | _, _, [], _ => by simp [SdN]
  | A, i, k :: ks, h => by
    simp only [SdN, Sd] at h ⊢
    exact ⟨SdE.sdN A i k h.1, Sd.sdN A (i + 1) ks h.2⟩
theorem SdE.sdN {w : World} : ∀ (A : Option Addr) (i : Nat) (k : Sp), SdE w A i k → SdEN (fun b => b < w.heap.size) w A i k
  | A, i, .mk d k v n (.mk o tn tk) th el bs, h => by
    simp only [SdEN, SdE] at h ⊢
    obtain ⟨g, f, At, ct, Ah, ch, Ae, ce, Ab, cb, h1, h2, hc, ht, ⟨h3, h4, h5⟩, ⟨h6, h7, h8⟩, h9⟩ := h
    exact ⟨g, f, At, ct, Ah, ch, Ae, ce, Ab, cb, h1, ⟨h2, h2⟩, hc, ht.okN, ⟨h3, h4, Sd.sdN Ah 0 th h5⟩, ⟨h6, h7, Sd.sdN Ae 0 el h8⟩, h9.zsN⟩
end
def SOkN (S : Nat → Prop) (w : World) (A : Option Addr) (c : Nat) (ks : List Sp) : Prop := ks.length ≤ c ∧ c ≤ maxLen ∧ SdN S w A 0 ks
theorem SOkN.to {S S' : Nat → Prop} {w w' : World} {A : Option Addr} {c : Nat} {ks : List Sp} (h : SOkN S w A c ks) (hb : Keeps S S' w w') : SOkN S' w' A c ks := ⟨h.1, h.2.1, SdN.to hb A 0 ks h.2.2⟩
theorem SOkN.ok {S : Nat → Prop} {w : World} {A : Option Addr} {c : Nat} {ks : List Sp} (h : SOkN S w A c ks) : SOk w A c ks := ⟨h.1, h.2.1, SdN.sd A 0 ks h.2.2⟩
theorem SOk.okN {w : World} {A : Option Addr} {c : Nat} {ks : List Sp} (h : SOk w A c ks) : SOkN (fun b => b < w.heap.size) w A c ks := ⟨h.1, h.2.1, Sd.sdN A 0 ks h.2.2⟩
theorem SOkN.nil (S : Nat → Prop) (w : World) : SOkN S w none 0 [] := ⟨Nat.le_refl _, Nat.zero_le _, by simp [SdN]⟩

/-! ### Rows -/
/-- The cells of terms. -/
def TRow (S : Nat → Prop) (w : World) : List Value → List Tm → Prop
  | xs, [] => xs = []
  | xs, k :: r => ∃ A c ys, xs = .int .i64 k.op :: .int .i64 k.num :: .slice A k.kids.length c :: ys ∧ TOkN S w A c k.kids ∧ TRow S w ys r
theorem TRow.to {S S' : Nat → Prop} {w w' : World} (hb : Keeps S S' w w') : ∀ (xs : List Value) (ks : List Tm), TRow S w xs ks → TRow S' w' xs ks
  | _, [], h => h
  | _, k :: r, h => by
    obtain ⟨A, c, ys, h1, h2, h3⟩ := h
    exact ⟨A, c, ys, h1, h2.to hb, TRow.to hb ys r h3⟩
theorem TRow.snoc {S : Nat → Prop} {w : World} {o n : Int} {tk : List Tm} {A : Option Addr} {c : Nat} (hn : TOkN S w A c tk) : ∀ (xs : List Value) (ks : List Tm), TRow S w xs ks → TRow S w (xs ++ [.int .i64 o, .int .i64 n, .slice A tk.length c]) (ks ++ [.mk o n tk])
  | xs, [], h => by
    have h' : xs = [] := h
    subst h'
    exact ⟨A, c, [], rfl, hn, rfl⟩
  | _, k :: r, h => by
    obtain ⟨A1, c1, ys, h1, h2, h3⟩ := h
    subst h1
    exact ⟨A1, c1, _, rfl, h2, TRow.snoc hn ys r h3⟩
theorem TRow.len {S : Nat → Prop} {w : World} : ∀ (xs : List Value) (ks : List Tm), TRow S w xs ks → xs.length = ks.length * 3
  | xs, [], h => by
    have h' : xs = [] := h
    subst h'
    rfl
  | _, k :: r, h => by
    obtain ⟨A1, c1, ys, h1, h2, h3⟩ := h
    have := TRow.len ys r h3
    subst h1
    simp only [List.length_cons, this]
    omega
theorem TRow.td {S : Nat → Prop} {w : World} {g : Nat} (hg : S g ∧ g < w.heap.size) : ∀ (xs : List Value) (ks : List Tm) (i : Nat), TRow S w xs ks → (∀ j u, xs[j]? = some u → w.cell? ⟨g, 0 + i * 3 + j, none⟩ = some u) → TdN S w (some ⟨g, 0, none⟩) i ks
  | _, [], _, _, _ => by simp [TdN]
  | _, .mk o n tk :: r, i, h, hc => by
    obtain ⟨A1, c1, ys, h1, h2, h3⟩ := h
    subst h1
    refine ⟨⟨g, 0, A1, c1, rfl, hg, h2.1, h2.2.1, hc 0 _ rfl, hc 1 _ rfl, hc 2 _ rfl, h2.2.2⟩, TRow.td hg ys r (i + 1) h3 fun j u hu => ?_⟩
    have := hc (j + 3) u (by simpa using hu)
    rw [show 0 + (i + 1) * 3 + j = 0 + i * 3 + (j + 3) by omega]
    exact this
theorem trow_ok {S : Nat → Prop} {w : World} {base : Nat} {e : TypeId} {A : Option Addr} {n c : Nat} {xs : List Value} {ks : List Tm} (h : w.ownsRow base e 3 (.slice A n c) n xs) (hr : TRow S w xs ks) (hl : ks.length = n) (hb : ∀ b, base ≤ b → S b) : TOkN S w A c ks := by
  obtain ⟨h1, h2, h3⟩ := own_cells h
  refine ⟨by omega, h2, ?_⟩
  rcases Nat.eq_zero_or_pos n with h0 | h0
  · have : ks = [] := List.eq_nil_of_length_eq_zero (by omega)
    subst this
    simp [TdN]
  · obtain ⟨g, rfl, hg, hc⟩ := h3 h0
    exact TRow.td ⟨hb g (h.lt g rfl).1, hg⟩ xs ks 0 hr fun j u hu => by rw [show 0 + 0 * 3 + j = j by omega]; exact hc j u hu
/-- The value v is the step s; all its blocks are in S. -/
def SValN (S : Nat → Prop) (W : World) (s : Sp) (vv : Value) : Prop :=
  ∃ (d x1 v n o tn : Int) (tk : List Tm) (th el : List Sp) (bs : List Int) (At : Option Addr) (ct : Nat) (Ah : Option Addr) (ch : Nat) (Ae : Option Addr) (ce : Nat) (Ab : Option Addr) (cb : Nat),
    s = .mk d x1 v n (.mk o tn tk) th el bs ∧ vv = .agg #[.int .i64 d, .int .i64 x1, .int .i64 v, .int .i64 n, .int .i64 o, .int .i64 tn, .slice At tk.length ct, .slice Ah th.length ch, .slice Ae el.length ce, .slice Ab bs.length cb] ∧ TOkN S W At ct tk ∧ SOkN S W Ah ch th ∧ SOkN S W Ae ce el ∧ ZsN S W Ab bs.length cb bs
/-- The cells of steps. -/
def SRow (S : Nat → Prop) (w : World) : List Value → List Sp → Prop
  | xs, [] => xs = []
  | xs, k :: r => ∃ cs ys, xs = cs ++ ys ∧ cs.length = 10 ∧ SValN S w k (.agg cs.toArray) ∧ SRow S w ys r
theorem SValN.to {S S' : Nat → Prop} {w w' : World} {s : Sp} {vv : Value} (h : SValN S w s vv) (hb : Keeps S S' w w') : SValN S' w' s vv := by
  obtain ⟨d, x1, v, n, o, tn, tk, th, el, bs, At, ct, Ah, ch, Ae, ce, Ab, cb, h1, h2, h3, h4, h5, h6⟩ := h
  exact ⟨d, x1, v, n, o, tn, tk, th, el, bs, At, ct, Ah, ch, Ae, ce, Ab, cb, h1, h2, h3.to hb, h4.to hb, h5.to hb, h6.to hb⟩
theorem SRow.to {S S' : Nat → Prop} {w w' : World} (hb : Keeps S S' w w') : ∀ (xs : List Value) (ks : List Sp), SRow S w xs ks → SRow S' w' xs ks
  | _, [], h => h
  | _, k :: r, h => by
    obtain ⟨cs, ys, h1, h2, h3, h4⟩ := h
    exact ⟨cs, ys, h1, h2, h3.to hb, SRow.to hb ys r h4⟩
theorem SRow.snoc {S : Nat → Prop} {w : World} {s : Sp} {cs : List Value} (hl : cs.length = 10) (hn : SValN S w s (.agg cs.toArray)) : ∀ (xs : List Value) (ks : List Sp), SRow S w xs ks → SRow S w (xs ++ cs) (ks ++ [s])
  | xs, [], h => by
    have h' : xs = [] := h
    subst h'
    exact ⟨cs, [], by simp, hl, hn, rfl⟩
  | _, k :: r, h => by
    obtain ⟨cs1, ys, h1, h2, h3, h4⟩ := h
    subst h1
    exact ⟨cs1, _, by rw [List.append_assoc], h2, h3, SRow.snoc hl hn ys r h4⟩
theorem SRow.td {S : Nat → Prop} {w : World} {g : Nat} (hg : S g ∧ g < w.heap.size) : ∀ (xs : List Value) (ks : List Sp) (i : Nat), SRow S w xs ks → (∀ j u, xs[j]? = some u → w.cell? ⟨g, 0 + i * 10 + j, none⟩ = some u) → SdN S w (some ⟨g, 0, none⟩) i ks
  | _, [], _, _, _ => by simp [SdN]
  | _, s :: r, i, h, hc => by
    obtain ⟨cs, ys, h1, hl, h2, h3⟩ := h
    subst h1
    have hr : SdN S w (some ⟨g, 0, none⟩) (i + 1) r := SRow.td hg ys r (i + 1) h3 fun j u hu => by
      have := hc (j + 10) u (by rw [List.getElem?_append_right (by omega), hl, Nat.add_sub_cancel]; exact hu)
      rw [show 0 + (i + 1) * 10 + j = 0 + i * 10 + (j + 10) by omega]
      exact this
    obtain ⟨d, x1, v, n, o, tn, tk, th, el, bs, At, ct, Ah, ch, Ae, ce, Ab, cb, rfl, e, k3, k4, k5, k6⟩ := h2
    have e2 : cs = [.int .i64 d, .int .i64 x1, .int .i64 v, .int .i64 n, .int .i64 o, .int .i64 tn, .slice At tk.length ct, .slice Ah th.length ch, .slice Ae el.length ce, .slice Ab bs.length cb] := by
      injection e with e
      have := congrArg Array.toList e
      simpa using this
    subst e2
    exact ⟨⟨g, 0, At, ct, Ah, ch, Ae, ce, Ab, cb, rfl, hg, ⟨hc 0 _ rfl, hc 1 _ rfl, hc 2 _ rfl, hc 3 _ rfl, hc 4 _ rfl, hc 5 _ rfl, hc 6 _ rfl, hc 7 _ rfl, hc 8 _ rfl, hc 9 _ rfl⟩, k3, k4, k5, k6⟩, hr⟩
theorem SRow.len {S : Nat → Prop} {w : World} : ∀ (xs : List Value) (ks : List Sp), SRow S w xs ks → xs.length = ks.length * 10
  | xs, [], h => by
    have h' : xs = [] := h
    subst h'
    rfl
  | _, k :: r, h => by
    obtain ⟨cs, ys, h1, h2, h3, h4⟩ := h
    have := SRow.len ys r h4
    subst h1
    simp only [List.length_cons, List.length_append, this, h2]
    omega
theorem srow_ok {S : Nat → Prop} {w : World} {base : Nat} {e : TypeId} {A : Option Addr} {n c : Nat} {xs : List Value} {ks : List Sp} (h : w.ownsRow base e 10 (.slice A n c) n xs) (hr : SRow S w xs ks) (hl : ks.length = n) (hb : ∀ b, base ≤ b → S b) : SOkN S w A c ks := by
  obtain ⟨h1, h2, h3⟩ := own_cells h
  refine ⟨by omega, h2, ?_⟩
  rcases Nat.eq_zero_or_pos n with h0 | h0
  · have : ks = [] := List.eq_nil_of_length_eq_zero (by omega)
    subst this
    simp [SdN]
  · obtain ⟨g, rfl, hg, hc⟩ := h3 h0
    exact SRow.td ⟨hb g (h.lt g rfl).1, hg⟩ xs ks 0 hr fun j u hu => by rw [show 0 + 0 * 10 + j = j by omega]; exact hc j u hu
/-- A row has grown: what lies in blocks of S but not in the row stays so. -/
theorem keeps_grown {S : Nat → Prop} {w w' : World} {v v' : Value} (hg : w.grownBy w' v.ownBlock) (hv : v'.ownBlock = v.ownBlock ∨ ∀ g, v'.ownBlock = some g → w.heap.size ≤ g) : Keeps (fun b => S b ∧ v.ownBlock ≠ some b) (fun b => S b ∧ v'.ownBlock ≠ some b) w w' := fun b hb hs => by
  have hf := Fr.of_grown hg
  refine ⟨⟨hs.1, fun e => ?_⟩, Nat.lt_of_lt_of_le hb hf.size, fun j => hf.cell (p := ⟨b, j, none⟩) hb hs.2⟩
  rcases hv with h | h
  · rw [h] at e; exact hs.2 e
  · have := h b e; omega
theorem keeps_apart {S S' : Nat → Prop} {w : World} {v : Value} {B : Nat} (hs : ∀ b, S b → S' b ∧ B ≤ b) (hv : ∀ g, v.ownBlock = some g → g < B) : Keeps S (fun b => S' b ∧ v.ownBlock ≠ some b) w w := Keeps.mono fun b _ h => ⟨(hs b h).1, fun e => by have := (hs b h).2; have := hv b e; omega⟩
theorem keeps_end {S : Nat → Prop} {w : World} {v : Value} : Keeps (fun b => S b ∧ v.ownBlock ≠ some b) S w w := Keeps.mono fun _ _ h => h.1

theorem keeps_set {S : Nat → Prop} {w : World} {p : Addr} (u : Value) (h : ∀ b, S b → p.block ≠ b) : Keeps S S w (w.setCell p u) := fun b hb hs => ⟨hs, by simpa using hb, fun j => World.cell?_setCell_far w p ⟨b, j, none⟩ u (h b hs)⟩
theorem row_far {w : World} {B : Nat} {e : TypeId} {size : Nat} {v : Value} {n : Nat} {xs : List Value} (h : w.ownsRow B e size v n xs) {b : Nat} (hb : b < B) : ¬ v.ownBlock = some b := fun e => by have := (h.lt b e).1; omega
theorem infoT : (Try.prog.info? 51).map (fun i => (i.zero, i.size, i.bytes)) = some (some (.agg #[.int .i64 0, .int .i64 0, .slice none 0 0]), 3, 40) := by kernel_rfl
set_option maxRecDepth 100000 in
set_option maxHeartbeats 8000000 in
theorem copyTerm_any (m : Nat) : ∀ (o n : Int) (ks : List Tm) (l : Nat) (A : Option Addr) (c : Nat) (w : World), ks.length = l → Tm.cnt (.mk o n ks) ≤ m → Tm.cnt (.mk o n ks) ≤ 1000000 → TOk w A c ks →
    Calls Try.prog 69 #[.agg #[.int .i64 o, .int .i64 n, .slice A l c]] w fun e w' => ∃ A' c', e = .returned (.agg #[.int .i64 o, .int .i64 n, .slice A' l c']) ∧ TOkN (fun b => w.heap.size ≤ b) w' A' c' ks ∧ Below w.heap.size w w' := by
  induction m with
  | zero =>
    intro o n ks l A c w hl hm hm6 ht
    exact absurd hm (by have := Tm.cnt_pos (.mk o n ks); omega)
  | succ m ih =>
    intro o n ks l A c w hl hm hm6 ht
    have IH := Lib.hid ih
    have HL := Lib.hid hl
    have HM := Lib.hid hm
    have HM6 := Lib.hid hm6
    have HT := Lib.hid ht
    have hlm : l ≤ 1000000 := by have := Tm.len_cntL ks; simp only [Tm.cnt] at hm6; omega
    obtain ⟨i0, hi0, hz0, hz1, hz2⟩ := info_parts infoT
    have HI := Lib.hid (And.intro hi0 (And.intro hz0 (And.intro hz1 hz2)))
    have hb1 := (Below.refl w.heap.size w).alloc (Nat.le_refl _) (.cells #[.int .i64 o, .int .i64 n, .slice A l c] 51)
    have hb2 := hb1.alloc hb1.size (.cells #[.int .i64 0, .int .i64 0, .slice none 0 0] 51)
    have hb3 := hb2.alloc hb2.size (.cells #[.int .i64 o, .int .i64 n, .slice none 0 0] 51)
    have HB := Lib.hid hb3
    have HQ := Lib.hid (((Cs.new w #[.int .i64 o, .int .i64 n, .slice A l c] 51).alloc (.cells #[.int .i64 0, .int .i64 0, .slice none 0 0] 51)).alloc (.cells #[.int .i64 o, .int .i64 n, .slice none 0 0] 51))
    have HR := Lib.hid ((Cs.new1 w (.cells #[.int .i64 o, .int .i64 n, .slice A l c] 51) #[.int .i64 0, .int .i64 0, .slice none 0 0] 51).alloc (.cells #[.int .i64 o, .int .i64 n, .slice none 0 0] 51))
    have HO : Hid (Cs (((w.alloc (.cells #[.int .i64 o, .int .i64 n, .slice A l c] 51)).alloc (.cells #[.int .i64 0, .int .i64 0, .slice none 0 0] 51)).alloc (.cells #[.int .i64 o, .int .i64 n, .slice none 0 0] 51)) (w.heap.size + 2) [.int .i64 o, .int .i64 n, .slice none 0 0]) := Lib.hid (by
      have := Cs.new ((w.alloc (.cells #[.int .i64 o, .int .i64 n, .slice A l c] 51)).alloc (.cells #[.int .i64 0, .int .i64 0, .slice none 0 0] 51)) #[.int .i64 o, .int .i64 n, .slice none 0 0] 51
      simpa using this)
    have HWS : Hid (w.heap.size + 3 ≤ (((w.alloc (.cells #[.int .i64 o, .int .i64 n, .slice A l c] 51)).alloc (.cells #[.int .i64 0, .int .i64 0, .slice none 0 0] 51)).alloc (.cells #[.int .i64 o, .int .i64 n, .slice none 0 0] 51)).heap.size) := Lib.hid (by simp)
    clear ih hl hm hm6 ht hi0 hz0 hz1 hz2 hb1 hb2 hb3
    go_enter Try.func69, Try.ntmps69
    go_upto_region 2 with fail
    obtain ⟨w1, hw1⟩ : ∃ w1, ((w.alloc (.cells #[.int .i64 o, .int .i64 n, .slice A l c] 51)).alloc (.cells #[.int .i64 0, .int .i64 0, .slice none 0 0] 51)).alloc (.cells #[.int .i64 o, .int .i64 n, .slice none 0 0] 51) = w1 := ⟨_, rfl⟩
    rw [hw1] at HB HQ HR HO HWS
    rw [hw1]
    clear hw1
    have a2 := HQ.out.at 2 _ rfl
    go_upto_region 3 with fail
    go_loopw [14] (fun i wr => ∃ (k : Nat) (A2 : Option Addr) (c2 : Nat) (xs : List Value), k ≤ l ∧ i = .int .i64 k ∧ Hid (Below w.heap.size w wr) ∧ Hid (Cs wr (w.heap.size + 1) [.int .i64 0, .int .i64 0, .slice none 0 0]) ∧ Hid (Cs wr (w.heap.size + 2) [.int .i64 o, .int .i64 n, .slice A2 k c2]) ∧ Hid (wr.ownsRow (w.heap.size + 3) 51 3 (.slice A2 k c2) k xs) ∧ Hid (TRow (fun b => w.heap.size + 3 ≤ b ∧ (Value.slice A2 k c2).ownBlock ≠ some b) wr xs (ks.take k)) ∧ Hid (w.heap.size + 3 ≤ wr.heap.size)) (fun i _ => l - (intOf i).toNat)
    case atStart => exact ⟨0, none, 0, [], by omega, rfl, HB, HR, HO, Lib.hid (World.ownsRow_nil _ _ _ _), Lib.hid (by rw [List.take_zero]; rfl), HWS⟩
    case round =>
      clear HB HQ HR HO HWS a2
      obtain ⟨k, A2, c2, xs, hk, rfl, HB, HR, HO, HW, HX, HWS⟩ := hrel
      by_cases hlt : k < l
      · have hkl : k < ks.length := by rw [HL.out]; exact hlt
        have hlt' : (k : Int) < (l : Int) := by omega
        obtain ⟨o1, n1, ks1, g, f, A1, c1, hkid, hA, hg, hok, k0, k1, k2⟩ := (HT.out.below HB.out).kid k hkl
        subst hA
        obtain ⟨l1, hl1⟩ : ∃ l1, ks1.length = l1 := ⟨_, rfl⟩
        rw [hl1] at k2
        have HKID := Lib.hid hkid
        have HL1 := Lib.hid hl1
        have HC1 : Hid (Tm.cnt (.mk o1 n1 ks1) ≤ m ∧ Tm.cnt (.mk o1 n1 ks1) ≤ 1000000) := Lib.hid (by have h1 := Tm.cnt_kid o n ks k hkl; rw [hkid] at h1; have := HM.out; have := HM6.out; omega)
        have hba := (Below.refl wr.heap.size wr).alloc (Nat.le_refl _) (.cells #[.int .i64 o1, .int .i64 n1, .slice A1 l1 c1] 51)
        have HBx := Lib.hid (HB.out.trans (hba.mono HB.out.size))
        have HRx := Lib.hid (HR.out.next hba)
        have HOx := Lib.hid (HO.out.next hba)
        have HWx := Lib.hid (own_below HW.out hba)
        have HXx := Lib.hid (TRow.to (Keeps.below hba) _ _ HX.out)
        have HKx := Lib.hid (hok.below hba)
        have HWSx := Lib.hid (Nat.le_trans HWS.out hba.size)
        have HN := Lib.hid (Cs.new wr #[.int .i64 o1, .int .i64 n1, .slice A1 l1 c1] 51)
        clear hba HB HR HO HW HX hok hkid hl1 HWS
        go_upto_region 5 with fail
        obtain ⟨w4, hw4⟩ : ∃ w4, wr.alloc (.cells #[.int .i64 o1, .int .i64 n1, .slice A1 l1 c1] 51) = w4 := ⟨_, rfl⟩
        obtain ⟨q, hq⟩ : ∃ q, wr.heap.size = q := ⟨_, rfl⟩
        rw [hw4] at HBx HRx HOx HWx HXx HKx HN HWSx
        rw [hq] at HN
        rw [hw4, hq]
        clear hw4 hq k0 k1 k2
        have a0 := HN.out.at 0 _ rfl
        have a1 := HN.out.at 1 _ rfl
        have a2 := HN.out.at 2 _ rfl
        have b2 := HOx.out.at 2 _ rfl
        go_region_law (first
          | (refine step_append_lies _ (by rfl) _ _ _ (by rfl) (w.heap.size + 3) 51 i0 _ 3 40 Try.underlying49 HI.out.1 HI.out.2.1 HI.out.2.2.1 HI.out.2.2.2 rfl (by omega) (.slice A2 k c2) k xs (by rfl) (own_below HWx.out HD3.out) ⟨w5.heap.size, 0, none⟩ 1 1 [.int .i64 o1, .int .i64 n1, .slice A3 l1 c3] (by rfl) (by rfl) (World.news_of_block (cs := #[.int .i64 o1, .int .i64 n1, .slice A3 l1 c3]) (t := 51) (fr := (0, 0)) (heap_alloc_new w5 _)) (by simp [Value.oneCell']) (by omega) (by unfold maxLen; omega) (by omega) HW8.out (w5.heap.size + 1) (by simp) ?_; intro gg cap w6 hown hgrow hat hlt6; have hfr := Fr.of_grown hgrow; have hfar := row_far HWx.out (Nat.lt_succ_self (w.heap.size + 2)); have ho6 := (HOx.out.next HD3.out).fr hfr hfar; have bf2 := ho6.free 2; have b6 := ho6.at 2 _ rfl; have hbl6 := ho6.lt; clear hfr ho6)
          | (go_simp; go_at_call 69; refine (IH.out o1 n1 ks1 l1 A1 c1 _ HL1.out HC1.out.1 HC1.out.2 (HKx.out.below (Below.refl _ _).drew)).mono ?_; rintro e w5 ⟨A3, c3, rfl, ht5, hb5⟩; have HD1 := Lib.hid ((Below.refl w4.heap.size w4).drew.trans (hb5.mono (Nat.le_refl _))); have HT5 : Hid (TOkN (fun b => w4.heap.size ≤ b) w5 A3 c3 ks1) := Lib.hid ht5; have HD3 := Lib.hid (HD1.out.alloc HD1.out.size (.cells #[.int .i64 o1, .int .i64 n1, .slice A3 l1 c3] 51)); have HW8 : Hid (w.heap.size + 3 ≤ (w5.alloc (.cells #[.int .i64 o1, .int .i64 n1, .slice A3 l1 c3] 51)).heap.size) := Lib.hid (Nat.le_trans HWSx.out HD3.out.size); have b5 := (HOx.out.next HD1.out).at 2 _ rfl; have b5c := (HOx.out.next HD3.out).at 2 _ rfl; have hbl5 := (HOx.out.next HD1.out).lt; clear hb5 ht5))
        all_goals
          have HG : Hid (Keeps (fun b => w.heap.size + 3 ≤ b ∧ (Value.slice A2 k c2).ownBlock ≠ some b) (fun b => w.heap.size + 3 ≤ b ∧ (Value.slice (some ⟨gg, 0, none⟩) (k + 1) cap).ownBlock ≠ some b) (w5.alloc (.cells #[.int .i64 o1, .int .i64 n1, .slice A3 l1 c3] 51)) w6) := Lib.hid (keeps_grown hgrow (by rcases hat with h | h; exact .inl (by rw [h]; rfl); exact .inr (fun g hg => by rw [h] at hg; simp [Value.ownBlock] at hg; rw [World.size_alloc]; omega)))
          have HFG := Lib.hid (Fr.of_grown hgrow)
          have HOW := Lib.hid hown
          clear hgrow hown hat
          have HKP : Hid (Keeps (fun b => w4.heap.size ≤ b) (fun b => w.heap.size + 3 ≤ b ∧ (Value.slice A2 k c2).ownBlock ≠ some b) (w5.alloc (.cells #[.int .i64 o1, .int .i64 n1, .slice A3 l1 c3] 51)) (w5.alloc (.cells #[.int .i64 o1, .int .i64 n1, .slice A3 l1 c3] 51))) := Lib.hid (keeps_apart (B := w4.heap.size) (fun b hb => ⟨Nat.le_trans HWSx.out hb, hb⟩) (fun g hg => (HWx.out.lt g hg).2))
          have HT8 := Lib.hid ((HT5.out.to (Keeps.below ((Below.refl w5.heap.size w5).alloc (Nat.le_refl _) (.cells #[.int .i64 o1, .int .i64 n1, .slice A3 l1 c3] 51)))).to HKP.out)
          have HX8 := Lib.hid (TRow.snoc (o := o1) (n := n1) HT8.out _ _ (TRow.to (Keeps.below HD3.out) _ _ HXx.out))
          have HX9 := Lib.hid (TRow.to (keeps_set (p := ⟨w.heap.size + 2, 2, none⟩) (.slice (some ⟨gg, 0, none⟩) (k + 1) cap) (fun b hb => by have := hb.1; simp only; omega)) _ _ (TRow.to HG.out _ _ HX8.out))
          have HX7 : Hid (TRow (fun b => w.heap.size + 3 ≤ b ∧ (Value.slice (some ⟨gg, 0, none⟩) (k + 1) cap).ownBlock ≠ some b) (w6.setCell ⟨w.heap.size + 2, 2, none⟩ (.slice (some ⟨gg, 0, none⟩) (k + 1) cap)) (xs ++ [.int .i64 o1, .int .i64 n1, .slice A3 l1 c3]) (ks.take (k + 1))) := Lib.hid (by have := HX9.out; rw [HL1.out] at this; rw [take_one ks k hkl, HKID.out]; exact this)
          have HO7 : Hid (Cs (w6.setCell ⟨w.heap.size + 2, 2, none⟩ (.slice (some ⟨gg, 0, none⟩) (k + 1) cap)) (w.heap.size + 2) [.int .i64 o, .int .i64 n, (.slice (some ⟨gg, 0, none⟩) (k + 1) cap)]) := Lib.hid (((HOx.out.next HD3.out).fr HFG.out hfar).set 2 (.slice (some ⟨gg, 0, none⟩) (k + 1) cap) (by simp))
          have HR7 := Lib.hid (((HRx.out.next HD3.out).fr HFG.out (row_far HWx.out (show w.heap.size + 1 < w.heap.size + 3 by omega))).other (p := ⟨w.heap.size + 2, 2, none⟩) (by simp) (.slice (some ⟨gg, 0, none⟩) (k + 1) cap))
          have HW7 := Lib.hid (ownsRow_setCell_other (a := ⟨w.heap.size + 2, 2, none⟩) HOW.out (row_far HOW.out (Nat.lt_succ_self _)) (.slice (some ⟨gg, 0, none⟩) (k + 1) cap))
          have HB7 := Lib.hid (((HFG.out.below (HBx.out.trans (HD3.out.mono HBx.out.size)) (fun b hb => by have := (HWx.out.lt b hb).1; omega) (by have := HW8.out; omega)).setCell (p := ⟨w.heap.size + 2, 2, none⟩) (by simp only; omega) (.slice (some ⟨gg, 0, none⟩) (k + 1) cap)))
          have HWS7 : Hid (w.heap.size + 3 ≤ (w6.setCell ⟨w.heap.size + 2, 2, none⟩ (.slice (some ⟨gg, 0, none⟩) (k + 1) cap)).heap.size) := Lib.hid (by have h1 := HW8.out; have h2 := HFG.out.size; rw [World.size_setCell]; omega)
          clear HG HKP HT8 HX8 HX9 HFG HOW HBx HRx HOx HWx HXx HKx HN HWSx HT5 HD1 HD3 HW8 hlt6 hfar bf2 b6 hbl6 b5 b5c hbl5 a0 a1 a2 b2
          go_wp2_with fail
          go_roundw
          case rel => exact ⟨k + 1, some ⟨gg, 0, none⟩, cap, xs ++ [.int .i64 o1, .int .i64 n1, .slice A3 l1 c3], by omega, by go_num, HB7, HR7, HO7, HW7, HX7, HWS7⟩
          case measure => simp [intOf]; omega
      · obtain rfl : k = l := by omega
        have b0 := HO.out.at 0 _ rfl
        have b1 := HO.out.at 1 _ rfl
        have b2 := HO.out.at 2 _ rfl
        have r0 := HR.out.at 0 _ rfl
        have r1 := HR.out.at 1 _ rfl
        have r2 := HR.out.at 2 _ rfl
        have f0 := HR.out.free 0
        have f1 := HR.out.free 1
        have f2 := HR.out.free 2
        have hrl := HR.out.lt
        have HTE := Lib.hid (trow_ok HW.out (TRow.to keeps_end _ _ HX.out) (by rw [List.take_of_length_le (by rw [HL.out]; exact Nat.le_refl _)]; exact HL.out) (fun b h => h))
        go_wp2_with fail
        have HF := ((HR.out.set 0 (.int .i64 o) (by simp)).set 1 (.int .i64 n) (by simp)).set 2 (.slice A2 k c2) (by simp)
        have z0 := HF.at 0 _ rfl
        have z1 := HF.at 1 _ rfl
        have z2 := HF.at 2 _ rfl
        refine bodyPost_ret (v := .agg #[.int .i64 o, .int .i64 n, .slice A2 k c2]) (by simp [results, Try.results69, go_sem, z0, z1, z2]) rfl ?_
        have hts := HTE.out
        rw [List.take_of_length_le (by rw [HL.out]; exact Nat.le_refl _)] at hts
        refine ⟨A2, c2, rfl, (((hts.to (keeps_set (p := ⟨w.heap.size + 1, 0, none⟩) _ (fun b hb => by simp only; omega))).to (keeps_set (p := ⟨w.heap.size + 1, 1, none⟩) _ (fun b hb => by simp only; omega))).to (keeps_set (p := ⟨w.heap.size + 1, 2, none⟩) _ (fun b hb => by simp only; omega))).to (Keeps.mono fun b _ hb => by omega), (((HB.out.setCell (p := ⟨w.heap.size + 1, 0, none⟩) (by simp only; omega) _).setCell (p := ⟨w.heap.size + 1, 1, none⟩) (by simp only; omega) _).setCell (p := ⟨w.heap.size + 1, 2, none⟩) (by simp only; omega) _)⟩

mutual
/-- No list of bounds is longer than x. -/
def bdO (x : Nat) : Sp → Prop
  | .mk _ _ _ _ _ th el bs => bs.length ≤ x ∧ bdL x th ∧ bdL x el
def bdL (x : Nat) : List Sp → Prop
  | [] => True
  | k :: ks => bdO x k ∧ bdL x ks
end
theorem bdL_get {x : Nat} : ∀ (ks : List Sp) (i : Nat) (h : i < ks.length), bdL x ks → bdO x ks[i]
  | [], _, h, _ => absurd h (by simp)
  | k :: ks, 0, _, hb => by rw [bdL] at hb; exact hb.1
  | k :: ks, i + 1, h, hb => by
    rw [bdL] at hb
    exact bdL_get ks i (by simpa using h) hb.2
theorem infoP : (Try.prog.info? 53).map (fun i => (i.zero, i.size, i.bytes)) = some (some (.agg #[.int .i64 0, .int .i64 0, .int .i64 0, .int .i64 0, .int .i64 0, .int .i64 0, .slice none 0 0, .slice none 0 0, .slice none 0 0, .slice none 0 0]), 10, 144) := by kernel_rfl
theorem keeps_st10 {S S' : Nat → Prop} {b : Nat} {W : World} (hb : ∀ k, S k → b ≠ k) (hs : ∀ k, S k → S' k) (v0 v1 v2 v3 v4 v5 v6 v7 v8 v9 : Value) : Keeps S S' W ((((((((((W.setCell ⟨b, 0, none⟩ v0).setCell ⟨b, 1, none⟩ v1).setCell ⟨b, 2, none⟩ v2).setCell ⟨b, 3, none⟩ v3).setCell ⟨b, 4, none⟩ v4).setCell ⟨b, 5, none⟩ v5).setCell ⟨b, 6, none⟩ v6).setCell ⟨b, 7, none⟩ v7).setCell ⟨b, 8, none⟩ v8).setCell ⟨b, 9, none⟩ v9) :=
  ((((((((((keeps_set v0 hb).trans (keeps_set v1 hb)).trans (keeps_set v2 hb)).trans (keeps_set v3 hb)).trans (keeps_set v4 hb)).trans (keeps_set v5 hb)).trans (keeps_set v6 hb)).trans (keeps_set v7 hb)).trans (keeps_set v8 hb)).trans (keeps_set v9 hb)).trans (Keeps.mono fun k _ h => hs k h)
theorem Cs.far10 {W : World} {b a : Nat} {vs : List Value} (h : Cs W b vs) (hb : a ≠ b) (v0 v1 v2 v3 v4 v5 v6 v7 v8 v9 : Value) : Cs ((((((((((W.setCell ⟨a, 0, none⟩ v0).setCell ⟨a, 1, none⟩ v1).setCell ⟨a, 2, none⟩ v2).setCell ⟨a, 3, none⟩ v3).setCell ⟨a, 4, none⟩ v4).setCell ⟨a, 5, none⟩ v5).setCell ⟨a, 6, none⟩ v6).setCell ⟨a, 7, none⟩ v7).setCell ⟨a, 8, none⟩ v8).setCell ⟨a, 9, none⟩ v9) b vs :=
  (((((((((h.other (p := ⟨a, 0, none⟩) hb v0).other (p := ⟨a, 1, none⟩) hb v1).other (p := ⟨a, 2, none⟩) hb v2).other (p := ⟨a, 3, none⟩) hb v3).other (p := ⟨a, 4, none⟩) hb v4).other (p := ⟨a, 5, none⟩) hb v5).other (p := ⟨a, 6, none⟩) hb v6).other (p := ⟨a, 7, none⟩) hb v7).other (p := ⟨a, 8, none⟩) hb v8).other (p := ⟨a, 9, none⟩) hb v9
/-- A copy of a step is handed back. -/
def CopyPost (d x1 v n o tn : Int) (tk : List Tm) (th el : List Sp) (bs : List Int) (lt lh le lb : Nat) (w : World) (e : Ending) (w' : World) : Prop :=
  ∃ (A5 : Option Addr) (c5 : Nat) (A6 : Option Addr) (c6 : Nat) (A7 : Option Addr) (c7 : Nat) (A8 : Option Addr) (c8 : Nat), e = .returned (.agg #[.int .i64 d, .int .i64 x1, .int .i64 v, .int .i64 n, .int .i64 o, .int .i64 tn, .slice A5 lt c5, .slice A6 lh c6, .slice A7 le c7, .slice A8 lb c8]) ∧ SValN (fun b => w.heap.size ≤ b) w' (.mk d x1 v n (.mk o tn tk) th el bs) (.agg #[.int .i64 d, .int .i64 x1, .int .i64 v, .int .i64 n, .int .i64 o, .int .i64 tn, .slice A5 lt c5, .slice A6 lh c6, .slice A7 le c7, .slice A8 lb c8]) ∧ Below w.heap.size w w'
set_option maxRecDepth 100000 in
set_option maxHeartbeats 8000000 in
theorem copyStep_of (m : Nat) (IH : Hid (∀ (ks : List Sp) (l : Nat) (A : Option Addr) (c : Nat) (w : World), ks.length = l → Sp.cntL ks ≤ m → Sp.cntL ks ≤ 1000000 → bdL 1000 ks → SOk w A c ks → Calls Try.prog 101 #[.slice A l c] w fun e w' => ∃ A' c', e = .returned (.slice A' l c') ∧ SOkN (fun b => w.heap.size ≤ b) w' A' c' ks ∧ Below w.heap.size w w')) (d x1 v n o tn : Int) (tk : List Tm) (th el : List Sp) (bs : List Int) (At : Option Addr) (lt ct : Nat) (Ah : Option Addr) (lh ch : Nat) (Ae : Option Addr) (le ce : Nat) (Ab : Option Addr) (lb cb : Nat) (w : World) (hlt : tk.length = lt) (hlh : th.length = lh) (hle : el.length = le) (hlb : bs.length = lb) (hcm : Tm.cnt (.mk o tn tk) ≤ 1000000 ∧ Sp.cntL th ≤ m ∧ Sp.cntL th ≤ 1000000 ∧ Sp.cntL el ≤ m ∧ Sp.cntL el ≤ 1000000 ∧ bdL 1000 th ∧ bdL 1000 el ∧ lb ≤ 1000) (ht : TOk w At ct tk) (hh : SOk w Ah ch th) (he : SOk w Ae ce el) (hz : Zs w Ab lb cb bs) :
    Calls Try.prog 66 #[.agg #[.int .i64 d, .int .i64 x1, .int .i64 v, .int .i64 n, .int .i64 o, .int .i64 tn, .slice At lt ct, .slice Ah lh ch, .slice Ae le ce, .slice Ab lb cb]] w (CopyPost d x1 v n o tn tk th el bs lt lh le lb w) := by
  have hb1 := (Below.refl w.heap.size w).alloc (Nat.le_refl _) (.cells #[.int .i64 d, .int .i64 x1, .int .i64 v, .int .i64 n, .int .i64 o, .int .i64 tn, .slice At lt ct, .slice Ah lh ch, .slice Ae le ce, .slice Ab lb cb] 53)
  have hb2 := hb1.alloc hb1.size (.cells #[.int .i64 0, .int .i64 0, .int .i64 0, .int .i64 0, .int .i64 0, .int .i64 0, .slice none 0 0, .slice none 0 0, .slice none 0 0, .slice none 0 0] 53)
  have HB := Lib.hid hb2
  have HQ := Lib.hid ((Cs.new w #[.int .i64 d, .int .i64 x1, .int .i64 v, .int .i64 n, .int .i64 o, .int .i64 tn, .slice At lt ct, .slice Ah lh ch, .slice Ae le ce, .slice Ab lb cb] 53).alloc (.cells #[.int .i64 0, .int .i64 0, .int .i64 0, .int .i64 0, .int .i64 0, .int .i64 0, .slice none 0 0, .slice none 0 0, .slice none 0 0, .slice none 0 0] 53))
  have HR := Lib.hid (Cs.new1 w (.cells #[.int .i64 d, .int .i64 x1, .int .i64 v, .int .i64 n, .int .i64 o, .int .i64 tn, .slice At lt ct, .slice Ah lh ch, .slice Ae le ce, .slice Ab lb cb] 53) #[.int .i64 0, .int .i64 0, .int .i64 0, .int .i64 0, .int .i64 0, .int .i64 0, .slice none 0 0, .slice none 0 0, .slice none 0 0, .slice none 0 0] 53)
  have HWS : Hid (w.heap.size + 2 ≤ ((w.alloc (.cells #[.int .i64 d, .int .i64 x1, .int .i64 v, .int .i64 n, .int .i64 o, .int .i64 tn, .slice At lt ct, .slice Ah lh ch, .slice Ae le ce, .slice Ab lb cb] 53)).alloc (.cells #[.int .i64 0, .int .i64 0, .int .i64 0, .int .i64 0, .int .i64 0, .int .i64 0, .slice none 0 0, .slice none 0 0, .slice none 0 0, .slice none 0 0] 53)).heap.size) := Lib.hid (by simp)
  have HLT := Lib.hid hlt
  have HLH := Lib.hid hlh
  have HLE := Lib.hid hle
  have HLB := Lib.hid hlb
  have HCM := Lib.hid hcm
  have HT := Lib.hid (ht.below hb2)
  have HH := Lib.hid (hh.below hb2)
  have HE := Lib.hid (he.below hb2)
  have HZ := Lib.hid (hz.below hb2)
  clear hb1 hb2 hlt hlh hle hlb hcm ht hh he hz
  go_enter Try.func66, Try.ntmps66
  go_upto_region 1 with fail
  obtain ⟨w1, hw1⟩ : ∃ w1, (w.alloc (.cells #[.int .i64 d, .int .i64 x1, .int .i64 v, .int .i64 n, .int .i64 o, .int .i64 tn, .slice At lt ct, .slice Ah lh ch, .slice Ae le ce, .slice Ab lb cb] 53)).alloc (.cells #[.int .i64 0, .int .i64 0, .int .i64 0, .int .i64 0, .int .i64 0, .int .i64 0, .slice none 0 0, .slice none 0 0, .slice none 0 0, .slice none 0 0] 53) = w1 := ⟨_, rfl⟩
  rw [hw1] at HB HQ HR HWS HT HH HE HZ
  rw [hw1]
  clear hw1
  have KP : Hid (∀ W, Below w1.heap.size w1 W → (W.cell? ⟨w.heap.size, 0, none⟩ = some (.int .i64 d) ∧ W.cell? ⟨w.heap.size, 1, none⟩ = some (.int .i64 x1) ∧ W.cell? ⟨w.heap.size, 2, none⟩ = some (.int .i64 v) ∧ W.cell? ⟨w.heap.size, 3, none⟩ = some (.int .i64 n) ∧ W.cell? ⟨w.heap.size, 4, none⟩ = some (.int .i64 o) ∧ W.cell? ⟨w.heap.size, 5, none⟩ = some (.int .i64 tn) ∧ W.cell? ⟨w.heap.size, 6, none⟩ = some (.slice At lt ct) ∧ W.cell? ⟨w.heap.size, 7, none⟩ = some (.slice Ah lh ch) ∧ W.cell? ⟨w.heap.size, 8, none⟩ = some (.slice Ae le ce) ∧ W.cell? ⟨w.heap.size, 9, none⟩ = some (.slice Ab lb cb))) := fun W h => ⟨(HQ.out.next h).at 0 _ rfl, (HQ.out.next h).at 1 _ rfl, (HQ.out.next h).at 2 _ rfl, (HQ.out.next h).at 3 _ rfl, (HQ.out.next h).at 4 _ rfl, (HQ.out.next h).at 5 _ rfl, (HQ.out.next h).at 6 _ rfl, (HQ.out.next h).at 7 _ rfl, (HQ.out.next h).at 8 _ rfl, (HQ.out.next h).at 9 _ rfl⟩
  have RP : Hid (∀ W, Below w1.heap.size w1 W → Cs W (w.heap.size + 1) [.int .i64 0, .int .i64 0, .int .i64 0, .int .i64 0, .int .i64 0, .int .i64 0, .slice none 0 0, .slice none 0 0, .slice none 0 0, .slice none 0 0]) := fun W h => HR.out.next h
  go_region_held3 (fun W => W.cell? ⟨w.heap.size, 0, none⟩ = some (.int .i64 d) ∧ W.cell? ⟨w.heap.size, 1, none⟩ = some (.int .i64 x1) ∧ W.cell? ⟨w.heap.size, 2, none⟩ = some (.int .i64 v) ∧ W.cell? ⟨w.heap.size, 3, none⟩ = some (.int .i64 n) ∧ W.cell? ⟨w.heap.size, 4, none⟩ = some (.int .i64 o) ∧ W.cell? ⟨w.heap.size, 5, none⟩ = some (.int .i64 tn) ∧ W.cell? ⟨w.heap.size, 6, none⟩ = some (.slice At lt ct) ∧ W.cell? ⟨w.heap.size, 7, none⟩ = some (.slice Ah lh ch) ∧ W.cell? ⟨w.heap.size, 8, none⟩ = some (.slice Ae le ce) ∧ W.cell? ⟨w.heap.size, 9, none⟩ = some (.slice Ab lb cb)) (first | with_reducible exact KP9.out | with_reducible exact KP.out _ HD4.out | with_reducible exact KP.out _ HD3.out | with_reducible exact KP.out _ HD2.out | with_reducible exact KP.out _ HD1.out | exact KP.out _ (Below.refl _ _).drew) (first
    | (go_at_call 63; refine (clone_b bs Ab lb cb _ (HZ.out.below HD3.out) (by have := HCM.out.2.2.2.2.2.2.2; omega)).mono ?_; rintro e w8 ⟨A8, c8, rfl, ht8, hb8, ha8⟩; have HD4 := Lib.hid (HD3.out.trans (hb8.mono HD3.out.size)); have HZ8 : Hid (ZsN (fun b => w1.heap.size ≤ b) w8 A8 lb c8 bs) := Lib.hid ⟨ht8, fun _ ad had => Nat.le_trans HD3.out.size (ha8 ad had).1⟩; have HT8 := Lib.hid (HT7.out.to (Keeps.below hb8)); have HH8 := Lib.hid (HH7.out.to (Keeps.below hb8)); have HE8 := Lib.hid (HE7.out.to (Keeps.below hb8)); clear hb8 ht8 ha8; have hrc := RP.out _ HD4.out; have r0 := hrc.at 0 _ rfl; have f0 := hrc.free 0; have r1 := hrc.at 1 _ rfl; have f1 := hrc.free 1; have r2 := hrc.at 2 _ rfl; have f2 := hrc.free 2; have r3 := hrc.at 3 _ rfl; have f3 := hrc.free 3; have r4 := hrc.at 4 _ rfl; have f4 := hrc.free 4; have r5 := hrc.at 5 _ rfl; have f5 := hrc.free 5; have r6 := hrc.at 6 _ rfl; have f6 := hrc.free 6; have r7 := hrc.at 7 _ rfl; have f7 := hrc.free 7; have r8 := hrc.at 8 _ rfl; have f8 := hrc.free 8; have r9 := hrc.at 9 _ rfl; have f9 := hrc.free 9; have hrl := hrc.lt; have HF9 := Lib.hid ((HQ.out.next HD4.out).far10 (a := w.heap.size + 1) (by omega) (.int .i64 d) (.int .i64 x1) (.int .i64 v) (.int .i64 n) (.int .i64 o) (.int .i64 tn) (.slice A5 lt c5) (.slice A6 lh c6) (.slice A7 le c7) (.slice A8 lb c8)); have KP9 : Hid (((((((((((w8.setCell ⟨w.heap.size + 1, 0, none⟩ (.int .i64 d)).setCell ⟨w.heap.size + 1, 1, none⟩ (.int .i64 x1)).setCell ⟨w.heap.size + 1, 2, none⟩ (.int .i64 v)).setCell ⟨w.heap.size + 1, 3, none⟩ (.int .i64 n)).setCell ⟨w.heap.size + 1, 4, none⟩ (.int .i64 o)).setCell ⟨w.heap.size + 1, 5, none⟩ (.int .i64 tn)).setCell ⟨w.heap.size + 1, 6, none⟩ (.slice A5 lt c5)).setCell ⟨w.heap.size + 1, 7, none⟩ (.slice A6 lh c6)).setCell ⟨w.heap.size + 1, 8, none⟩ (.slice A7 le c7)).setCell ⟨w.heap.size + 1, 9, none⟩ (.slice A8 lb c8)).cell? ⟨w.heap.size, 0, none⟩ = some (.int .i64 d) ∧ ((((((((((w8.setCell ⟨w.heap.size + 1, 0, none⟩ (.int .i64 d)).setCell ⟨w.heap.size + 1, 1, none⟩ (.int .i64 x1)).setCell ⟨w.heap.size + 1, 2, none⟩ (.int .i64 v)).setCell ⟨w.heap.size + 1, 3, none⟩ (.int .i64 n)).setCell ⟨w.heap.size + 1, 4, none⟩ (.int .i64 o)).setCell ⟨w.heap.size + 1, 5, none⟩ (.int .i64 tn)).setCell ⟨w.heap.size + 1, 6, none⟩ (.slice A5 lt c5)).setCell ⟨w.heap.size + 1, 7, none⟩ (.slice A6 lh c6)).setCell ⟨w.heap.size + 1, 8, none⟩ (.slice A7 le c7)).setCell ⟨w.heap.size + 1, 9, none⟩ (.slice A8 lb c8)).cell? ⟨w.heap.size, 1, none⟩ = some (.int .i64 x1) ∧ ((((((((((w8.setCell ⟨w.heap.size + 1, 0, none⟩ (.int .i64 d)).setCell ⟨w.heap.size + 1, 1, none⟩ (.int .i64 x1)).setCell ⟨w.heap.size + 1, 2, none⟩ (.int .i64 v)).setCell ⟨w.heap.size + 1, 3, none⟩ (.int .i64 n)).setCell ⟨w.heap.size + 1, 4, none⟩ (.int .i64 o)).setCell ⟨w.heap.size + 1, 5, none⟩ (.int .i64 tn)).setCell ⟨w.heap.size + 1, 6, none⟩ (.slice A5 lt c5)).setCell ⟨w.heap.size + 1, 7, none⟩ (.slice A6 lh c6)).setCell ⟨w.heap.size + 1, 8, none⟩ (.slice A7 le c7)).setCell ⟨w.heap.size + 1, 9, none⟩ (.slice A8 lb c8)).cell? ⟨w.heap.size, 2, none⟩ = some (.int .i64 v) ∧ ((((((((((w8.setCell ⟨w.heap.size + 1, 0, none⟩ (.int .i64 d)).setCell ⟨w.heap.size + 1, 1, none⟩ (.int .i64 x1)).setCell ⟨w.heap.size + 1, 2, none⟩ (.int .i64 v)).setCell ⟨w.heap.size + 1, 3, none⟩ (.int .i64 n)).setCell ⟨w.heap.size + 1, 4, none⟩ (.int .i64 o)).setCell ⟨w.heap.size + 1, 5, none⟩ (.int .i64 tn)).setCell ⟨w.heap.size + 1, 6, none⟩ (.slice A5 lt c5)).setCell ⟨w.heap.size + 1, 7, none⟩ (.slice A6 lh c6)).setCell ⟨w.heap.size + 1, 8, none⟩ (.slice A7 le c7)).setCell ⟨w.heap.size + 1, 9, none⟩ (.slice A8 lb c8)).cell? ⟨w.heap.size, 3, none⟩ = some (.int .i64 n) ∧ ((((((((((w8.setCell ⟨w.heap.size + 1, 0, none⟩ (.int .i64 d)).setCell ⟨w.heap.size + 1, 1, none⟩ (.int .i64 x1)).setCell ⟨w.heap.size + 1, 2, none⟩ (.int .i64 v)).setCell ⟨w.heap.size + 1, 3, none⟩ (.int .i64 n)).setCell ⟨w.heap.size + 1, 4, none⟩ (.int .i64 o)).setCell ⟨w.heap.size + 1, 5, none⟩ (.int .i64 tn)).setCell ⟨w.heap.size + 1, 6, none⟩ (.slice A5 lt c5)).setCell ⟨w.heap.size + 1, 7, none⟩ (.slice A6 lh c6)).setCell ⟨w.heap.size + 1, 8, none⟩ (.slice A7 le c7)).setCell ⟨w.heap.size + 1, 9, none⟩ (.slice A8 lb c8)).cell? ⟨w.heap.size, 4, none⟩ = some (.int .i64 o) ∧ ((((((((((w8.setCell ⟨w.heap.size + 1, 0, none⟩ (.int .i64 d)).setCell ⟨w.heap.size + 1, 1, none⟩ (.int .i64 x1)).setCell ⟨w.heap.size + 1, 2, none⟩ (.int .i64 v)).setCell ⟨w.heap.size + 1, 3, none⟩ (.int .i64 n)).setCell ⟨w.heap.size + 1, 4, none⟩ (.int .i64 o)).setCell ⟨w.heap.size + 1, 5, none⟩ (.int .i64 tn)).setCell ⟨w.heap.size + 1, 6, none⟩ (.slice A5 lt c5)).setCell ⟨w.heap.size + 1, 7, none⟩ (.slice A6 lh c6)).setCell ⟨w.heap.size + 1, 8, none⟩ (.slice A7 le c7)).setCell ⟨w.heap.size + 1, 9, none⟩ (.slice A8 lb c8)).cell? ⟨w.heap.size, 5, none⟩ = some (.int .i64 tn) ∧ ((((((((((w8.setCell ⟨w.heap.size + 1, 0, none⟩ (.int .i64 d)).setCell ⟨w.heap.size + 1, 1, none⟩ (.int .i64 x1)).setCell ⟨w.heap.size + 1, 2, none⟩ (.int .i64 v)).setCell ⟨w.heap.size + 1, 3, none⟩ (.int .i64 n)).setCell ⟨w.heap.size + 1, 4, none⟩ (.int .i64 o)).setCell ⟨w.heap.size + 1, 5, none⟩ (.int .i64 tn)).setCell ⟨w.heap.size + 1, 6, none⟩ (.slice A5 lt c5)).setCell ⟨w.heap.size + 1, 7, none⟩ (.slice A6 lh c6)).setCell ⟨w.heap.size + 1, 8, none⟩ (.slice A7 le c7)).setCell ⟨w.heap.size + 1, 9, none⟩ (.slice A8 lb c8)).cell? ⟨w.heap.size, 6, none⟩ = some (.slice At lt ct) ∧ ((((((((((w8.setCell ⟨w.heap.size + 1, 0, none⟩ (.int .i64 d)).setCell ⟨w.heap.size + 1, 1, none⟩ (.int .i64 x1)).setCell ⟨w.heap.size + 1, 2, none⟩ (.int .i64 v)).setCell ⟨w.heap.size + 1, 3, none⟩ (.int .i64 n)).setCell ⟨w.heap.size + 1, 4, none⟩ (.int .i64 o)).setCell ⟨w.heap.size + 1, 5, none⟩ (.int .i64 tn)).setCell ⟨w.heap.size + 1, 6, none⟩ (.slice A5 lt c5)).setCell ⟨w.heap.size + 1, 7, none⟩ (.slice A6 lh c6)).setCell ⟨w.heap.size + 1, 8, none⟩ (.slice A7 le c7)).setCell ⟨w.heap.size + 1, 9, none⟩ (.slice A8 lb c8)).cell? ⟨w.heap.size, 7, none⟩ = some (.slice Ah lh ch) ∧ ((((((((((w8.setCell ⟨w.heap.size + 1, 0, none⟩ (.int .i64 d)).setCell ⟨w.heap.size + 1, 1, none⟩ (.int .i64 x1)).setCell ⟨w.heap.size + 1, 2, none⟩ (.int .i64 v)).setCell ⟨w.heap.size + 1, 3, none⟩ (.int .i64 n)).setCell ⟨w.heap.size + 1, 4, none⟩ (.int .i64 o)).setCell ⟨w.heap.size + 1, 5, none⟩ (.int .i64 tn)).setCell ⟨w.heap.size + 1, 6, none⟩ (.slice A5 lt c5)).setCell ⟨w.heap.size + 1, 7, none⟩ (.slice A6 lh c6)).setCell ⟨w.heap.size + 1, 8, none⟩ (.slice A7 le c7)).setCell ⟨w.heap.size + 1, 9, none⟩ (.slice A8 lb c8)).cell? ⟨w.heap.size, 8, none⟩ = some (.slice Ae le ce) ∧ ((((((((((w8.setCell ⟨w.heap.size + 1, 0, none⟩ (.int .i64 d)).setCell ⟨w.heap.size + 1, 1, none⟩ (.int .i64 x1)).setCell ⟨w.heap.size + 1, 2, none⟩ (.int .i64 v)).setCell ⟨w.heap.size + 1, 3, none⟩ (.int .i64 n)).setCell ⟨w.heap.size + 1, 4, none⟩ (.int .i64 o)).setCell ⟨w.heap.size + 1, 5, none⟩ (.int .i64 tn)).setCell ⟨w.heap.size + 1, 6, none⟩ (.slice A5 lt c5)).setCell ⟨w.heap.size + 1, 7, none⟩ (.slice A6 lh c6)).setCell ⟨w.heap.size + 1, 8, none⟩ (.slice A7 le c7)).setCell ⟨w.heap.size + 1, 9, none⟩ (.slice A8 lb c8)).cell? ⟨w.heap.size, 9, none⟩ = some (.slice Ab lb cb)) := ⟨HF9.out.at 0 _ rfl, HF9.out.at 1 _ rfl, HF9.out.at 2 _ rfl, HF9.out.at 3 _ rfl, HF9.out.at 4 _ rfl, HF9.out.at 5 _ rfl, HF9.out.at 6 _ rfl, HF9.out.at 7 _ rfl, HF9.out.at 8 _ rfl, HF9.out.at 9 _ rfl⟩; clear HF9)
    | (go_at_call 101; refine (IH.out el le Ae ce _ HLE.out HCM.out.2.2.2.1 HCM.out.2.2.2.2.1 HCM.out.2.2.2.2.2.2.1 (HE.out.below HD2.out)).mono ?_; rintro e w7 ⟨A7, c7, rfl, ht7, hb7⟩; have HD3 := Lib.hid (HD2.out.trans (hb7.mono HD2.out.size)); have HE7 : Hid (SOkN (fun b => w1.heap.size ≤ b) w7 A7 c7 el) := Lib.hid (ht7.to (Keeps.mono fun b _ hb => Nat.le_trans HD2.out.size hb)); have HT7 := Lib.hid (HT6.out.to (Keeps.below hb7)); have HH7 := Lib.hid (HH6.out.to (Keeps.below hb7)); clear hb7 ht7)
    | (go_at_call 101; refine (IH.out th lh Ah ch _ HLH.out HCM.out.2.1 HCM.out.2.2.1 HCM.out.2.2.2.2.2.1 (HH.out.below HD1.out)).mono ?_; rintro e w6 ⟨A6, c6, rfl, ht6, hb6⟩; have HD2 := Lib.hid (HD1.out.trans (hb6.mono HD1.out.size)); have HH6 : Hid (SOkN (fun b => w1.heap.size ≤ b) w6 A6 c6 th) := Lib.hid (ht6.to (Keeps.mono fun b _ hb => Nat.le_trans HD1.out.size hb)); have HT6 := Lib.hid (HT5.out.to (Keeps.below hb6)); clear hb6 ht6)
    | (go_at_call 69; refine (copyTerm_any (Tm.cnt (.mk o tn tk)) o tn tk lt At ct _ HLT.out (Nat.le_refl _) HCM.out.1 (HT.out.below (Below.refl _ _).drew)).mono ?_; rintro e w5 ⟨A5, c5, rfl, ht5, hb5⟩; have HD1 := Lib.hid ((Below.refl w1.heap.size w1).drew.trans (hb5.mono (Nat.le_refl _))); have HT5 : Hid (TOkN (fun b => w1.heap.size ≤ b) w5 A5 c5 tk) := Lib.hid ht5; clear hb5 ht5))
  have HSV : Hid (SValN (fun b => w1.heap.size ≤ b) w8 (.mk d x1 v n (.mk o tn tk) th el bs) (.agg #[.int .i64 d, .int .i64 x1, .int .i64 v, .int .i64 n, .int .i64 o, .int .i64 tn, .slice A5 lt c5, .slice A6 lh c6, .slice A7 le c7, .slice A8 lb c8])) := Lib.hid ⟨d, x1, v, n, o, tn, tk, th, el, bs, A5, c5, A6, c6, A7, c7, A8, c8, rfl, by rw [HLT.out, HLH.out, HLE.out, HLB.out], HT8.out, HH8.out, HE8.out, by rw [HLB.out]; exact HZ8.out⟩
  have HB8 := Lib.hid (HB.out.trans (HD4.out.mono HB.out.size))
  have HR8 := Lib.hid (RP.out _ HD4.out)
  clear KP RP KP9 HT5 HT6 HT7 HT8 HH6 HH7 HH8 HE7 HE8 HZ8 HD1 HD2 HD3 HD4 HT HH HE HZ HQ HR HB IH r0 f0 r1 f1 r2 f2 r3 f3 r4 f4 r5 f5 r6 f6 r7 f7 r8 f8 r9 f9 hrl
  go_wp2_with fail
  have HF := HR8.out.st10 (.int .i64 d) (.int .i64 x1) (.int .i64 v) (.int .i64 n) (.int .i64 o) (.int .i64 tn) (.slice A5 lt c5) (.slice A6 lh c6) (.slice A7 le c7) (.slice A8 lb c8)
  have z0 := HF.at 0 _ rfl; have z1 := HF.at 1 _ rfl; have z2 := HF.at 2 _ rfl; have z3 := HF.at 3 _ rfl; have z4 := HF.at 4 _ rfl; have z5 := HF.at 5 _ rfl; have z6 := HF.at 6 _ rfl; have z7 := HF.at 7 _ rfl; have z8 := HF.at 8 _ rfl; have z9 := HF.at 9 _ rfl
  refine bodyPost_ret (v := .agg #[.int .i64 d, .int .i64 x1, .int .i64 v, .int .i64 n, .int .i64 o, .int .i64 tn, .slice A5 lt c5, .slice A6 lh c6, .slice A7 le c7, .slice A8 lb c8]) (by simp [results, Try.results66, go_sem, z0, z1, z2, z3, z4, z5, z6, z7, z8, z9]) rfl ?_
  exact ⟨A5, c5, A6, c6, A7, c7, A8, c8, rfl, HSV.out.to (keeps_st10 (fun b hb => by have := HWS.out; omega) (fun b hb => by have := HWS.out; omega) _ _ _ _ _ _ _ _ _ _), below_st10 HB8.out (by omega) _ _ _ _ _ _ _ _ _ _⟩

set_option maxRecDepth 100000 in
set_option maxHeartbeats 8000000 in
theorem copySteps_any (m : Nat) : (∀ (ks : List Sp) (l : Nat) (A : Option Addr) (c : Nat) (w : World), ks.length = l → Sp.cntL ks ≤ m → Sp.cntL ks ≤ 1000000 → bdL 1000 ks → SOk w A c ks → Calls Try.prog 101 #[.slice A l c] w fun e w' => ∃ A' c', e = .returned (.slice A' l c') ∧ SOkN (fun b => w.heap.size ≤ b) w' A' c' ks ∧ Below w.heap.size w w') := by
  induction m with
  | zero =>
    intro ks l A c w hl hm hm6 hbd ht
    have hk : ks = [] := by
      cases ks with
      | nil => rfl
      | cons k ks => have := Sp.cnt_pos k; simp only [Sp.cntL] at hm; omega
    subst hk
    have hl0 : l = 0 := hl.symm
    subst hl0
    clear ht hbd
    go_enter Try.func101, Try.ntmps101
    go_wp2_with fail
    go_loopw [3, 8] (fun u v wr => u = .slice none 0 0 ∧ v = .int .i64 0 ∧ wr = w) (fun _ _ _ => 0)
    case atStart => exact ⟨rfl, rfl, rfl⟩
    case round =>
      obtain ⟨rfl, rfl, rfl⟩ := hrel
      go_wp2_with fail
      go_ret
      exact ⟨none, 0, rfl, SOkN.nil _ _, Below.refl _ _⟩
  | succ m ih =>
    intro ks l A c w hl hm hm6 hbd ht
    have IH := Lib.hid ih
    have HL := Lib.hid hl
    have HM := Lib.hid hm
    have HM6 := Lib.hid hm6
    have HBD := Lib.hid hbd
    have HT := Lib.hid ht
    have hlm : l ≤ 1000000 := by have := Sp.len_cntL ks; omega
    obtain ⟨i0, hi0, hz0, hz1, hz2⟩ := info_parts infoP
    have HI := Lib.hid (And.intro hi0 (And.intro hz0 (And.intro hz1 hz2)))
    clear ih hl hm hm6 ht hbd hi0 hz0 hz1 hz2
    go_enter Try.func101, Try.ntmps101
    go_wp2_with fail
    go_loopw [3, 8] (fun u i wr => ∃ (k : Nat) (A2 : Option Addr) (c2 : Nat) (xs : List Value), k ≤ l ∧ u = .slice A2 k c2 ∧ i = .int .i64 k ∧ Hid (Below w.heap.size w wr) ∧ Hid (wr.ownsRow w.heap.size 53 10 (.slice A2 k c2) k xs) ∧ Hid (SRow (fun b => w.heap.size ≤ b ∧ (Value.slice A2 k c2).ownBlock ≠ some b) wr xs (ks.take k))) (fun _ i _ => l - (intOf i).toNat)
    case atStart => exact ⟨0, none, 0, [], by omega, rfl, rfl, Lib.hid (Below.refl _ _), Lib.hid (World.ownsRow_nil _ _ _ _), Lib.hid (by rw [List.take_zero]; rfl)⟩
    case round =>
      obtain ⟨k, A2, c2, xs, hk, rfl, rfl, HB, HW, HX⟩ := hrel
      by_cases hlt : k < l
      · have hkl : k < ks.length := by rw [HL.out]; exact hlt
        have hlt' : (k : Int) < (l : Int) := by omega
        obtain ⟨d, x1, v, n, o, tn, tk, th, el, bs, g, f, At, ct, Ah, ch, Ae, ce, Ab, cb, hkid, hA, hg, hsc, htok, hth, hel, hbs⟩ := (HT.out.below HB.out).step k hkl
        subst hA
        obtain ⟨lt, hlt1⟩ : ∃ l, tk.length = l := ⟨_, rfl⟩
        obtain ⟨lh, hlh⟩ : ∃ l, th.length = l := ⟨_, rfl⟩
        obtain ⟨le, hle⟩ : ∃ l, el.length = l := ⟨_, rfl⟩
        obtain ⟨lb, hlb⟩ : ∃ l, bs.length = l := ⟨_, rfl⟩
        rw [hlt1, hlh, hle, hlb] at hsc
        rw [hlb] at hbs
        have hdr : ks.drop k = .mk d x1 v n (.mk o tn tk) th el bs :: ks.drop (k + 1) := by rw [List.drop_eq_getElem_cons hkl, hkid]
        have hcm : 1 + Tm.cnt (.mk o tn tk) + Sp.cntL th + Sp.cntL el ≤ m + 1 := by
          have := Sp.cntL_get ks k hkl
          rw [hkid] at this
          simp only [Sp.cnt] at this
          have := HM.out
          omega
        have HLT := Lib.hid hlt1
        have HLH := Lib.hid hlh
        have HLE := Lib.hid hle
        have HLB := Lib.hid hlb
        have HCM := Lib.hid hcm
        obtain ⟨c0, c1, c2, c3, c4, c5, c6, c7, c8, c9⟩ := hsc
        have HKID := Lib.hid hkid
        have HC : Hid (Tm.cnt (.mk o tn tk) ≤ 1000000 ∧ Sp.cntL th ≤ m ∧ Sp.cntL th ≤ 1000000 ∧ Sp.cntL el ≤ m ∧ Sp.cntL el ≤ 1000000 ∧ bdL 1000 th ∧ bdL 1000 el ∧ lb ≤ 1000) := Lib.hid (by
          have h1 := Sp.cntL_get ks k hkl
          have h2 := bdL_get ks k hkl HBD.out
          rw [hkid] at h1 h2
          rw [bdO, hlb] at h2
          simp only [Sp.cnt] at h1
          have h3 := HM6.out
          have h4 := Tm.cnt_pos (.mk o tn tk)
          exact ⟨by omega, by omega, by omega, by omega, by omega, h2.2.1, h2.2.2, h2.1⟩)
        have hba := (Below.refl wr.heap.size wr).alloc (Nat.le_refl _) (.cells #[.int .i64 d, .int .i64 x1, .int .i64 v, .int .i64 n, .int .i64 o, .int .i64 tn, .slice At lt ct, .slice Ah lh ch, .slice Ae le ce, .slice Ab lb cb] 53)
        have HBx := Lib.hid (HB.out.trans (hba.mono HB.out.size))
        have HWx := Lib.hid (own_below HW.out hba)
        have HXx := Lib.hid (SRow.to (Keeps.below hba) _ _ HX.out)
        have HTK := Lib.hid (htok.below hba)
        have HTH := Lib.hid (hth.below hba)
        have HTE := Lib.hid (hel.below hba)
        have HTB := Lib.hid (hbs.below hba)
        clear hba HB HW HX hkid hdr hcm hlt1 hlh hle hlb htok hth hel hbs
        go_upto_region 5 with fail
        obtain ⟨w4, hw4⟩ : ∃ w4, wr.alloc (.cells #[.int .i64 d, .int .i64 x1, .int .i64 v, .int .i64 n, .int .i64 o, .int .i64 tn, .slice At lt ct, .slice Ah lh ch, .slice Ae le ce, .slice Ab lb cb] 53) = w4 := ⟨_, rfl⟩
        obtain ⟨q, hq⟩ : ∃ q, wr.heap.size = q := ⟨_, rfl⟩
        have HN := Lib.hid (Cs.new wr #[.int .i64 d, .int .i64 x1, .int .i64 v, .int .i64 n, .int .i64 o, .int .i64 tn, .slice At lt ct, .slice Ah lh ch, .slice Ae le ce, .slice Ab lb cb] 53)
        rw [hw4] at HBx HWx HXx HTK HTH HTE HTB HN
        rw [hq] at HN
        rw [hw4, hq]
        clear hw4 hq c0 c1 c2 c3 c4 c5 c6 c7 c8 c9
        have a0 := HN.out.at 0 _ rfl; have a1 := HN.out.at 1 _ rfl; have a2 := HN.out.at 2 _ rfl; have a3 := HN.out.at 3 _ rfl; have a4 := HN.out.at 4 _ rfl; have a5 := HN.out.at 5 _ rfl; have a6 := HN.out.at 6 _ rfl; have a7 := HN.out.at 7 _ rfl; have a8 := HN.out.at 8 _ rfl; have a9 := HN.out.at 9 _ rfl
        go_wp2_with fail
        go_at_call 66
        refine (copyStep_of m IH d x1 v n o tn tk th el bs At lt ct Ah lh ch Ae le ce Ab lb cb _ HLT.out HLH.out HLE.out HLB.out HC.out HTK.out HTH.out HTE.out HTB.out).mono ?_
        rintro e w5 ⟨A5, c5, A6, c6, A7, c7, A8, c8, rfl, hsv, hb5⟩
        have hba := hb5.alloc hb5.size (.cells #[.int .i64 d, .int .i64 x1, .int .i64 v, .int .i64 n, .int .i64 o, .int .i64 tn, .slice A5 lt c5, .slice A6 lh c6, .slice A7 le c7, .slice A8 lb c8] 53)
        have HW5 := Lib.hid (own_below HWx.out hba)
        have HWS : Hid (w.heap.size ≤ (w5.alloc (.cells #[.int .i64 d, .int .i64 x1, .int .i64 v, .int .i64 n, .int .i64 o, .int .i64 tn, .slice A5 lt c5, .slice A6 lh c6, .slice A7 le c7, .slice A8 lb c8] 53)).heap.size) := Lib.hid (Nat.le_trans HBx.out.size hba.size)
        have HKP : Hid (Keeps (fun b => w4.heap.size ≤ b) (fun b => w.heap.size ≤ b ∧ (Value.slice A2 k c2).ownBlock ≠ some b) (w5.alloc (.cells #[.int .i64 d, .int .i64 x1, .int .i64 v, .int .i64 n, .int .i64 o, .int .i64 tn, .slice A5 lt c5, .slice A6 lh c6, .slice A7 le c7, .slice A8 lb c8] 53)) (w5.alloc (.cells #[.int .i64 d, .int .i64 x1, .int .i64 v, .int .i64 n, .int .i64 o, .int .i64 tn, .slice A5 lt c5, .slice A6 lh c6, .slice A7 le c7, .slice A8 lb c8] 53))) := Lib.hid (keeps_apart (B := w4.heap.size) (fun b hb => ⟨Nat.le_trans HBx.out.size hb, hb⟩) (fun g hg => (HWx.out.lt g hg).2))
        have HSV := Lib.hid ((hsv.to (Keeps.below ((Below.refl w5.heap.size w5).alloc (Nat.le_refl _) (.cells #[.int .i64 d, .int .i64 x1, .int .i64 v, .int .i64 n, .int .i64 o, .int .i64 tn, .slice A5 lt c5, .slice A6 lh c6, .slice A7 le c7, .slice A8 lb c8] 53)))).to HKP.out)
        have HX5 := Lib.hid (SRow.snoc (cs := [.int .i64 d, .int .i64 x1, .int .i64 v, .int .i64 n, .int .i64 o, .int .i64 tn, .slice A5 lt c5, .slice A6 lh c6, .slice A7 le c7, .slice A8 lb c8]) rfl HSV.out _ _ (SRow.to (Keeps.below hba) _ _ HXx.out))
        have HB5 := Lib.hid (HBx.out.trans (hba.mono HBx.out.size))
        clear hb5 hba hsv HBx HWx HXx HTK HTH HTE HTB HN HKP HSV a0 a1 a2 a3 a4 a5 a6 a7 a8 a9
        go_wp2_with (at_builtin; (refine wpList_append_lies _ rfl _ _ 24 rfl w.heap.size 53 i0 _ 10 144 Try.underlying24 HI.out.1 HI.out.2.1 HI.out.2.2.1 HI.out.2.2.2 rfl (by decide) _ k xs rfl HW5.out ⟨w5.heap.size, 0, none⟩ 1 1 [.int .i64 d, .int .i64 x1, .int .i64 v, .int .i64 n, .int .i64 o, .int .i64 tn, .slice A5 lt c5, .slice A6 lh c6, .slice A7 le c7, .slice A8 lb c8] rfl rfl (World.news_of_block (cs := #[.int .i64 d, .int .i64 x1, .int .i64 v, .int .i64 n, .int .i64 o, .int .i64 tn, .slice A5 lt c5, .slice A6 lh c6, .slice A7 le c7, .slice A8 lb c8]) (t := 53) (fr := (0, 0)) (heap_alloc_new w5 _)) (by simp [Value.oneCell']) (by decide) (by unfold maxLen; omega) (by omega) HWS.out (w5.heap.size + 1) (by simp) ?_; intro gg cap w6 hown hgrow hat hlt6; have HAT : Hid ((Value.slice A2 k c2).ownBlock = some gg ∨ gg = w5.heap.size + 1) := hat; have HGR : Hid ((w5.alloc (.cells #[.int .i64 d, .int .i64 x1, .int .i64 v, .int .i64 n, .int .i64 o, .int .i64 tn, .slice A5 lt c5, .slice A6 lh c6, .slice A7 le c7, .slice A8 lb c8] 53)).grownBy w6 (Value.slice A2 k c2).ownBlock) := hgrow; have HOW := Lib.hid hown; clear hown hgrow hat))
        have HX6 : Hid (SRow (fun b => w.heap.size ≤ b ∧ (Value.slice (some ⟨gg, 0, none⟩) (k + 1) cap).ownBlock ≠ some b) w6 (xs ++ [.int .i64 d, .int .i64 x1, .int .i64 v, .int .i64 n, .int .i64 o, .int .i64 tn, .slice A5 lt c5, .slice A6 lh c6, .slice A7 le c7, .slice A8 lb c8]) (ks.take (k + 1))) := Lib.hid (by
          rw [take_one ks k hkl, HKID.out]
          exact SRow.to (keeps_grown HGR.out (by rcases HAT.out with h | h; exact .inl (by rw [h]; rfl); exact .inr (fun g hg => by rw [h] at hg; simp [Value.ownBlock] at hg; rw [World.size_alloc]; omega))) _ _ HX5.out)
        have HB6 := Lib.hid ((Fr.of_grown HGR.out).below HB5.out (fun b hb => by have := (HW5.out.lt b hb).1; omega) HWS.out)
        clear HX5 HB5 HAT HGR HW5 HWS
        go_roundw
        case rel => exact ⟨k + 1, some ⟨gg, 0, none⟩, cap, xs ++ [.int .i64 d, .int .i64 x1, .int .i64 v, .int .i64 n, .int .i64 o, .int .i64 tn, .slice A5 lt c5, .slice A6 lh c6, .slice A7 le c7, .slice A8 lb c8], by omega, rfl, by go_num, HB6, HOW, HX6⟩
        case measure => simp [intOf]; omega
      · obtain rfl : k = l := by omega
        go_wp2_with fail
        go_ret
        have hx := HX.out
        rw [List.take_of_length_le (by rw [HL.out]; exact Nat.le_refl _)] at hx
        exact ⟨A2, c2, rfl, srow_ok HW.out (SRow.to keeps_end _ _ hx) HL.out (fun b h => h), HB.out⟩
/-- A copy of a step. -/
theorem copyStep_b (d x1 v n o tn : Int) (tk : List Tm) (th el : List Sp) (bs : List Int) (At : Option Addr) (lt ct : Nat) (Ah : Option Addr) (lh ch : Nat) (Ae : Option Addr) (le ce : Nat) (Ab : Option Addr) (lb cb : Nat) (w : World) (hlt : tk.length = lt) (hlh : th.length = lh) (hle : el.length = le) (hlb : bs.length = lb) (hcm : Tm.cnt (.mk o tn tk) ≤ 1000000 ∧ Sp.cntL th ≤ 1000000 ∧ Sp.cntL el ≤ 1000000 ∧ bdL 1000 th ∧ bdL 1000 el ∧ lb ≤ 1000) (ht : TOk w At ct tk) (hh : SOk w Ah ch th) (he : SOk w Ae ce el) (hz : Zs w Ab lb cb bs) :
    Calls Try.prog 66 #[.agg #[.int .i64 d, .int .i64 x1, .int .i64 v, .int .i64 n, .int .i64 o, .int .i64 tn, .slice At lt ct, .slice Ah lh ch, .slice Ae le ce, .slice Ab lb cb]] w (CopyPost d x1 v n o tn tk th el bs lt lh le lb w) :=
  copyStep_of 1000000 (copySteps_any 1000000) d x1 v n o tn tk th el bs At lt ct Ah lh ch Ae le ce Ab lb cb w hlt hlh hle hlb ⟨hcm.1, hcm.2.1, hcm.2.1, hcm.2.2.1, hcm.2.2.1, hcm.2.2.2⟩ ht hh he hz

/-- Where a round of without stands: what has been made, the step's own block q, the copy's block qc, whose lists are th6 and el7. -/
structure Wo (E : TypeId) (w : World) (B4 q qc : Nat) (V : Value) (k : Nat) (xs : List Value) (done : List Sp) (d x1 v n o tn : Int) (At : Option Addr) (lt ct : Nat) (Ah : Option Addr) (lh ch : Nat) (Ae : Option Addr) (le ce : Nat) (Ab : Option Addr) (lb cb : Nat) (tk : List Tm) (th el : List Sp) (bs : List Int) (A5 : Option Addr) (c5 : Nat) (A6 : Option Addr) (l6 c6 : Nat) (A7 : Option Addr) (l7 c7 : Nat) (A8 : Option Addr) (c8 : Nat) (th6 el7 : List Sp) (W : World) : Prop where
  below : Below w.heap.size w W
  lo : w.heap.size ≤ B4
  qlt : q < B4
  qcl : B4 ≤ qc
  row : W.ownsRow w.heap.size E 10 V k xs
  rlt : ∀ g, V.ownBlock = some g → g < B4
  rows : SRow (fun b => w.heap.size ≤ b ∧ V.ownBlock ≠ some b ∧ b < B4) W xs done
  s : Cs W q [.int .i64 d, .int .i64 x1, .int .i64 v, .int .i64 n, .int .i64 o, .int .i64 tn, .slice At lt ct, .slice Ah lh ch, .slice Ae le ce, .slice Ab lb cb]
  c : Cs W qc [.int .i64 d, .int .i64 x1, .int .i64 v, .int .i64 n, .int .i64 o, .int .i64 tn, .slice A5 lt c5, .slice A6 l6 c6, .slice A7 l7 c7, .slice A8 lb c8]
  oth : SOkN (fun b => b < B4) W Ah ch th
  oel : SOkN (fun b => b < B4) W Ae ce el
  len : tk.length = lt ∧ bs.length = lb
  len6 : th6.length = l6
  len7 : el7.length = l7
  tk5 : TOkN (fun b => B4 ≤ b ∧ b ≠ qc) W A5 c5 tk
  s6 : SOkN (fun b => B4 ≤ b ∧ b ≠ qc) W A6 c6 th6
  s7 : SOkN (fun b => B4 ≤ b ∧ b ≠ qc) W A7 c7 el7
  z8 : ZsN (fun b => B4 ≤ b ∧ b ≠ qc) W A8 lb c8 bs
theorem Wo.next {E : TypeId} {w : World} {B4 q qc : Nat} {V : Value} {k : Nat} {xs : List Value} {done : List Sp} {d x1 v n o tn : Int} {At : Option Addr} {lt ct : Nat} {Ah : Option Addr} {lh ch : Nat} {Ae : Option Addr} {le ce : Nat} {Ab : Option Addr} {lb cb : Nat} {tk : List Tm} {th el : List Sp} {bs : List Int} {A5 : Option Addr} {c5 : Nat} {A6 : Option Addr} {l6 c6 : Nat} {A7 : Option Addr} {l7 c7 : Nat} {A8 : Option Addr} {c8 : Nat} {th6 el7 : List Sp} {W W' : World} (h : Wo E w B4 q qc V k xs done d x1 v n o tn At lt ct Ah lh ch Ae le ce Ab lb cb tk th el bs A5 c5 A6 l6 c6 A7 l7 c7 A8 c8 th6 el7 W) (hb : Below W.heap.size W W') : Wo E w B4 q qc V k xs done d x1 v n o tn At lt ct Ah lh ch Ae le ce Ab lb cb tk th el bs A5 c5 A6 l6 c6 A7 l7 c7 A8 c8 th6 el7 W' :=
  ⟨h.below.trans (hb.mono h.below.size), h.lo, h.qlt, h.qcl, own_below h.row hb, h.rlt, SRow.to (Keeps.below hb) _ _ h.rows, h.s.next hb, h.c.next hb, h.oth.to (Keeps.below hb), h.oel.to (Keeps.below hb), h.len, h.len6, h.len7, h.tk5.to (Keeps.below hb), h.s6.to (Keeps.below hb), h.s7.to (Keeps.below hb), h.z8.to (Keeps.below hb)⟩
theorem Wo.put7 {E : TypeId} {w : World} {B4 q qc : Nat} {V : Value} {k : Nat} {xs : List Value} {done : List Sp} {d x1 v n o tn : Int} {At : Option Addr} {lt ct : Nat} {Ah : Option Addr} {lh ch : Nat} {Ae : Option Addr} {le ce : Nat} {Ab : Option Addr} {lb cb : Nat} {tk : List Tm} {th el : List Sp} {bs : List Int} {A5 : Option Addr} {c5 : Nat} {A6 : Option Addr} {l6 c6 : Nat} {A7 : Option Addr} {l7 c7 : Nat} {A8 : Option Addr} {c8 : Nat} {th6 el7 : List Sp} {W : World} (h : Wo E w B4 q qc V k xs done d x1 v n o tn At lt ct Ah lh ch Ae le ce Ab lb cb tk th el bs A5 c5 A6 l6 c6 A7 l7 c7 A8 c8 th6 el7 W) {A9 : Option Addr} {l9 c9 : Nat} {th9 : List Sp} (hl : th9.length = l9) (hn : SOkN (fun b => B4 ≤ b ∧ b ≠ qc) W A9 c9 th9) : Wo E w B4 q qc V k xs done d x1 v n o tn At lt ct Ah lh ch Ae le ce Ab lb cb tk th el bs A5 c5 A9 l9 c9 A7 l7 c7 A8 c8 th9 el7 (W.setCell ⟨qc, 7, none⟩ (.slice A9 l9 c9)) := by
  have hne : ¬ V.ownBlock = some qc := fun e => by have := h.rlt qc e; have := h.qcl; omega
  have k0 : Keeps (fun b => b < B4) (fun b => b < B4) W (W.setCell ⟨qc, 7, none⟩ (.slice A9 l9 c9)) := keeps_set _ (fun b hb => by have := h.qcl; simp only; omega)
  have k5 : Keeps (fun b => B4 ≤ b ∧ b ≠ qc) (fun b => B4 ≤ b ∧ b ≠ qc) W (W.setCell ⟨qc, 7, none⟩ (.slice A9 l9 c9)) := keeps_set _ (fun b hb => by simp only; omega)
  have hk : Keeps (fun b => w.heap.size ≤ b ∧ V.ownBlock ≠ some b ∧ b < B4) (fun b => w.heap.size ≤ b ∧ V.ownBlock ≠ some b ∧ b < B4) W (W.setCell ⟨qc, 7, none⟩ (.slice A9 l9 c9)) := keeps_set _ (fun b hb => by have := h.qcl; simp only; omega)
  exact ⟨h.below.setCell (p := ⟨qc, 7, none⟩) (by have := h.lo; have := h.qcl; simp only; omega) _, h.lo, h.qlt, h.qcl, ownsRow_setCell_other (a := ⟨qc, 7, none⟩) h.row hne _, h.rlt, SRow.to hk _ _ h.rows, h.s.other (p := ⟨qc, 7, none⟩) (by have := h.qlt; have := h.qcl; simp only; omega) _, h.c.set 7 _ (by simp), h.oth.to k0, h.oel.to k0, h.len, hl, h.len7, h.tk5.to k5, hn.to k5, h.s7.to k5, h.z8.to k5⟩
theorem Wo.put8 {E : TypeId} {w : World} {B4 q qc : Nat} {V : Value} {k : Nat} {xs : List Value} {done : List Sp} {d x1 v n o tn : Int} {At : Option Addr} {lt ct : Nat} {Ah : Option Addr} {lh ch : Nat} {Ae : Option Addr} {le ce : Nat} {Ab : Option Addr} {lb cb : Nat} {tk : List Tm} {th el : List Sp} {bs : List Int} {A5 : Option Addr} {c5 : Nat} {A6 : Option Addr} {l6 c6 : Nat} {A7 : Option Addr} {l7 c7 : Nat} {A8 : Option Addr} {c8 : Nat} {th6 el7 : List Sp} {W : World} (h : Wo E w B4 q qc V k xs done d x1 v n o tn At lt ct Ah lh ch Ae le ce Ab lb cb tk th el bs A5 c5 A6 l6 c6 A7 l7 c7 A8 c8 th6 el7 W) {A9 : Option Addr} {l9 c9 : Nat} {el9 : List Sp} (hl : el9.length = l9) (hn : SOkN (fun b => B4 ≤ b ∧ b ≠ qc) W A9 c9 el9) : Wo E w B4 q qc V k xs done d x1 v n o tn At lt ct Ah lh ch Ae le ce Ab lb cb tk th el bs A5 c5 A6 l6 c6 A9 l9 c9 A8 c8 th6 el9 (W.setCell ⟨qc, 8, none⟩ (.slice A9 l9 c9)) := by
  have hne : ¬ V.ownBlock = some qc := fun e => by have := h.rlt qc e; have := h.qcl; omega
  have k0 : Keeps (fun b => b < B4) (fun b => b < B4) W (W.setCell ⟨qc, 8, none⟩ (.slice A9 l9 c9)) := keeps_set _ (fun b hb => by have := h.qcl; simp only; omega)
  have k5 : Keeps (fun b => B4 ≤ b ∧ b ≠ qc) (fun b => B4 ≤ b ∧ b ≠ qc) W (W.setCell ⟨qc, 8, none⟩ (.slice A9 l9 c9)) := keeps_set _ (fun b hb => by simp only; omega)
  have hk : Keeps (fun b => w.heap.size ≤ b ∧ V.ownBlock ≠ some b ∧ b < B4) (fun b => w.heap.size ≤ b ∧ V.ownBlock ≠ some b ∧ b < B4) W (W.setCell ⟨qc, 8, none⟩ (.slice A9 l9 c9)) := keeps_set _ (fun b hb => by have := h.qcl; simp only; omega)
  exact ⟨h.below.setCell (p := ⟨qc, 8, none⟩) (by have := h.lo; have := h.qcl; simp only; omega) _, h.lo, h.qlt, h.qcl, ownsRow_setCell_other (a := ⟨qc, 8, none⟩) h.row hne _, h.rlt, SRow.to hk _ _ h.rows, h.s.other (p := ⟨qc, 8, none⟩) (by have := h.qlt; have := h.qcl; simp only; omega) _, h.c.set 8 _ (by simp), h.oth.to k0, h.oel.to k0, h.len, h.len6, hl, h.tk5.to k5, h.s6.to k5, hn.to k5, h.z8.to k5⟩
/-- The copy is put to the row. -/
theorem Wo.grown {E : TypeId} {w : World} {B4 q qc : Nat} {V : Value} {k : Nat} {xs : List Value} {done : List Sp} {d x1 v n o tn : Int} {At : Option Addr} {lt ct : Nat} {Ah : Option Addr} {lh ch : Nat} {Ae : Option Addr} {le ce : Nat} {Ab : Option Addr} {lb cb : Nat} {tk : List Tm} {th el : List Sp} {bs : List Int} {A5 : Option Addr} {c5 : Nat} {A6 : Option Addr} {l6 c6 : Nat} {A7 : Option Addr} {l7 c7 : Nat} {A8 : Option Addr} {c8 : Nat} {th6 el7 : List Sp} {W W' : World} {gg cap : Nat} (h : Wo E w B4 q qc V k xs done d x1 v n o tn At lt ct Ah lh ch Ae le ce Ab lb cb tk th el bs A5 c5 A6 l6 c6 A7 l7 c7 A8 c8 th6 el7 W) (hg : (W.alloc (.cells #[.int .i64 d, .int .i64 x1, .int .i64 v, .int .i64 n, .int .i64 o, .int .i64 tn, .slice A5 lt c5, .slice A6 l6 c6, .slice A7 l7 c7, .slice A8 lb c8] E)).grownBy W' V.ownBlock) (hat : V.ownBlock = some gg ∨ gg = W.heap.size + 1) :
    Below w.heap.size w W' ∧ SRow (fun b => w.heap.size ≤ b ∧ (Value.slice (some ⟨gg, 0, none⟩) (k + 1) cap).ownBlock ≠ some b) W' (xs ++ [.int .i64 d, .int .i64 x1, .int .i64 v, .int .i64 n, .int .i64 o, .int .i64 tn, .slice A5 lt c5, .slice A6 l6 c6, .slice A7 l7 c7, .slice A8 lb c8]) (done ++ [.mk d x1 v n (.mk o tn tk) th6 el7 bs]) := by
  have hba := (Below.refl W.heap.size W).alloc (Nat.le_refl _) (.cells #[.int .i64 d, .int .i64 x1, .int .i64 v, .int .i64 n, .int .i64 o, .int .i64 tn, .slice A5 lt c5, .slice A6 l6 c6, .slice A7 l7 c7, .slice A8 lb c8] E)
  have h2 := h.next hba
  have hsv : SValN (fun b => B4 ≤ b ∧ b ≠ qc) (W.alloc (.cells #[.int .i64 d, .int .i64 x1, .int .i64 v, .int .i64 n, .int .i64 o, .int .i64 tn, .slice A5 lt c5, .slice A6 l6 c6, .slice A7 l7 c7, .slice A8 lb c8] E)) (.mk d x1 v n (.mk o tn tk) th6 el7 bs) (.agg #[.int .i64 d, .int .i64 x1, .int .i64 v, .int .i64 n, .int .i64 o, .int .i64 tn, .slice A5 lt c5, .slice A6 l6 c6, .slice A7 l7 c7, .slice A8 lb c8]) := ⟨d, x1, v, n, o, tn, tk, th6, el7, bs, A5, c5, A6, c6, A7, c7, A8, c8, rfl, by rw [h.len.1, h.len.2, h.len6, h.len7], h2.tk5, h2.s6, h2.s7, by rw [h.len.2]; exact h2.z8⟩
  have hkp : Keeps (fun b => B4 ≤ b ∧ b ≠ qc) (fun b => w.heap.size ≤ b ∧ V.ownBlock ≠ some b) (W.alloc (.cells #[.int .i64 d, .int .i64 x1, .int .i64 v, .int .i64 n, .int .i64 o, .int .i64 tn, .slice A5 lt c5, .slice A6 l6 c6, .slice A7 l7 c7, .slice A8 lb c8] E)) (W.alloc (.cells #[.int .i64 d, .int .i64 x1, .int .i64 v, .int .i64 n, .int .i64 o, .int .i64 tn, .slice A5 lt c5, .slice A6 l6 c6, .slice A7 l7 c7, .slice A8 lb c8] E)) := Keeps.mono fun b _ hb => ⟨Nat.le_trans h.lo hb.1, fun e => by have := h.rlt b e; omega⟩
  have hkr : Keeps (fun b => w.heap.size ≤ b ∧ V.ownBlock ≠ some b ∧ b < B4) (fun b => w.heap.size ≤ b ∧ V.ownBlock ≠ some b) (W.alloc (.cells #[.int .i64 d, .int .i64 x1, .int .i64 v, .int .i64 n, .int .i64 o, .int .i64 tn, .slice A5 lt c5, .slice A6 l6 c6, .slice A7 l7 c7, .slice A8 lb c8] E)) (W.alloc (.cells #[.int .i64 d, .int .i64 x1, .int .i64 v, .int .i64 n, .int .i64 o, .int .i64 tn, .slice A5 lt c5, .slice A6 l6 c6, .slice A7 l7 c7, .slice A8 lb c8] E)) := Keeps.mono fun b _ hb => ⟨hb.1, hb.2.1⟩
  refine ⟨(Fr.of_grown hg).below h2.below (fun b hb => (h2.row.lt b hb).1) h2.below.size, SRow.to (keeps_grown hg (hat.imp (fun e => by rw [e]; rfl) (fun e g he => ?_))) _ _ (SRow.snoc (cs := [.int .i64 d, .int .i64 x1, .int .i64 v, .int .i64 n, .int .i64 o, .int .i64 tn, .slice A5 lt c5, .slice A6 l6 c6, .slice A7 l7 c7, .slice A8 lb c8]) rfl (hsv.to hkp) _ _ (SRow.to hkr _ _ h2.rows))⟩
  rw [e] at he
  simp [Value.ownBlock] at he
  rw [World.size_alloc]
  omega

set_option maxRecDepth 100000 in
set_option maxHeartbeats 16000000 in
theorem without_any (m : Nat) : (∀ (ks : List Sp) (l : Nat) (A : Option Addr) (c : Nat) (i : Int) (w : World), ks.length = l → Sp.cntL ks ≤ m → Sp.cntL ks ≤ 1000000 → bdL 1000 ks → SOk w A c ks → 0 ≤ i → i ≤ 1000000 → Calls Try.prog 68 #[.slice A l c, .int .i64 i] w fun e w' => ∃ A' l' c', e = .returned (.slice A' l' c') ∧ (woL ks i).length = l' ∧ SOkN (fun b => w.heap.size ≤ b) w' A' c' (woL ks i) ∧ Below w.heap.size w w') := by
  induction m with
  | zero =>
    intro ks l A c i w hl hm hm6 hbd ht hi0 hi1
    have hk : ks = [] := by
      cases ks with
      | nil => rfl
      | cons k ks => have := Sp.cnt_pos k; simp only [Sp.cntL] at hm; omega
    subst hk
    have hl0 : l = 0 := hl.symm
    subst hl0
    clear ht hbd hi0 hi1
    go_enter Try.func68, Try.ntmps68
    go_wp2_with fail
    go_loopw [1, 5, 9, 10, 13] (fun a u _ _ v wr => a = .int .i64 i ∧ u = .slice none 0 0 ∧ v = .int .i64 0 ∧ wr = w) (fun _ _ _ _ _ _ => 0)
    case atStart => exact ⟨rfl, rfl, rfl, rfl⟩
    case round =>
      obtain ⟨rfl, rfl, rfl, rfl⟩ := hrel
      go_wp2_with fail
      go_ret
      exact ⟨none, 0, 0, rfl, by rw [woL]; rfl, by rw [woL]; exact SOkN.nil _ _, Below.refl _ _⟩
  | succ m ih =>
    intro ks l A c i w hl hm hm6 hbd ht hi0 hi1
    have IH := Lib.hid ih
    have HL := Lib.hid hl
    have HM := Lib.hid hm
    have HM6 := Lib.hid hm6
    have HBD := Lib.hid hbd
    have HT := Lib.hid ht
    have hlm : l ≤ 1000000 := by have := Sp.len_cntL ks; omega
    obtain ⟨i0, hq0, hz0, hz1, hz2⟩ := info_parts infoP
    have HI := Lib.hid (And.intro hq0 (And.intro hz0 (And.intro hz1 hz2)))
    have HQ0 : Hid (woL ks i = [] ++ woL (ks.drop 0) i) := Lib.hid (by rw [List.drop_zero]; rfl)
    have HJB0 : Hid (-1000000 ≤ i - (sizeL (ks.drop 0) : Nat) ∧ i ≤ 1000000) := Lib.hid (by rw [List.drop_zero]; have := sizeL_cnt ks; omega)
    clear ih hl hm hm6 ht hbd hq0 hz0 hz1 hz2 hi0 hi1
    go_enter Try.func68, Try.ntmps68
    go_wp2_with fail
    go_loopw [1, 5, 9, 10, 13] (fun a u _ _ t wr => ∃ (k kk : Nat) (j : Int) (A2 : Option Addr) (c2 : Nat) (xs : List Value) (done : List Sp), k ≤ l ∧ kk ≤ k ∧ a = .int .i64 j ∧ u = .slice A2 kk c2 ∧ t = .int .i64 k ∧ Hid (woL ks i = done ++ woL (ks.drop k) j) ∧ Hid (done.length = kk) ∧ Hid (-1000000 ≤ j - (sizeL (ks.drop k) : Nat) ∧ j ≤ 1000000) ∧ Hid (Below w.heap.size w wr) ∧ Hid (wr.ownsRow w.heap.size 53 10 (.slice A2 kk c2) kk xs) ∧ Hid (SRow (fun b => w.heap.size ≤ b ∧ (Value.slice A2 kk c2).ownBlock ≠ some b) wr xs done)) (fun _ _ _ _ t _ => l - (intOf t).toNat)
    case atStart => exact ⟨0, 0, i, none, 0, [], [], by omega, by omega, rfl, rfl, rfl, HQ0, rfl, HJB0, Lib.hid (Below.refl _ _), Lib.hid (World.ownsRow_nil _ _ _ _), Lib.hid rfl⟩
    case round =>
      clear HQ0 HJB0
      obtain ⟨k, kk, j, A2, c2, xs, done, hk, hkk, rfl, rfl, rfl, HQ, HDL, HJB, HB, HW, HX⟩ := hrel
      by_cases hlt : k < l
      · have hkl : k < ks.length := by rw [HL.out]; exact hlt
        have hlt' : (k : Int) < (l : Int) := by omega
        obtain ⟨d, x1, v, n, o, tn, tk, th, el, bs, g, f, At, ct, Ah, ch, Ae, ce, Ab, cb, hkid, hA, hg, hsc, htok, hth, hel, hbs⟩ := (HT.out.below HB.out).step k hkl
        subst hA
        obtain ⟨lt, hlt1⟩ : ∃ l, tk.length = l := ⟨_, rfl⟩
        obtain ⟨lh, hlh⟩ : ∃ l, th.length = l := ⟨_, rfl⟩
        obtain ⟨le, hle⟩ : ∃ l, el.length = l := ⟨_, rfl⟩
        obtain ⟨lb, hlb⟩ : ∃ l, bs.length = l := ⟨_, rfl⟩
        rw [hlt1, hlh, hle, hlb] at hsc
        rw [hlb] at hbs
        have hdr : ks.drop k = .mk d x1 v n (.mk o tn tk) th el bs :: ks.drop (k + 1) := by rw [List.drop_eq_getElem_cons hkl, hkid]
        have hcm : 1 + Tm.cnt (.mk o tn tk) + Sp.cntL th + Sp.cntL el ≤ m + 1 := by
          have := Sp.cntL_get ks k hkl
          rw [hkid] at this
          simp only [Sp.cnt] at this
          have := HM.out
          omega
        have HLT := Lib.hid hlt1
        have HLH := Lib.hid hlh
        have HLE := Lib.hid hle
        have HLB := Lib.hid hlb
        have HCM := Lib.hid hcm
        obtain ⟨c0, c1, c2, c3, c4, c5, c6, c7, c8, c9⟩ := hsc
        have HKID := Lib.hid hkid
        have HC : Hid (Tm.cnt (.mk o tn tk) ≤ 1000000 ∧ Sp.cntL th ≤ 1000000 ∧ Sp.cntL el ≤ 1000000 ∧ bdL 1000 th ∧ bdL 1000 el ∧ lb ≤ 1000) := Lib.hid (by
          have h1 := Sp.cntL_get ks k hkl
          have h2 := bdL_get ks k hkl HBD.out
          rw [hkid] at h1 h2
          rw [bdO, hlb] at h2
          simp only [Sp.cnt] at h1
          have h3 := HM6.out
          exact ⟨by omega, by omega, by omega, h2.2.1, h2.2.2, h2.1⟩)
        have HSM : Hid (Sp.cntL th ≤ 1000000 ∧ Sp.cntL el ≤ 1000000 ∧ Sp.cntL th ≤ m ∧ Sp.cntL el ≤ m ∧ bdL 1000 th ∧ bdL 1000 el) := Lib.hid ⟨HC.out.2.1, HC.out.2.2.1, by have := Tm.cnt_pos (.mk o tn tk); omega, by have := Tm.cnt_pos (.mk o tn tk); omega, HC.out.2.2.2.1, HC.out.2.2.2.2.1⟩
        obtain ⟨z2, hz2⟩ : ∃ z, sizeL th = z := ⟨_, rfl⟩
        obtain ⟨z3, hz3⟩ : ∃ z, sizeL el = z := ⟨_, rfl⟩
        have HZ2 := Lib.hid hz2
        have HZ3 := Lib.hid hz3
        have hsd : sizeL (ks.drop k) = 1 + (z2 + z3) + sizeL (ks.drop (k + 1)) := by rw [hdr, sizeL, sizeO, hz2, hz3]
        have hjb := HJB.out
        rw [hsd] at hjb
        have hzb : z2 ≤ 1000000 ∧ z3 ≤ 1000000 := ⟨by rw [← hz2]; exact Nat.le_trans (sizeL_cnt th) HC.out.2.1, by rw [← hz3]; exact Nat.le_trans (sizeL_cnt el) HC.out.2.2.1⟩
        have hza := hzb.1
        have hzc := hzb.2
        obtain ⟨j1, hj1⟩ : ∃ x : Int, x = j - 1 := ⟨_, rfl⟩
        obtain ⟨j2, hj2⟩ : ∃ x : Int, x = j1 - (z2 : Int) := ⟨_, rfl⟩
        obtain ⟨j3, hj3⟩ : ∃ x : Int, x = j2 - (z3 : Int) := ⟨_, rfl⟩
        have HJB3 : Hid (-1000000 ≤ j3 - (sizeL (ks.drop (k + 1)) : Nat) ∧ j3 ≤ 1000000) := Lib.hid (by omega)
        have hjx : j1 ≤ 1000000 := by omega
        have hjy : j2 ≤ 1000000 := by omega
        have hw1 : IntKind.i64.wrap (j - 1) = j1 := by rw [IntWalk.i64_in _ (by omega)]; omega
        have hw2 : IntKind.i64.wrap (j1 - (z2 : Int)) = j2 := by rw [IntWalk.i64_in _ (by omega)]; omega
        have hw3 : IntKind.i64.wrap (j2 - (z3 : Int)) = j3 := by rw [IntWalk.i64_in _ (by omega)]; omega
        have hw4 : IntKind.i64.wrap ((z2 : Int) + (z3 : Int)) = (z2 : Int) + (z3 : Int) := IntWalk.i64_in _ (by omega)
        have hw5 : j = 0 → IntKind.i64.wrap (-1 - ((z2 : Int) + (z3 : Int))) = j3 := fun e => by rw [IntWalk.i64_in _ (by omega)]; omega
        have HW5 := Lib.hid hw5
        have HJ1 := Lib.hid hj1
        have HJ2 := Lib.hid hj2
        have HJ3 := Lib.hid hj3
        have hba := (Below.refl wr.heap.size wr).alloc (Nat.le_refl _) (.cells #[.int .i64 d, .int .i64 x1, .int .i64 v, .int .i64 n, .int .i64 o, .int .i64 tn, .slice At lt ct, .slice Ah lh ch, .slice Ae le ce, .slice Ab lb cb] 53)
        have HBx := Lib.hid (HB.out.trans (hba.mono HB.out.size))
        have HWx := Lib.hid (own_below HW.out hba)
        have HXx := Lib.hid (SRow.to (Keeps.below hba) _ _ HX.out)
        have HTK := Lib.hid (htok.below hba)
        have HTH := Lib.hid (hth.below hba)
        have HTE := Lib.hid (hel.below hba)
        have HTB := Lib.hid (hbs.below hba)
        clear hba HB HW HX hkid hdr hcm hlt1 hlh hle hlb htok hth hel hbs hz2 hz3 hsd hjb hzb hj1 hj2 hj3 hw5 HJB
        go_upto_region 5 with fail
        obtain ⟨w4, hw4⟩ : ∃ w4, wr.alloc (.cells #[.int .i64 d, .int .i64 x1, .int .i64 v, .int .i64 n, .int .i64 o, .int .i64 tn, .slice At lt ct, .slice Ah lh ch, .slice Ae le ce, .slice Ab lb cb] 53) = w4 := ⟨_, rfl⟩
        obtain ⟨q, hq⟩ : ∃ q, wr.heap.size = q := ⟨_, rfl⟩
        have HN := Lib.hid (Cs.new wr #[.int .i64 d, .int .i64 x1, .int .i64 v, .int .i64 n, .int .i64 o, .int .i64 tn, .slice At lt ct, .slice Ah lh ch, .slice Ae le ce, .slice Ab lb cb] 53)
        rw [hw4] at HBx HWx HXx HTK HTH HTE HTB HN
        rw [hq] at HN
        rw [hw4, hq]
        clear hw4 hq c0 c1 c2 c3 c4 c5 c6 c7 c8 c9
        by_cases hj0 : j = 0
        · have HW5' := Lib.hid (HW5.out hj0)
          have HQ1 : Hid (woL ks i = done ++ woL (ks.drop (k + 1)) j3) := Lib.hid (by
            rw [HQ.out, woL_drop hkl HKID.out j, if_pos hj0]
            have h3 : j - (1 + (sizeO (.mk d x1 v n (.mk o tn tk) th el bs) : Nat)) = j3 := by
              rw [sizeO, HZ2.out, HZ3.out]
              have h1 := HJ1.out; have h2 := HJ2.out; have h3 := HJ3.out
              omega
            rw [h3])
          clear HQ hw1 hw2 hw3 HJ1 HJ2 HJ3 HW5 HTK HTB hjx hjy
          subst hj0
          go_upto_region 7 with fail
          have KP : Hid (∀ W, Below w4.heap.size w4 W → (W.cell? ⟨q, 7, none⟩ = some (.slice Ah lh ch) ∧ W.cell? ⟨q, 8, none⟩ = some (.slice Ae le ce))) := fun W h => ⟨(HN.out.next h).at 7 _ rfl, (HN.out.next h).at 8 _ rfl⟩
          go_region_held3 (fun W => W.cell? ⟨q, 7, none⟩ = some (.slice Ah lh ch) ∧ W.cell? ⟨q, 8, none⟩ = some (.slice Ae le ce)) (first | with_reducible exact KP.out _ HD2.out | with_reducible exact KP.out _ HD1.out | exact KP.out _ (Below.refl _ _).drew) (first
            | (go_at_call 64; refine (size_any (Sp.cntL el) el le Ae ce _ z3 HLE.out (Nat.le_refl _) HSM.out.2.1 (HTE.out.below HD1.out) HZ3).mono ?_; rintro e w6 ⟨rfl, hb2⟩; have HD2 := Lib.hid (HD1.out.trans (hb2.mono HD1.out.size)); clear hb2)
            | (go_at_call 64; refine (size_any (Sp.cntL th) th lh Ah ch _ z2 HLH.out (Nat.le_refl _) HSM.out.1 (HTH.out.below (Below.refl _ _).drew) HZ2).mono ?_; rintro e w5 ⟨rfl, hb1⟩; have HD1 := Lib.hid ((Below.refl w4.heap.size w4).drew.trans (hb1.mono (Nat.le_refl _))); clear hb1))
          have HB6 := Lib.hid (HBx.out.trans (HD2.out.mono HBx.out.size))
          have HW6 := Lib.hid (own_below HWx.out HD2.out)
          have HX6 := Lib.hid (SRow.to (Keeps.below HD2.out) _ _ HXx.out)
          clear HD1 HD2 KP HN HBx HWx HXx HTH HTE
          go_wp2_with fail
          go_roundw
          case rel => exact ⟨k + 1, kk, j3, A2, c2, xs, done, by omega, by omega, congrArg _ HW5'.out, rfl, by go_num, HQ1, HDL, HJB3, HB6, HW6, HX6⟩
          case measure => simp [intOf]; omega
        have hj0b := beq_of hj0
        have HNZ := Lib.hid hj0
        obtain ⟨B4, hB4⟩ : ∃ B4, w4.heap.size = B4 := ⟨_, rfl⟩
        have HRL : Hid (∀ g, (Value.slice A2 kk c2).ownBlock = some g → g < B4) := Lib.hid (fun g hg => by rw [← hB4]; exact (HWx.out.lt g hg).2)
        have HXB : Hid (SRow (fun b => w.heap.size ≤ b ∧ (Value.slice A2 kk c2).ownBlock ≠ some b ∧ b < B4) w4 xs done) := Lib.hid (SRow.to (Keeps.mono fun b hb hs => ⟨hs.1, hs.2, by rw [← hB4]; exact hb⟩) _ _ HXx.out)
        have HLO : Hid (w.heap.size ≤ B4 ∧ q < B4) := Lib.hid ⟨by rw [← hB4]; exact HBx.out.size, by rw [← hB4]; exact HN.out.lt⟩
        have HTHN : Hid (SOkN (fun b => b < B4) w4 Ah ch th) := Lib.hid (by rw [← hB4]; exact HTH.out.okN)
        have HTEN : Hid (SOkN (fun b => b < B4) w4 Ae ce el) := Lib.hid (by rw [← hB4]; exact HTE.out.okN)
        clear HW5 HXx hw4
        have a0 := HN.out.at 0 _ rfl; have a1 := HN.out.at 1 _ rfl; have a2 := HN.out.at 2 _ rfl; have a3 := HN.out.at 3 _ rfl; have a4 := HN.out.at 4 _ rfl; have a5 := HN.out.at 5 _ rfl; have a6 := HN.out.at 6 _ rfl; have a7 := HN.out.at 7 _ rfl; have a8 := HN.out.at 8 _ rfl; have a9 := HN.out.at 9 _ rfl
        go_wp2_with fail
        go_at_call 66
        refine (copyStep_b d x1 v n o tn tk th el bs At lt ct Ah lh ch Ae le ce Ab lb cb _ HLT.out HLH.out HLE.out HLB.out HC.out HTK.out HTH.out HTE.out HTB.out).mono ?_
        rintro e w5 ⟨A5, c5, A6, c6, A7, c7, A8, c8, rfl, hsv, hb5⟩
        have HB5 := Lib.hid (hb5.alloc hb5.size (.cells #[.int .i64 d, .int .i64 x1, .int .i64 v, .int .i64 n, .int .i64 o, .int .i64 tn, .slice A5 lt c5, .slice A6 lh c6, .slice A7 le c7, .slice A8 lb c8] 53))
        have HKP : Hid (Keeps (fun b => w4.heap.size ≤ b) (fun b => B4 ≤ b ∧ b ≠ w5.heap.size) w5 (w5.alloc (.cells #[.int .i64 d, .int .i64 x1, .int .i64 v, .int .i64 n, .int .i64 o, .int .i64 tn, .slice A5 lt c5, .slice A6 lh c6, .slice A7 le c7, .slice A8 lb c8] 53))) := Lib.hid ((Keeps.mono (fun b hb hs => ⟨by rw [← hB4]; exact hs, by omega⟩)).trans (Keeps.below ((Below.refl w5.heap.size w5).alloc (Nat.le_refl _) (.cells #[.int .i64 d, .int .i64 x1, .int .i64 v, .int .i64 n, .int .i64 o, .int .i64 tn, .slice A5 lt c5, .slice A6 lh c6, .slice A7 le c7, .slice A8 lb c8] 53))))
        have HCN := Lib.hid (Cs.new w5 #[.int .i64 d, .int .i64 x1, .int .i64 v, .int .i64 n, .int .i64 o, .int .i64 tn, .slice A5 lt c5, .slice A6 lh c6, .slice A7 le c7, .slice A8 lb c8] 53)
        have HQCL : Hid (B4 ≤ w5.heap.size) := Lib.hid (by rw [← hB4]; exact hb5.size)
        have HSV : Hid (TOkN (fun b => B4 ≤ b ∧ b ≠ w5.heap.size) (w5.alloc (.cells #[.int .i64 d, .int .i64 x1, .int .i64 v, .int .i64 n, .int .i64 o, .int .i64 tn, .slice A5 lt c5, .slice A6 lh c6, .slice A7 le c7, .slice A8 lb c8] 53)) A5 c5 tk ∧ SOkN (fun b => B4 ≤ b ∧ b ≠ w5.heap.size) (w5.alloc (.cells #[.int .i64 d, .int .i64 x1, .int .i64 v, .int .i64 n, .int .i64 o, .int .i64 tn, .slice A5 lt c5, .slice A6 lh c6, .slice A7 le c7, .slice A8 lb c8] 53)) A6 c6 th ∧ SOkN (fun b => B4 ≤ b ∧ b ≠ w5.heap.size) (w5.alloc (.cells #[.int .i64 d, .int .i64 x1, .int .i64 v, .int .i64 n, .int .i64 o, .int .i64 tn, .slice A5 lt c5, .slice A6 lh c6, .slice A7 le c7, .slice A8 lb c8] 53)) A7 c7 el ∧ ZsN (fun b => B4 ≤ b ∧ b ≠ w5.heap.size) (w5.alloc (.cells #[.int .i64 d, .int .i64 x1, .int .i64 v, .int .i64 n, .int .i64 o, .int .i64 tn, .slice A5 lt c5, .slice A6 lh c6, .slice A7 le c7, .slice A8 lb c8] 53)) A8 lb c8 bs) := Lib.hid (by
          have hs2 := hsv.to HKP.out
          obtain ⟨d', x1', v', n', o', tn', tk', th', el', bs', B5, e5, B6, e6, B7, e7, B8, e8, hs, hv, k5, k6, k7, k8⟩ := hs2
          cases hs
          injection hv with hv
          simp only [Array.mk.injEq, List.cons.injEq, Value.slice.injEq, true_and, and_true] at hv
          obtain ⟨⟨r1, -, r3⟩, ⟨r4, -, r6⟩, ⟨r7, -, r9⟩, r10, -, r12⟩ := hv
          subst r1 r3 r4 r6 r7 r9 r10 r12
          rw [HLB.out] at k8
          exact ⟨k5, k6, k7, k8⟩)
        clear hsv hb5 HKP a0 a1 a2 a3 a4 a5 a6 a7 a8 a9
        go_upto_region 10 with fail
        obtain ⟨w6, hw6⟩ : ∃ w6, w5.alloc (.cells #[.int .i64 d, .int .i64 x1, .int .i64 v, .int .i64 n, .int .i64 o, .int .i64 tn, .slice A5 lt c5, .slice A6 lh c6, .slice A7 le c7, .slice A8 lb c8] 53) = w6 := ⟨_, rfl⟩
        obtain ⟨qc, hqc⟩ : ∃ qc, w5.heap.size = qc := ⟨_, rfl⟩
        rw [hw6] at HB5 HCN HSV
        rw [hqc] at HCN HQCL HSV
        rw [hw6, hqc]
        have HWO6 : Hid (Wo 53 w B4 q qc (.slice A2 kk c2) kk xs done d x1 v n o tn At lt ct Ah lh ch Ae le ce Ab lb cb tk th el bs A5 c5 A6 lh c6 A7 le c7 A8 c8 th el w6) := Lib.hid ⟨HBx.out.trans (HB5.out.mono HBx.out.size), HLO.out.1, HLO.out.2, HQCL.out, own_below HWx.out HB5.out, HRL.out, SRow.to (Keeps.below HB5.out) _ _ HXB.out, HN.out.next HB5.out, HCN.out, HTHN.out.to (Keeps.below HB5.out), HTEN.out.to (Keeps.below HB5.out), ⟨HLT.out, HLB.out⟩, HLH.out, HLE.out, HSV.out.1, HSV.out.2.1, HSV.out.2.2.1, HSV.out.2.2.2⟩
        clear hw6 hqc HBx HB5 HLO HQCL HWx HRL HXB HN HCN HTHN HTEN HSV HTK HTH HTE HTB hB4
        have a7 := HWO6.out.s.at 7 _ rfl
        go_wp2_with fail
        go_at_call 64
        refine (size_any (Sp.cntL th) th lh Ah ch _ z2 HLH.out (Nat.le_refl _) HSM.out.1 HWO6.out.oth.ok HZ2).mono ?_
        rintro e w7 ⟨rfl, hb⟩
        clear a7
        have HWO7 := Lib.hid (HWO6.out.next hb)
        clear hb HWO6
        by_cases q1 : j1 < 0
        · have q2 : j2 < 0 := by have := HJ2.out; omega
          have t0 : ¬ (0 : Int) ≤ j1 := by omega
          have t2 : decide ((0 : Int) ≤ j1) = false := decide_eq_false t0
          go_upto_region 13 with fail
          clear t0 t2
          have a7 := HWO7.out.s.at 7 _ rfl
          go_wp2_with fail
          go_at_call 64
          refine (size_any (Sp.cntL th) th lh Ah ch _ z2 HLH.out (Nat.le_refl _) HSM.out.1 HWO7.out.oth.ok HZ2).mono ?_
          rintro e wb1 ⟨rfl, hb⟩
          clear a7
          have HWOc := Lib.hid (HWO7.out.next hb)
          clear hb HWO7
          have a8 := HWOc.out.s.at 8 _ rfl
          go_wp2_with fail
          go_at_call 64
          refine (size_any (Sp.cntL el) el le Ae ce _ z3 HLE.out (Nat.le_refl _) HSM.out.2.1 HWOc.out.oel.ok HZ3).mono ?_
          rintro e wb2 ⟨rfl, hb⟩
          clear a8
          have HWOd := Lib.hid (HWOc.out.next hb)
          clear hb HWOc
          have t0 : ¬ (0 : Int) ≤ j2 := by omega
          have t2 : decide ((0 : Int) ≤ j2) = false := decide_eq_false t0
          go_upto_region 17 with fail
          clear t0 t2
          have a8 := HWOd.out.s.at 8 _ rfl
          go_wp2_with fail
          go_at_call 64
          refine (size_any (Sp.cntL el) el le Ae ce _ z3 HLE.out (Nat.le_refl _) HSM.out.2.1 HWOd.out.oel.ok HZ3).mono ?_
          rintro e wb5 ⟨rfl, hb⟩
          clear a8
          have HWOf := Lib.hid (HWOd.out.next hb)
          clear hb HWOd
          have n0 := HWOf.out.c.at 0 _ rfl
          have n1 := HWOf.out.c.at 1 _ rfl
          have n2 := HWOf.out.c.at 2 _ rfl
          have n3 := HWOf.out.c.at 3 _ rfl
          have n4 := HWOf.out.c.at 4 _ rfl
          have n5 := HWOf.out.c.at 5 _ rfl
          have n6 := HWOf.out.c.at 6 _ rfl
          have n7 := HWOf.out.c.at 7 _ rfl
          have n8 := HWOf.out.c.at 8 _ rfl
          have n9 := HWOf.out.c.at 9 _ rfl
          have hba := (Below.refl wb5.heap.size wb5).alloc (Nat.le_refl _) (.cells #[.int .i64 d, .int .i64 x1, .int .i64 v, .int .i64 n, .int .i64 o, .int .i64 tn, .slice A5 lt c5, .slice A6 lh c6, .slice A7 le c7, .slice A8 lb c8] 53)
          have HWR := Lib.hid (own_below HWOf.out.row hba)
          have HWS : Hid (w.heap.size ≤ (wb5.alloc (.cells #[.int .i64 d, .int .i64 x1, .int .i64 v, .int .i64 n, .int .i64 o, .int .i64 tn, .slice A5 lt c5, .slice A6 lh c6, .slice A7 le c7, .slice A8 lb c8] 53)).heap.size) := Lib.hid (Nat.le_trans HWOf.out.below.size hba.size)
          clear hba
          go_wp2_with (at_builtin; (refine wpList_append_lies _ rfl _ _ 24 rfl w.heap.size 53 i0 _ 10 144 Try.underlying24 HI.out.1 HI.out.2.1 HI.out.2.2.1 HI.out.2.2.2 rfl (by decide) _ kk xs rfl HWR.out ⟨wb5.heap.size, 0, none⟩ 1 1 [.int .i64 d, .int .i64 x1, .int .i64 v, .int .i64 n, .int .i64 o, .int .i64 tn, .slice A5 lt c5, .slice A6 lh c6, .slice A7 le c7, .slice A8 lb c8] rfl rfl (World.news_of_block (cs := #[.int .i64 d, .int .i64 x1, .int .i64 v, .int .i64 n, .int .i64 o, .int .i64 tn, .slice A5 lt c5, .slice A6 lh c6, .slice A7 le c7, .slice A8 lb c8]) (t := 53) (fr := (0, 0)) (heap_alloc_new wb5 _)) (by simp [Value.oneCell']) (by decide) (by unfold maxLen; omega) (by omega) HWS.out (wb5.heap.size + 1) (by simp) ?_; intro gg cap wz hown hgrow hat hltz; have HGR := Lib.hid (HWOf.out.grown (cap := cap) hgrow hat); have HOW := Lib.hid hown; clear hown hgrow hat))
          have hst : woS (.mk d x1 v n (.mk o tn tk) th el bs) j = .mk d x1 v n (.mk o tn tk) th el bs := by
            have h1 : j - 1 = j1 := HJ1.out.symm
            have h2 : j1 - (sizeL th : Nat) = j2 := by rw [HZ2.out]; exact HJ2.out.symm
            rw [woS, h1, h2]
            first
              | rw [woL_out th j1 (by rw [HZ2.out]; omega), woL_out el j2 (by rw [HZ3.out]; omega)]
              | rw [woL_out th j1 (by rw [HZ2.out]; omega)]
              | rw [woL_out el j2 (by rw [HZ3.out]; omega)]
          have HQ1 : Hid (woL ks i = (done ++ [woS (.mk d x1 v n (.mk o tn tk) th el bs) j]) ++ woL (ks.drop (k + 1)) j3) := Lib.hid (by
            rw [HQ.out, woL_drop hkl HKID.out j, if_neg HNZ.out, List.append_assoc]
            have h3 : j - (1 + (sizeO (.mk d x1 v n (.mk o tn tk) th el bs) : Nat)) = j3 := by
              rw [sizeO, HZ2.out, HZ3.out]
              have h1 := HJ1.out; have h2 := HJ2.out; have h3 := HJ3.out
              omega
            rw [h3]; rfl)
          have HX6 := HGR.out.2
          rw [← hst] at HX6
          have HX7 := Lib.hid HX6
          have HB6 := Lib.hid HGR.out.1
          have HDL1 : Hid ((done ++ [woS (.mk d x1 v n (.mk o tn tk) th el bs) j]).length = kk + 1) := Lib.hid (by rw [List.length_append, HDL.out]; rfl)
          clear hst HX6 HGR HWOf HWR HWS HQ HDL
          go_roundw
          case rel => exact ⟨k + 1, kk + 1, j3, some ⟨gg, 0, none⟩, cap, xs ++ [.int .i64 d, .int .i64 x1, .int .i64 v, .int .i64 n, .int .i64 o, .int .i64 tn, .slice A5 lt c5, .slice A6 lh c6, .slice A7 le c7, .slice A8 lb c8], _, by omega, by omega, rfl, rfl, by go_num, HQ1, HDL1, HJB3, HB6, HOW, HX7⟩
          case measure => simp [intOf]; omega
        by_cases q2 : j1 < (z2 : Int)
        · have q3 : j2 < 0 := by have := HJ2.out; omega
          have t0 : (0 : Int) ≤ j1 := by omega
          have t1 : j1 < (z2 : Int) := by omega
          have t2 : decide ((0 : Int) ≤ j1) = true := decide_eq_true t0
          have t3 : decide (j1 < (z2 : Int)) = true := decide_eq_true t1
          have a7 := HWO7.out.s.at 7 _ rfl
          go_wp2_with fail
          go_at_call 68
          refine (IH.out th lh Ah ch j1 _ HLH.out HSM.out.2.2.1 HSM.out.1 HSM.out.2.2.2.2.1 HWO7.out.oth.ok (by omega) (by omega)).mono ?_
          clear t0 t1 t2 t3
          rintro e w8 ⟨A9, l9, c9, rfl, hl9, hs9, hb9⟩
          have HS9 : Hid (SOkN (fun b => B4 ≤ b ∧ b ≠ qc) w8 A9 c9 (woL th j1)) := Lib.hid (hs9.to (Keeps.mono fun b _ hb => by have h1 := HWO7.out.c.lt; have h2 := HWO7.out.qcl; omega))
          have HL9 := Lib.hid hl9
          clear hs9 hl9 a7
          have HWO8 := Lib.hid (HWO7.out.next hb9)
          clear hb9 HWO7
          have n7 := HWO8.out.c.at 7 _ rfl
          have f7 := HWO8.out.c.free 7
          have hcl := HWO8.out.c.lt
          go_upto_region 13 with fail
          have HWO8p := Lib.hid (HWO8.out.put7 HL9.out HS9.out)
          obtain ⟨w9, hwn⟩ : ∃ w9, w8.setCell ⟨qc, 7, none⟩ (.slice A9 l9 c9) = w9 := ⟨_, rfl⟩
          rw [hwn] at HWO8p
          rw [hwn]
          clear hwn n7 f7 hcl HWO8
          have a7 := HWO8p.out.s.at 7 _ rfl
          go_wp2_with fail
          go_at_call 64
          refine (size_any (Sp.cntL th) th lh Ah ch _ z2 HLH.out (Nat.le_refl _) HSM.out.1 HWO8p.out.oth.ok HZ2).mono ?_
          rintro e wb1 ⟨rfl, hb⟩
          clear a7
          have HWOc := Lib.hid (HWO8p.out.next hb)
          clear hb HWO8p
          have a8 := HWOc.out.s.at 8 _ rfl
          go_wp2_with fail
          go_at_call 64
          refine (size_any (Sp.cntL el) el le Ae ce _ z3 HLE.out (Nat.le_refl _) HSM.out.2.1 HWOc.out.oel.ok HZ3).mono ?_
          rintro e wb2 ⟨rfl, hb⟩
          clear a8
          have HWOd := Lib.hid (HWOc.out.next hb)
          clear hb HWOc
          have t0 : ¬ (0 : Int) ≤ j2 := by omega
          have t2 : decide ((0 : Int) ≤ j2) = false := decide_eq_false t0
          go_upto_region 17 with fail
          clear t0 t2
          have a8 := HWOd.out.s.at 8 _ rfl
          go_wp2_with fail
          go_at_call 64
          refine (size_any (Sp.cntL el) el le Ae ce _ z3 HLE.out (Nat.le_refl _) HSM.out.2.1 HWOd.out.oel.ok HZ3).mono ?_
          rintro e wb5 ⟨rfl, hb⟩
          clear a8
          have HWOf := Lib.hid (HWOd.out.next hb)
          clear hb HWOd
          have n0 := HWOf.out.c.at 0 _ rfl
          have n1 := HWOf.out.c.at 1 _ rfl
          have n2 := HWOf.out.c.at 2 _ rfl
          have n3 := HWOf.out.c.at 3 _ rfl
          have n4 := HWOf.out.c.at 4 _ rfl
          have n5 := HWOf.out.c.at 5 _ rfl
          have n6 := HWOf.out.c.at 6 _ rfl
          have n7 := HWOf.out.c.at 7 _ rfl
          have n8 := HWOf.out.c.at 8 _ rfl
          have n9 := HWOf.out.c.at 9 _ rfl
          have hba := (Below.refl wb5.heap.size wb5).alloc (Nat.le_refl _) (.cells #[.int .i64 d, .int .i64 x1, .int .i64 v, .int .i64 n, .int .i64 o, .int .i64 tn, .slice A5 lt c5, .slice A9 l9 c9, .slice A7 le c7, .slice A8 lb c8] 53)
          have HWR := Lib.hid (own_below HWOf.out.row hba)
          have HWS : Hid (w.heap.size ≤ (wb5.alloc (.cells #[.int .i64 d, .int .i64 x1, .int .i64 v, .int .i64 n, .int .i64 o, .int .i64 tn, .slice A5 lt c5, .slice A9 l9 c9, .slice A7 le c7, .slice A8 lb c8] 53)).heap.size) := Lib.hid (Nat.le_trans HWOf.out.below.size hba.size)
          clear hba
          go_wp2_with (at_builtin; (refine wpList_append_lies _ rfl _ _ 24 rfl w.heap.size 53 i0 _ 10 144 Try.underlying24 HI.out.1 HI.out.2.1 HI.out.2.2.1 HI.out.2.2.2 rfl (by decide) _ kk xs rfl HWR.out ⟨wb5.heap.size, 0, none⟩ 1 1 [.int .i64 d, .int .i64 x1, .int .i64 v, .int .i64 n, .int .i64 o, .int .i64 tn, .slice A5 lt c5, .slice A9 l9 c9, .slice A7 le c7, .slice A8 lb c8] rfl rfl (World.news_of_block (cs := #[.int .i64 d, .int .i64 x1, .int .i64 v, .int .i64 n, .int .i64 o, .int .i64 tn, .slice A5 lt c5, .slice A9 l9 c9, .slice A7 le c7, .slice A8 lb c8]) (t := 53) (fr := (0, 0)) (heap_alloc_new wb5 _)) (by simp [Value.oneCell']) (by decide) (by unfold maxLen; omega) (by omega) HWS.out (wb5.heap.size + 1) (by simp) ?_; intro gg cap wz hown hgrow hat hltz; have HGR := Lib.hid (HWOf.out.grown (cap := cap) hgrow hat); have HOW := Lib.hid hown; clear hown hgrow hat))
          have hst : woS (.mk d x1 v n (.mk o tn tk) th el bs) j = .mk d x1 v n (.mk o tn tk) (woL th j1) el bs := by
            have h1 : j - 1 = j1 := HJ1.out.symm
            have h2 : j1 - (sizeL th : Nat) = j2 := by rw [HZ2.out]; exact HJ2.out.symm
            rw [woS, h1, h2]
            first
              | rw [woL_out th j1 (by rw [HZ2.out]; omega), woL_out el j2 (by rw [HZ3.out]; omega)]
              | rw [woL_out th j1 (by rw [HZ2.out]; omega)]
              | rw [woL_out el j2 (by rw [HZ3.out]; omega)]
          have HQ1 : Hid (woL ks i = (done ++ [woS (.mk d x1 v n (.mk o tn tk) th el bs) j]) ++ woL (ks.drop (k + 1)) j3) := Lib.hid (by
            rw [HQ.out, woL_drop hkl HKID.out j, if_neg HNZ.out, List.append_assoc]
            have h3 : j - (1 + (sizeO (.mk d x1 v n (.mk o tn tk) th el bs) : Nat)) = j3 := by
              rw [sizeO, HZ2.out, HZ3.out]
              have h1 := HJ1.out; have h2 := HJ2.out; have h3 := HJ3.out
              omega
            rw [h3]; rfl)
          have HX6 := HGR.out.2
          rw [← hst] at HX6
          have HX7 := Lib.hid HX6
          have HB6 := Lib.hid HGR.out.1
          have HDL1 : Hid ((done ++ [woS (.mk d x1 v n (.mk o tn tk) th el bs) j]).length = kk + 1) := Lib.hid (by rw [List.length_append, HDL.out]; rfl)
          clear hst HX6 HGR HWOf HWR HWS HQ HDL
          go_roundw
          case rel => exact ⟨k + 1, kk + 1, j3, some ⟨gg, 0, none⟩, cap, xs ++ [.int .i64 d, .int .i64 x1, .int .i64 v, .int .i64 n, .int .i64 o, .int .i64 tn, .slice A5 lt c5, .slice A9 l9 c9, .slice A7 le c7, .slice A8 lb c8], _, by omega, by omega, rfl, rfl, by go_num, HQ1, HDL1, HJB3, HB6, HOW, HX7⟩
          case measure => simp [intOf]; omega
        have q3 : 0 ≤ j2 := by have := HJ2.out; omega
        by_cases q4 : j2 < (z3 : Int)
        · skip
          have t0 : (0 : Int) ≤ j1 := by omega
          have t1 : ¬ j1 < (z2 : Int) := by omega
          have t2 : decide ((0 : Int) ≤ j1) = true := decide_eq_true t0
          have t3 : decide (j1 < (z2 : Int)) = false := decide_eq_false t1
          go_upto_region 13 with fail
          clear t0 t1 t2 t3
          have a7 := HWO7.out.s.at 7 _ rfl
          go_wp2_with fail
          go_at_call 64
          refine (size_any (Sp.cntL th) th lh Ah ch _ z2 HLH.out (Nat.le_refl _) HSM.out.1 HWO7.out.oth.ok HZ2).mono ?_
          rintro e wb1 ⟨rfl, hb⟩
          clear a7
          have HWOc := Lib.hid (HWO7.out.next hb)
          clear hb HWO7
          have a8 := HWOc.out.s.at 8 _ rfl
          go_wp2_with fail
          go_at_call 64
          refine (size_any (Sp.cntL el) el le Ae ce _ z3 HLE.out (Nat.le_refl _) HSM.out.2.1 HWOc.out.oel.ok HZ3).mono ?_
          rintro e wb2 ⟨rfl, hb⟩
          clear a8
          have HWOd := Lib.hid (HWOc.out.next hb)
          clear hb HWOc
          have t0 : (0 : Int) ≤ j2 := by omega
          have t1 : j2 < (z3 : Int) := by omega
          have t2 : decide ((0 : Int) ≤ j2) = true := decide_eq_true t0
          have t3 : decide (j2 < (z3 : Int)) = true := decide_eq_true t1
          have a8 := HWOd.out.s.at 8 _ rfl
          go_wp2_with fail
          go_at_call 68
          refine (IH.out el le Ae ce j2 _ HLE.out HSM.out.2.2.2.1 HSM.out.2.1 HSM.out.2.2.2.2.2 HWOd.out.oel.ok (by omega) (by omega)).mono ?_
          clear t0 t1 t2 t3
          rintro e wb3 ⟨Aa, la, ca, rfl, hl9, hs9, hb9⟩
          have HS9 : Hid (SOkN (fun b => B4 ≤ b ∧ b ≠ qc) wb3 Aa ca (woL el j2)) := Lib.hid (hs9.to (Keeps.mono fun b _ hb => by have h1 := HWOd.out.c.lt; have h2 := HWOd.out.qcl; omega))
          have HL9 := Lib.hid hl9
          clear hs9 hl9 a8
          have HWOe := Lib.hid (HWOd.out.next hb9)
          clear hb9 HWOd
          have n8 := HWOe.out.c.at 8 _ rfl
          have f8 := HWOe.out.c.free 8
          have hcl := HWOe.out.c.lt
          go_upto_region 17 with fail
          have HWOep := Lib.hid (HWOe.out.put8 HL9.out HS9.out)
          obtain ⟨wb4, hwn⟩ : ∃ wb4, wb3.setCell ⟨qc, 8, none⟩ (.slice Aa la ca) = wb4 := ⟨_, rfl⟩
          rw [hwn] at HWOep
          rw [hwn]
          clear hwn n8 f8 hcl HWOe
          have a8 := HWOep.out.s.at 8 _ rfl
          go_wp2_with fail
          go_at_call 64
          refine (size_any (Sp.cntL el) el le Ae ce _ z3 HLE.out (Nat.le_refl _) HSM.out.2.1 HWOep.out.oel.ok HZ3).mono ?_
          rintro e wb5 ⟨rfl, hb⟩
          clear a8
          have HWOf := Lib.hid (HWOep.out.next hb)
          clear hb HWOep
          have n0 := HWOf.out.c.at 0 _ rfl
          have n1 := HWOf.out.c.at 1 _ rfl
          have n2 := HWOf.out.c.at 2 _ rfl
          have n3 := HWOf.out.c.at 3 _ rfl
          have n4 := HWOf.out.c.at 4 _ rfl
          have n5 := HWOf.out.c.at 5 _ rfl
          have n6 := HWOf.out.c.at 6 _ rfl
          have n7 := HWOf.out.c.at 7 _ rfl
          have n8 := HWOf.out.c.at 8 _ rfl
          have n9 := HWOf.out.c.at 9 _ rfl
          have hba := (Below.refl wb5.heap.size wb5).alloc (Nat.le_refl _) (.cells #[.int .i64 d, .int .i64 x1, .int .i64 v, .int .i64 n, .int .i64 o, .int .i64 tn, .slice A5 lt c5, .slice A6 lh c6, .slice Aa la ca, .slice A8 lb c8] 53)
          have HWR := Lib.hid (own_below HWOf.out.row hba)
          have HWS : Hid (w.heap.size ≤ (wb5.alloc (.cells #[.int .i64 d, .int .i64 x1, .int .i64 v, .int .i64 n, .int .i64 o, .int .i64 tn, .slice A5 lt c5, .slice A6 lh c6, .slice Aa la ca, .slice A8 lb c8] 53)).heap.size) := Lib.hid (Nat.le_trans HWOf.out.below.size hba.size)
          clear hba
          go_wp2_with (at_builtin; (refine wpList_append_lies _ rfl _ _ 24 rfl w.heap.size 53 i0 _ 10 144 Try.underlying24 HI.out.1 HI.out.2.1 HI.out.2.2.1 HI.out.2.2.2 rfl (by decide) _ kk xs rfl HWR.out ⟨wb5.heap.size, 0, none⟩ 1 1 [.int .i64 d, .int .i64 x1, .int .i64 v, .int .i64 n, .int .i64 o, .int .i64 tn, .slice A5 lt c5, .slice A6 lh c6, .slice Aa la ca, .slice A8 lb c8] rfl rfl (World.news_of_block (cs := #[.int .i64 d, .int .i64 x1, .int .i64 v, .int .i64 n, .int .i64 o, .int .i64 tn, .slice A5 lt c5, .slice A6 lh c6, .slice Aa la ca, .slice A8 lb c8]) (t := 53) (fr := (0, 0)) (heap_alloc_new wb5 _)) (by simp [Value.oneCell']) (by decide) (by unfold maxLen; omega) (by omega) HWS.out (wb5.heap.size + 1) (by simp) ?_; intro gg cap wz hown hgrow hat hltz; have HGR := Lib.hid (HWOf.out.grown (cap := cap) hgrow hat); have HOW := Lib.hid hown; clear hown hgrow hat))
          have hst : woS (.mk d x1 v n (.mk o tn tk) th el bs) j = .mk d x1 v n (.mk o tn tk) th (woL el j2) bs := by
            have h1 : j - 1 = j1 := HJ1.out.symm
            have h2 : j1 - (sizeL th : Nat) = j2 := by rw [HZ2.out]; exact HJ2.out.symm
            rw [woS, h1, h2]
            first
              | rw [woL_out th j1 (by rw [HZ2.out]; omega), woL_out el j2 (by rw [HZ3.out]; omega)]
              | rw [woL_out th j1 (by rw [HZ2.out]; omega)]
              | rw [woL_out el j2 (by rw [HZ3.out]; omega)]
          have HQ1 : Hid (woL ks i = (done ++ [woS (.mk d x1 v n (.mk o tn tk) th el bs) j]) ++ woL (ks.drop (k + 1)) j3) := Lib.hid (by
            rw [HQ.out, woL_drop hkl HKID.out j, if_neg HNZ.out, List.append_assoc]
            have h3 : j - (1 + (sizeO (.mk d x1 v n (.mk o tn tk) th el bs) : Nat)) = j3 := by
              rw [sizeO, HZ2.out, HZ3.out]
              have h1 := HJ1.out; have h2 := HJ2.out; have h3 := HJ3.out
              omega
            rw [h3]; rfl)
          have HX6 := HGR.out.2
          rw [← hst] at HX6
          have HX7 := Lib.hid HX6
          have HB6 := Lib.hid HGR.out.1
          have HDL1 : Hid ((done ++ [woS (.mk d x1 v n (.mk o tn tk) th el bs) j]).length = kk + 1) := Lib.hid (by rw [List.length_append, HDL.out]; rfl)
          clear hst HX6 HGR HWOf HWR HWS HQ HDL
          go_roundw
          case rel => exact ⟨k + 1, kk + 1, j3, some ⟨gg, 0, none⟩, cap, xs ++ [.int .i64 d, .int .i64 x1, .int .i64 v, .int .i64 n, .int .i64 o, .int .i64 tn, .slice A5 lt c5, .slice A6 lh c6, .slice Aa la ca, .slice A8 lb c8], _, by omega, by omega, rfl, rfl, by go_num, HQ1, HDL1, HJB3, HB6, HOW, HX7⟩
          case measure => simp [intOf]; omega
        · skip
          have t0 : (0 : Int) ≤ j1 := by omega
          have t1 : ¬ j1 < (z2 : Int) := by omega
          have t2 : decide ((0 : Int) ≤ j1) = true := decide_eq_true t0
          have t3 : decide (j1 < (z2 : Int)) = false := decide_eq_false t1
          go_upto_region 13 with fail
          clear t0 t1 t2 t3
          have a7 := HWO7.out.s.at 7 _ rfl
          go_wp2_with fail
          go_at_call 64
          refine (size_any (Sp.cntL th) th lh Ah ch _ z2 HLH.out (Nat.le_refl _) HSM.out.1 HWO7.out.oth.ok HZ2).mono ?_
          rintro e wb1 ⟨rfl, hb⟩
          clear a7
          have HWOc := Lib.hid (HWO7.out.next hb)
          clear hb HWO7
          have a8 := HWOc.out.s.at 8 _ rfl
          go_wp2_with fail
          go_at_call 64
          refine (size_any (Sp.cntL el) el le Ae ce _ z3 HLE.out (Nat.le_refl _) HSM.out.2.1 HWOc.out.oel.ok HZ3).mono ?_
          rintro e wb2 ⟨rfl, hb⟩
          clear a8
          have HWOd := Lib.hid (HWOc.out.next hb)
          clear hb HWOc
          have t0 : (0 : Int) ≤ j2 := by omega
          have t1 : ¬ j2 < (z3 : Int) := by omega
          have t2 : decide ((0 : Int) ≤ j2) = true := decide_eq_true t0
          have t3 : decide (j2 < (z3 : Int)) = false := decide_eq_false t1
          go_upto_region 17 with fail
          clear t0 t1 t2 t3
          have a8 := HWOd.out.s.at 8 _ rfl
          go_wp2_with fail
          go_at_call 64
          refine (size_any (Sp.cntL el) el le Ae ce _ z3 HLE.out (Nat.le_refl _) HSM.out.2.1 HWOd.out.oel.ok HZ3).mono ?_
          rintro e wb5 ⟨rfl, hb⟩
          clear a8
          have HWOf := Lib.hid (HWOd.out.next hb)
          clear hb HWOd
          have n0 := HWOf.out.c.at 0 _ rfl
          have n1 := HWOf.out.c.at 1 _ rfl
          have n2 := HWOf.out.c.at 2 _ rfl
          have n3 := HWOf.out.c.at 3 _ rfl
          have n4 := HWOf.out.c.at 4 _ rfl
          have n5 := HWOf.out.c.at 5 _ rfl
          have n6 := HWOf.out.c.at 6 _ rfl
          have n7 := HWOf.out.c.at 7 _ rfl
          have n8 := HWOf.out.c.at 8 _ rfl
          have n9 := HWOf.out.c.at 9 _ rfl
          have hba := (Below.refl wb5.heap.size wb5).alloc (Nat.le_refl _) (.cells #[.int .i64 d, .int .i64 x1, .int .i64 v, .int .i64 n, .int .i64 o, .int .i64 tn, .slice A5 lt c5, .slice A6 lh c6, .slice A7 le c7, .slice A8 lb c8] 53)
          have HWR := Lib.hid (own_below HWOf.out.row hba)
          have HWS : Hid (w.heap.size ≤ (wb5.alloc (.cells #[.int .i64 d, .int .i64 x1, .int .i64 v, .int .i64 n, .int .i64 o, .int .i64 tn, .slice A5 lt c5, .slice A6 lh c6, .slice A7 le c7, .slice A8 lb c8] 53)).heap.size) := Lib.hid (Nat.le_trans HWOf.out.below.size hba.size)
          clear hba
          go_wp2_with (at_builtin; (refine wpList_append_lies _ rfl _ _ 24 rfl w.heap.size 53 i0 _ 10 144 Try.underlying24 HI.out.1 HI.out.2.1 HI.out.2.2.1 HI.out.2.2.2 rfl (by decide) _ kk xs rfl HWR.out ⟨wb5.heap.size, 0, none⟩ 1 1 [.int .i64 d, .int .i64 x1, .int .i64 v, .int .i64 n, .int .i64 o, .int .i64 tn, .slice A5 lt c5, .slice A6 lh c6, .slice A7 le c7, .slice A8 lb c8] rfl rfl (World.news_of_block (cs := #[.int .i64 d, .int .i64 x1, .int .i64 v, .int .i64 n, .int .i64 o, .int .i64 tn, .slice A5 lt c5, .slice A6 lh c6, .slice A7 le c7, .slice A8 lb c8]) (t := 53) (fr := (0, 0)) (heap_alloc_new wb5 _)) (by simp [Value.oneCell']) (by decide) (by unfold maxLen; omega) (by omega) HWS.out (wb5.heap.size + 1) (by simp) ?_; intro gg cap wz hown hgrow hat hltz; have HGR := Lib.hid (HWOf.out.grown (cap := cap) hgrow hat); have HOW := Lib.hid hown; clear hown hgrow hat))
          have hst : woS (.mk d x1 v n (.mk o tn tk) th el bs) j = .mk d x1 v n (.mk o tn tk) th el bs := by
            have h1 : j - 1 = j1 := HJ1.out.symm
            have h2 : j1 - (sizeL th : Nat) = j2 := by rw [HZ2.out]; exact HJ2.out.symm
            rw [woS, h1, h2]
            first
              | rw [woL_out th j1 (by rw [HZ2.out]; omega), woL_out el j2 (by rw [HZ3.out]; omega)]
              | rw [woL_out th j1 (by rw [HZ2.out]; omega)]
              | rw [woL_out el j2 (by rw [HZ3.out]; omega)]
          have HQ1 : Hid (woL ks i = (done ++ [woS (.mk d x1 v n (.mk o tn tk) th el bs) j]) ++ woL (ks.drop (k + 1)) j3) := Lib.hid (by
            rw [HQ.out, woL_drop hkl HKID.out j, if_neg HNZ.out, List.append_assoc]
            have h3 : j - (1 + (sizeO (.mk d x1 v n (.mk o tn tk) th el bs) : Nat)) = j3 := by
              rw [sizeO, HZ2.out, HZ3.out]
              have h1 := HJ1.out; have h2 := HJ2.out; have h3 := HJ3.out
              omega
            rw [h3]; rfl)
          have HX6 := HGR.out.2
          rw [← hst] at HX6
          have HX7 := Lib.hid HX6
          have HB6 := Lib.hid HGR.out.1
          have HDL1 : Hid ((done ++ [woS (.mk d x1 v n (.mk o tn tk) th el bs) j]).length = kk + 1) := Lib.hid (by rw [List.length_append, HDL.out]; rfl)
          clear hst HX6 HGR HWOf HWR HWS HQ HDL
          go_roundw
          case rel => exact ⟨k + 1, kk + 1, j3, some ⟨gg, 0, none⟩, cap, xs ++ [.int .i64 d, .int .i64 x1, .int .i64 v, .int .i64 n, .int .i64 o, .int .i64 tn, .slice A5 lt c5, .slice A6 lh c6, .slice A7 le c7, .slice A8 lb c8], _, by omega, by omega, rfl, rfl, by go_num, HQ1, HDL1, HJB3, HB6, HOW, HX7⟩
          case measure => simp [intOf]; omega
      · obtain rfl : k = l := by omega
        have hq := HQ.out
        rw [List.drop_of_length_le (by rw [HL.out]; exact Nat.le_refl _), woL, List.append_nil] at hq
        have HQ2 := Lib.hid hq
        clear hq HQ
        go_wp2_with fail
        go_ret
        exact ⟨A2, kk, c2, rfl, by rw [HQ2.out]; exact HDL.out, by rw [HQ2.out]; exact srow_ok HW.out (SRow.to keeps_end _ _ HX.out) HDL.out (fun b h => h), HB.out⟩
end Go.Proofs.Ytjpjmoejdkmglaa
