/-
  The walks over At's closure and over At.
  The walks over At.
  Copies of variables and of hatches in memory; the walk over the library's Clone of variables.
  The walks over Remove.
-/
import Derived.Test.YtjpjmoejdkmglaaJK
import Derived.Laws.EntriesVeiled
import Derived.Deep.DeepCutAuto
namespace Go.Proofs.Ytjpjmoejdkmglaa
open Go.RowKit

/-- The step s, its cells at (g, f). -/
def SAt (W : World) (g f : Nat) (s : Sp) : Prop :=
  ∃ (d x1 v n o tn : Int) (tk : List Tm) (th el : List Sp) (bs : List Int) (At : Option Addr) (lt ct : Nat) (Ah : Option Addr) (lh ch : Nat) (Ae : Option Addr) (le ce : Nat) (Ab : Option Addr) (lb cb : Nat),
    s = .mk d x1 v n (.mk o tn tk) th el bs ∧ SCell W g f d x1 v n o tn At lt ct Ah lh ch Ae le ce Ab lb cb ∧ tk.length = lt ∧ th.length = lh ∧ el.length = le ∧ bs.length = lb ∧ TOk W At ct tk ∧ SOk W Ah ch th ∧ SOk W Ae ce el ∧ Zs W Ab lb cb bs
/-- What has been found when a steps of pre have been visited. -/
def FdOK (w0 : World) (pre : List Sp) (i : Int) (a : Nat) (v : Value) : Prop :=
  (¬ (0 ≤ i ∧ i < (a : Int)) → v = .pointer none) ∧ ((0 ≤ i ∧ i < (a : Int)) → ∃ g f s, v = .pointer (some ⟨g, f, none⟩) ∧ g < w0.heap.size ∧ pre[i.toNat]? = some s ∧ SAt w0 g f s)
theorem FdOK.zero (w0 : World) (pre : List Sp) (i : Int) : FdOK w0 pre i 0 (.pointer none) := ⟨fun _ => rfl, fun h => absurd h (by omega)⟩
theorem FdOK.hit {w0 : World} {pre : List Sp} {i : Int} {a : Nat} {g f : Nat} {s : Sp} (he : (a : Int) = i) (hg : g < w0.heap.size) (hp : pre[a]? = some s) (hs : SAt w0 g f s) : FdOK w0 pre i (a + 1) (.pointer (some ⟨g, f, none⟩)) :=
  ⟨fun h => absurd (show 0 ≤ i ∧ i < ((a + 1 : Nat) : Int) by omega) h, fun _ => ⟨g, f, s, rfl, hg, by rw [show i.toNat = a by omega]; exact hp, hs⟩⟩
theorem FdOK.miss {w0 : World} {pre : List Sp} {i : Int} {a : Nat} {v : Value} (h : FdOK w0 pre i a v) (he : ¬ (a : Int) = i) : FdOK w0 pre i (a + 1) v :=
  ⟨fun hn => h.1 (fun h2 => hn (by omega)), fun hp => h.2 (by omega)⟩
/-- What the closure has captured: how many have been visited, what has been found. -/
structure Atw (w0 : World) (pre : List Sp) (i : Int) (pa pi pf pw pk : Nat) (ck : List Value) (a : Nat) (v : Value) (W : World) : Prop where
  below0 : Below w0.heap.size w0 W
  lo : w0.heap.size ≤ pa ∧ w0.heap.size ≤ pf
  ne : pa ≠ pi ∧ pa ≠ pf ∧ pa ≠ pw ∧ pf ≠ pi ∧ pf ≠ pw ∧ pa ≠ pk ∧ pf ≠ pk
  ha : Cs W pa [.int .i64 a]
  hi : Cs W pi [.int .i64 i]
  hf : Cs W pf [v]
  hw : Cs W pw [.func (Fn.func 65) #[] #[.pointer (some ⟨pa, 0, none⟩), .pointer (some ⟨pi, 0, none⟩), .pointer (some ⟨pf, 0, none⟩), .pointer (some ⟨pw, 0, none⟩)]]
  hk : Cs W pk ck
  fd : FdOK w0 pre i a v
theorem Atw.drew {w0 : World} {pre : List Sp} {i : Int} {pa pi pf pw pk a : Nat} {ck : List Value} {v : Value} {W : World} (h : Atw w0 pre i pa pi pf pw pk ck a v W) : Atw w0 pre i pa pi pf pw pk ck a v W.drew :=
  ⟨h.below0.trans ((Below.refl W.heap.size W).drew.mono h.below0.size), h.lo, h.ne, h.ha.drew, h.hi.drew, h.hf.drew, h.hw.drew, h.hk.drew, h.fd⟩
theorem Atw.miss {w0 : World} {pre : List Sp} {i : Int} {pa pi pf pw pk a : Nat} {ck : List Value} {v : Value} {W : World} (h : Atw w0 pre i pa pi pf pw pk ck a v W) (he : ¬ (a : Int) = i) : Atw w0 pre i pa pi pf pw pk ck (a + 1) v (W.setCell ⟨pa, 0, none⟩ (.int .i64 ((a : Int) + 1))) :=
  ⟨h.below0.setCell (p := ⟨pa, 0, none⟩) h.lo.1 _, h.lo, h.ne, h.ha.set 0 _ (by simp), h.hi.other (p := ⟨pa, 0, none⟩) h.ne.1 _, h.hf.other (p := ⟨pa, 0, none⟩) h.ne.2.1 _, h.hw.other (p := ⟨pa, 0, none⟩) h.ne.2.2.1 _, h.hk.other (p := ⟨pa, 0, none⟩) h.ne.2.2.2.2.2.1 _, h.fd.miss he⟩
theorem Atw.hit {w0 : World} {pre : List Sp} {i : Int} {pa pi pf pw pk a : Nat} {ck : List Value} {v : Value} {W : World} {g f : Nat} {s : Sp} (h : Atw w0 pre i pa pi pf pw pk ck a v W) (he : (a : Int) = i) (hg : g < w0.heap.size) (hp : pre[a]? = some s) (hs : SAt w0 g f s) : Atw w0 pre i pa pi pf pw pk ck (a + 1) (.pointer (some ⟨g, f, none⟩)) ((W.setCell ⟨pf, 0, none⟩ (.pointer (some ⟨g, f, none⟩))).setCell ⟨pa, 0, none⟩ (.int .i64 ((a : Int) + 1))) :=
  ⟨(h.below0.setCell (p := ⟨pf, 0, none⟩) h.lo.2 _).setCell (p := ⟨pa, 0, none⟩) h.lo.1 _, h.lo, h.ne, (h.ha.other (p := ⟨pf, 0, none⟩) (fun e => h.ne.2.1 e.symm) _).set 0 _ (by simp), (h.hi.other (p := ⟨pf, 0, none⟩) h.ne.2.2.2.1 _).other (p := ⟨pa, 0, none⟩) h.ne.1 _, (h.hf.set 0 _ (by simp)).other (p := ⟨pa, 0, none⟩) h.ne.2.1 _, (h.hw.other (p := ⟨pf, 0, none⟩) h.ne.2.2.2.2.1 _).other (p := ⟨pa, 0, none⟩) h.ne.2.2.1 _, (h.hk.other (p := ⟨pf, 0, none⟩) h.ne.2.2.2.2.2.2 _).other (p := ⟨pa, 0, none⟩) h.ne.2.2.2.2.2.1 _, FdOK.hit he hg hp hs⟩

set_option maxRecDepth 100000 in
set_option maxHeartbeats 8000000 in
theorem at1_any (pre : List Sp) (i : Int) (w0 : World) (pa pi pf pw pk : Nat) (ck : List Value) (m : Nat) : ∀ (ks : List Sp) (l : Nat) (A : Option Addr) (c a r : Nat) (tl : List Sp) (w : World) (v : Value), ks.length = l → Sp.cntL ks ≤ m → SOk w0 A c ks → Hid (pre.drop a = preL ks ++ tl) → Hid (a + sizeL ks = r) → r ≤ 1000000 → Atw w0 pre i pa pi pf pw pk ck a v w →
    Calls Try.prog 65 #[.slice A l c, .pointer (some ⟨pa, 0, none⟩), .pointer (some ⟨pi, 0, none⟩), .pointer (some ⟨pf, 0, none⟩), .pointer (some ⟨pw, 0, none⟩)] w fun e w' => e = .returned (.tuple #[]) ∧ ∃ v', Atw w0 pre i pa pi pf pw pk ck r v' w' := by
  induction m with
  | zero =>
    intro ks l A c a r tl w v hl hm ht hp hr hrm h
    have hk : ks = [] := by
      cases ks with
      | nil => rfl
      | cons k ks => have := Sp.cnt_pos k; simp only [Sp.cntL] at hm; omega
    subst hk
    have hl0 : l = 0 := hl.symm
    subst hl0
    have ha : a = r := by have := hr.out; rw [sizeL] at this; omega
    subst ha
    have H := Lib.hid h
    clear ht hp hr h
    go_enter Try.func65, Try.ntmps65
    go_wp2_with fail
    go_loopw [6, 9] (fun _ u wr => u = .int .i64 0 ∧ wr = w) (fun _ _ _ => 0)
    case atStart => exact ⟨rfl, rfl⟩
    case round =>
      obtain ⟨rfl, rfl⟩ := hrel
      go_wp2_with fail
      go_returns
      exact ⟨rfl, v, H.out⟩
  | succ m ih =>
    intro ks l A c a r tl w v0 hl hm ht hp hr hrm h
    have IH := Lib.hid ih
    have HL := Lib.hid hl
    have HM := Lib.hid hm
    have HT := Lib.hid ht
    have hlm : l ≤ 1000000 := by have h1 := hr.out; rw [sizeL_x, hl] at h1; omega
    have HP0 : Hid (pre.drop a = preL (ks.drop 0) ++ tl) := Lib.hid (by rw [List.drop_zero]; exact hp.out)
    have HR0 : Hid (a + sizeL (ks.drop 0) = r) := Lib.hid (by rw [List.drop_zero]; exact hr.out)
    have H0 := Lib.hid h
    clear ih hl hm ht hp hr h
    go_enter Try.func65, Try.ntmps65
    go_wp2_with fail
    go_loopw [6, 9] (fun _ u wr => ∃ (k b : Nat) (v : Value), k ≤ l ∧ u = .int .i64 k ∧ Hid (pre.drop b = preL (ks.drop k) ++ tl) ∧ Hid (b + sizeL (ks.drop k) = r) ∧ Hid (Atw w0 pre i pa pi pf pw pk ck b v wr)) (fun _ u _ => l - (intOf u).toNat)
    case atStart => exact ⟨0, a, v0, by omega, rfl, HP0, HR0, H0⟩
    case round =>
      clear HP0 HR0 H0
      obtain ⟨k, b, vb, hk, rfl, HP, HR, H0⟩ := hrel
      by_cases hlt : k < l
      · have hkl : k < ks.length := by rw [HL.out]; exact hlt
        have hlt' : (k : Int) < (l : Int) := by omega
        have hk0 : (0 : Int) ≤ (k : Int) := by omega
        obtain ⟨d, x1, v, n, o, tn, tk, th, el, bs, g, f, At, ct, Ah, ch, Ae, ce, Ab, cb, hkid, hA, hg, hsc, htok, hth, hel, hbs⟩ := (HT.out).step k hkl
        subst hA
        obtain ⟨lt, hlt1⟩ : ∃ l, tk.length = l := ⟨_, rfl⟩
        obtain ⟨lh, hlh⟩ : ∃ l, th.length = l := ⟨_, rfl⟩
        obtain ⟨le, hle⟩ : ∃ l, el.length = l := ⟨_, rfl⟩
        obtain ⟨lb, hlb⟩ : ∃ l, bs.length = l := ⟨_, rfl⟩
        rw [hlt1, hlh, hle, hlb] at hsc
        rw [hlb] at hbs
        have hdr : ks.drop k = .mk d x1 v n (.mk o tn tk) th el bs :: ks.drop (k + 1) := by rw [List.drop_eq_getElem_cons hkl, hkid]
        have hcm : 1 + Tm.cnt (.mk o tn tk) + Sp.cntL th + Sp.cntL el ≤ m + 1 := by
          have := Sp.cntL_get ks k hkl
          rw [hkid] at this
          simp only [Sp.cnt] at this
          have := HM.out
          omega
        have HLT := Lib.hid hlt1
        have HLH := Lib.hid hlh
        have HLE := Lib.hid hle
        have HLB := Lib.hid hlb
        have HCM := Lib.hid hcm
        obtain ⟨c0, c1, c2, c3, c4, c5, c6, c7, c8, c9⟩ := hsc
        have HSC : Hid (SCell w0 g (f + k * 10) d x1 v n o tn At lt ct Ah lh ch Ae le ce Ab lb cb) := Lib.hid ⟨c0, c1, c2, c3, c4, c5, c6, c7, c8, c9⟩
        have HG := Lib.hid hg
        have HSM : Hid (Sp.cntL th ≤ m ∧ Sp.cntL el ≤ m) := Lib.hid (by have := Tm.cnt_pos (.mk o tn tk); omega)
        have hpd := HP.out
        rw [hdr, preL, preS] at hpd
        have HPB : Hid (pre[b]? = some (.mk d x1 v n (.mk o tn tk) th el bs)) := Lib.hid (by
          have h1 : (pre.drop b)[0]? = some (.mk d x1 v n (.mk o tn tk) th el bs) := by rw [hpd]; rfl
          rw [List.getElem?_drop] at h1
          exact h1)
        have hp1 : pre.drop (b + 1) = preL th ++ (preL el ++ (preL (ks.drop (k + 1)) ++ tl)) := by
          rw [← List.drop_drop, hpd]
          simp only [List.cons_append, List.drop_succ_cons, List.drop_zero, List.append_assoc]
        obtain ⟨z2, hz2⟩ : ∃ z, sizeL th = z := ⟨_, rfl⟩
        obtain ⟨z3, hz3⟩ : ∃ z, sizeL el = z := ⟨_, rfl⟩
        have hp2 : pre.drop (b + 1 + z2) = preL el ++ (preL (ks.drop (k + 1)) ++ tl) := by rw [← List.drop_drop, hp1, ← hz2, ← preL_len, List.drop_left]
        have hp3 : pre.drop (b + 1 + z2 + z3) = preL (ks.drop (k + 1)) ++ tl := by rw [← List.drop_drop, hp2, ← hz3, ← preL_len, List.drop_left]
        have hsz := HR.out
        rw [hdr, sizeL, sizeO, hz2, hz3] at hsz
        have HPa := Lib.hid hp1
        have HPb := Lib.hid hp2
        have HPc := Lib.hid hp3
        have HRa : Hid (b + 1 + sizeL th = b + 1 + z2) := Lib.hid (by rw [hz2])
        have HRb : Hid (b + 1 + z2 + sizeL el = b + 1 + z2 + z3) := Lib.hid (by rw [hz3])
        have HRc : Hid (b + 1 + z2 + z3 + sizeL (ks.drop (k + 1)) = r) := Lib.hid (by omega)
        have hbb : b + 1 + z2 + z3 ≤ 1000000 := by omega
        have hwb : IntKind.i64.wrap ((b : Int) + 1) = (b : Int) + 1 := IntWalk.i64_in _ (by omega)
        have HTH := Lib.hid hth
        have HTE := Lib.hid hel
        have HSAT : Hid (SAt w0 g (f + k * 10) (.mk d x1 v n (.mk o tn tk) th el bs)) := Lib.hid ⟨d, x1, v, n, o, tn, tk, th, el, bs, At, lt, ct, Ah, lh, ch, Ae, le, ce, Ab, lb, cb, rfl, HSC.out, HLT.out, HLH.out, HLE.out, HLB.out, htok, hth, hel, hbs⟩
        clear hkid hdr hcm hlt1 hlh hle hlb htok hth hel hbs hz2 hz3 hsz hpd hp1 hp2 hp3 HP HR hg c0 c1 c2 c3 c4 c5 c6 c7 c8 c9
        have a0 := H0.out.ha.at 0 _ rfl
        have af := H0.out.ha.free 0
        have i0 := H0.out.hi.at 0 _ rfl
        have f0 := H0.out.hf.at 0 _ rfl
        have ff := H0.out.hf.free 0
        have al := H0.out.ha.lt
        have fl := H0.out.hf.lt
        have n1 := H0.out.ne.1
        have n2 := H0.out.ne.2.1
        have n3 : ¬ pf = pa := fun e => n2 e.symm
        by_cases hbi : (b : Int) = i
        · have hbi' : ((b : Int) == i) = true := by rw [hbi]; simp
          have HA := Lib.hid (H0.out.hit hbi HG.out HPB.out HSAT.out)
          clear hbi
          go_upto_region 6 with fail
          obtain ⟨w5, hw5⟩ : ∃ w5, (wr.setCell ⟨pf, 0, none⟩ (.pointer (some ⟨g, f + k * 10, none⟩))).setCell ⟨pa, 0, none⟩ (.int .i64 ((b : Int) + 1)) = w5 := ⟨_, rfl⟩
          rw [hw5] at HA
          rw [hw5]
          clear hw5 H0 a0 af i0 f0 ff al fl n1 n2 n3 HSAT HPB
          go_upto_region 6 with fail
          have KPa : Hid (∀ W, Below w0.heap.size w0 W → Cs W pw [.func (Fn.func 65) #[] #[.pointer (some ⟨pa, 0, none⟩), .pointer (some ⟨pi, 0, none⟩), .pointer (some ⟨pf, 0, none⟩), .pointer (some ⟨pw, 0, none⟩)]] → (W.cell? ⟨pw, 0, none⟩ = some (.func (Fn.func 65) #[] #[.pointer (some ⟨pa, 0, none⟩), .pointer (some ⟨pi, 0, none⟩), .pointer (some ⟨pf, 0, none⟩), .pointer (some ⟨pw, 0, none⟩)]) ∧ W.cell? ⟨g, f + k * 10 + 7, none⟩ = some (.slice Ah lh ch))) := fun W h h2 => ⟨h2.at 0 _ rfl, (h.cell (p := ⟨g, _, none⟩) HG.out).trans HSC.out.c7⟩
          go_region_held3 (fun W => W.cell? ⟨pw, 0, none⟩ = some (.func (Fn.func 65) #[] #[.pointer (some ⟨pa, 0, none⟩), .pointer (some ⟨pi, 0, none⟩), .pointer (some ⟨pf, 0, none⟩), .pointer (some ⟨pw, 0, none⟩)]) ∧ W.cell? ⟨g, f + k * 10 + 7, none⟩ = some (.slice Ah lh ch)) (first | with_reducible exact KPa.out _ Ha.out.below0 Ha.out.hw | exact KPa.out _ HA.out.drew.below0 HA.out.drew.hw) (first
            | (go_at_call 65; refine (IH.out th lh Ah ch (b + 1) (b + 1 + z2) _ _ _ HLH.out HSM.out.1 HTH.out HPa.out HRa.out (by omega) HA.out.drew).mono ?_; rintro e w6 ⟨rfl, v6, hat⟩; have Ha := Lib.hid hat; clear hat))
          clear HA KPa
          go_upto_region 7 with fail
          have KPb : Hid (∀ W, Below w0.heap.size w0 W → Cs W pw [.func (Fn.func 65) #[] #[.pointer (some ⟨pa, 0, none⟩), .pointer (some ⟨pi, 0, none⟩), .pointer (some ⟨pf, 0, none⟩), .pointer (some ⟨pw, 0, none⟩)]] → (W.cell? ⟨pw, 0, none⟩ = some (.func (Fn.func 65) #[] #[.pointer (some ⟨pa, 0, none⟩), .pointer (some ⟨pi, 0, none⟩), .pointer (some ⟨pf, 0, none⟩), .pointer (some ⟨pw, 0, none⟩)]) ∧ W.cell? ⟨g, f + k * 10 + 8, none⟩ = some (.slice Ae le ce))) := fun W h h2 => ⟨h2.at 0 _ rfl, (h.cell (p := ⟨g, _, none⟩) HG.out).trans HSC.out.c8⟩
          go_region_held3 (fun W => W.cell? ⟨pw, 0, none⟩ = some (.func (Fn.func 65) #[] #[.pointer (some ⟨pa, 0, none⟩), .pointer (some ⟨pi, 0, none⟩), .pointer (some ⟨pf, 0, none⟩), .pointer (some ⟨pw, 0, none⟩)]) ∧ W.cell? ⟨g, f + k * 10 + 8, none⟩ = some (.slice Ae le ce)) (first | with_reducible exact KPb.out _ Hb.out.below0 Hb.out.hw | exact KPb.out _ Ha.out.drew.below0 Ha.out.drew.hw) (first
            | (go_at_call 65; refine (IH.out el le Ae ce (b + 1 + z2) (b + 1 + z2 + z3) _ _ _ HLE.out HSM.out.2 HTE.out HPb.out HRb.out (by omega) Ha.out.drew).mono ?_; rintro e w7 ⟨rfl, v7, hat⟩; have Hb := Lib.hid hat; clear hat))
          clear Ha KPb
          go_wp2_with fail
          go_roundw
          case rel => exact ⟨k + 1, b + 1 + z2 + z3, v7, by omega, by go_num, HPc, HRc, Hb⟩
          case measure => simp [intOf]; omega
        · have hbi' := beq_of hbi
          have HA := Lib.hid (H0.out.miss hbi)
          go_upto_region 6 with fail
          obtain ⟨w5, hw5⟩ : ∃ w5, wr.setCell ⟨pa, 0, none⟩ (.int .i64 ((b : Int) + 1)) = w5 := ⟨_, rfl⟩
          rw [hw5] at HA
          rw [hw5]
          clear hw5 H0 a0 af i0 f0 ff al fl n1 n2 n3 HSAT HPB
          go_upto_region 6 with fail
          have KPa : Hid (∀ W, Below w0.heap.size w0 W → Cs W pw [.func (Fn.func 65) #[] #[.pointer (some ⟨pa, 0, none⟩), .pointer (some ⟨pi, 0, none⟩), .pointer (some ⟨pf, 0, none⟩), .pointer (some ⟨pw, 0, none⟩)]] → (W.cell? ⟨pw, 0, none⟩ = some (.func (Fn.func 65) #[] #[.pointer (some ⟨pa, 0, none⟩), .pointer (some ⟨pi, 0, none⟩), .pointer (some ⟨pf, 0, none⟩), .pointer (some ⟨pw, 0, none⟩)]) ∧ W.cell? ⟨g, f + k * 10 + 7, none⟩ = some (.slice Ah lh ch))) := fun W h h2 => ⟨h2.at 0 _ rfl, (h.cell (p := ⟨g, _, none⟩) HG.out).trans HSC.out.c7⟩
          go_region_held3 (fun W => W.cell? ⟨pw, 0, none⟩ = some (.func (Fn.func 65) #[] #[.pointer (some ⟨pa, 0, none⟩), .pointer (some ⟨pi, 0, none⟩), .pointer (some ⟨pf, 0, none⟩), .pointer (some ⟨pw, 0, none⟩)]) ∧ W.cell? ⟨g, f + k * 10 + 7, none⟩ = some (.slice Ah lh ch)) (first | with_reducible exact KPa.out _ Ha.out.below0 Ha.out.hw | exact KPa.out _ HA.out.drew.below0 HA.out.drew.hw) (first
            | (go_at_call 65; refine (IH.out th lh Ah ch (b + 1) (b + 1 + z2) _ _ _ HLH.out HSM.out.1 HTH.out HPa.out HRa.out (by omega) HA.out.drew).mono ?_; rintro e w6 ⟨rfl, v6, hat⟩; have Ha := Lib.hid hat; clear hat))
          clear HA KPa
          go_upto_region 7 with fail
          have KPb : Hid (∀ W, Below w0.heap.size w0 W → Cs W pw [.func (Fn.func 65) #[] #[.pointer (some ⟨pa, 0, none⟩), .pointer (some ⟨pi, 0, none⟩), .pointer (some ⟨pf, 0, none⟩), .pointer (some ⟨pw, 0, none⟩)]] → (W.cell? ⟨pw, 0, none⟩ = some (.func (Fn.func 65) #[] #[.pointer (some ⟨pa, 0, none⟩), .pointer (some ⟨pi, 0, none⟩), .pointer (some ⟨pf, 0, none⟩), .pointer (some ⟨pw, 0, none⟩)]) ∧ W.cell? ⟨g, f + k * 10 + 8, none⟩ = some (.slice Ae le ce))) := fun W h h2 => ⟨h2.at 0 _ rfl, (h.cell (p := ⟨g, _, none⟩) HG.out).trans HSC.out.c8⟩
          go_region_held3 (fun W => W.cell? ⟨pw, 0, none⟩ = some (.func (Fn.func 65) #[] #[.pointer (some ⟨pa, 0, none⟩), .pointer (some ⟨pi, 0, none⟩), .pointer (some ⟨pf, 0, none⟩), .pointer (some ⟨pw, 0, none⟩)]) ∧ W.cell? ⟨g, f + k * 10 + 8, none⟩ = some (.slice Ae le ce)) (first | with_reducible exact KPb.out _ Hb.out.below0 Hb.out.hw | exact KPb.out _ Ha.out.drew.below0 Ha.out.drew.hw) (first
            | (go_at_call 65; refine (IH.out el le Ae ce (b + 1 + z2) (b + 1 + z2 + z3) _ _ _ HLE.out HSM.out.2 HTE.out HPb.out HRb.out (by omega) Ha.out.drew).mono ?_; rintro e w7 ⟨rfl, v7, hat⟩; have Hb := Lib.hid hat; clear hat))
          clear Ha KPb
          go_wp2_with fail
          go_roundw
          case rel => exact ⟨k + 1, b + 1 + z2 + z3, v7, by omega, by go_num, HPc, HRc, Hb⟩
          case measure => simp [intOf]; omega
      · obtain rfl : k = l := by omega
        have hr := HR.out
        rw [List.drop_of_length_le (by rw [HL.out]; exact Nat.le_refl _), sizeL, Nat.add_zero] at hr
        subst hr
        clear HR HP
        go_wp2_with fail
        go_returns
        exact ⟨rfl, vb, H0.out⟩

theorem Cs.newAt {W : World} (cs : Array Value) (T : TypeId) {b : Nat} (h : W.heap.size = b) : Cs (W.alloc (.cells cs T)) b cs.toList := h ▸ Cs.new W cs T
theorem at_start (ks : List Sp) (i : Int) (Av : Option Addr) (lv cv : Nat) (Ag : Option Addr) (lg cg : Nat) (Ay : Option Addr) (ly cy : Nat) (w : World) :
    Atw w (preL ks) i (w.heap.size + 1 + 1 + 1 + 1 + 1) (w.heap.size + 1) (w.heap.size + 1 + 1 + 1) (w.heap.size + 1 + 1 + 1 + 1) (w.heap.size + 1 + 1) [.int .i64 0, .int .i64 0, .int .i64 0, .int .i64 0, .int .i64 0, .int .i64 0, .slice none 0 0, .slice none 0 0, .slice none 0 0, .slice none 0 0] 0 (.pointer none) ((((((w.alloc (.cells #[.slice Av lv cv, .slice Ag lg cg, .slice Ay ly cy] 26)).alloc (.cells #[.int .i64 i] 3)).alloc (.cells #[.int .i64 0, .int .i64 0, .int .i64 0, .int .i64 0, .int .i64 0, .int .i64 0, .slice none 0 0, .slice none 0 0, .slice none 0 0, .slice none 0 0] 53)).alloc (.cells #[.pointer none] 105)).alloc (.cells #[.func (Fn.func 65) #[] #[.pointer (some ⟨w.heap.size + 1 + 1 + 1 + 1 + 1, 0, none⟩), .pointer (some ⟨w.heap.size + 1, 0, none⟩), .pointer (some ⟨w.heap.size + 1 + 1 + 1, 0, none⟩), .pointer (some ⟨w.heap.size + 1 + 1 + 1 + 1, 0, none⟩)]] 95)).alloc (.cells #[.int .i64 0] 3)) :=
  ⟨(((((((Below.refl w.heap.size w).alloc (by simp; try omega) (.cells #[.slice Av lv cv, .slice Ag lg cg, .slice Ay ly cy] 26)).alloc (by simp; try omega) (.cells #[.int .i64 i] 3)).alloc (by simp; try omega) (.cells #[.int .i64 0, .int .i64 0, .int .i64 0, .int .i64 0, .int .i64 0, .int .i64 0, .slice none 0 0, .slice none 0 0, .slice none 0 0, .slice none 0 0] 53)).alloc (by simp; try omega) (.cells #[.pointer none] 105)).alloc (by simp; try omega) (.cells #[.func (Fn.func 65) #[] #[.pointer (some ⟨w.heap.size + 1 + 1 + 1 + 1 + 1, 0, none⟩), .pointer (some ⟨w.heap.size + 1, 0, none⟩), .pointer (some ⟨w.heap.size + 1 + 1 + 1, 0, none⟩), .pointer (some ⟨w.heap.size + 1 + 1 + 1 + 1, 0, none⟩)]] 95)).alloc (by simp; try omega) (.cells #[.int .i64 0] 3)), ⟨by omega, by omega⟩, ⟨by omega, by omega, by omega, by omega, by omega, by omega, by omega⟩, (Cs.newAt (W := (((((w.alloc (.cells #[.slice Av lv cv, .slice Ag lg cg, .slice Ay ly cy] 26)).alloc (.cells #[.int .i64 i] 3)).alloc (.cells #[.int .i64 0, .int .i64 0, .int .i64 0, .int .i64 0, .int .i64 0, .int .i64 0, .slice none 0 0, .slice none 0 0, .slice none 0 0, .slice none 0 0] 53)).alloc (.cells #[.pointer none] 105)).alloc (.cells #[.func (Fn.func 65) #[] #[.pointer (some ⟨w.heap.size + 1 + 1 + 1 + 1 + 1, 0, none⟩), .pointer (some ⟨w.heap.size + 1, 0, none⟩), .pointer (some ⟨w.heap.size + 1 + 1 + 1, 0, none⟩), .pointer (some ⟨w.heap.size + 1 + 1 + 1 + 1, 0, none⟩)]] 95))) #[.int .i64 0] 3 (by simp)), (((((Cs.newAt (W := (w.alloc (.cells #[.slice Av lv cv, .slice Ag lg cg, .slice Ay ly cy] 26))) #[.int .i64 i] 3 (by simp)).alloc (.cells #[.int .i64 0, .int .i64 0, .int .i64 0, .int .i64 0, .int .i64 0, .int .i64 0, .slice none 0 0, .slice none 0 0, .slice none 0 0, .slice none 0 0] 53)).alloc (.cells #[.pointer none] 105)).alloc (.cells #[.func (Fn.func 65) #[] #[.pointer (some ⟨w.heap.size + 1 + 1 + 1 + 1 + 1, 0, none⟩), .pointer (some ⟨w.heap.size + 1, 0, none⟩), .pointer (some ⟨w.heap.size + 1 + 1 + 1, 0, none⟩), .pointer (some ⟨w.heap.size + 1 + 1 + 1 + 1, 0, none⟩)]] 95)).alloc (.cells #[.int .i64 0] 3)), (((Cs.newAt (W := (((w.alloc (.cells #[.slice Av lv cv, .slice Ag lg cg, .slice Ay ly cy] 26)).alloc (.cells #[.int .i64 i] 3)).alloc (.cells #[.int .i64 0, .int .i64 0, .int .i64 0, .int .i64 0, .int .i64 0, .int .i64 0, .slice none 0 0, .slice none 0 0, .slice none 0 0, .slice none 0 0] 53))) #[.pointer none] 105 (by simp)).alloc (.cells #[.func (Fn.func 65) #[] #[.pointer (some ⟨w.heap.size + 1 + 1 + 1 + 1 + 1, 0, none⟩), .pointer (some ⟨w.heap.size + 1, 0, none⟩), .pointer (some ⟨w.heap.size + 1 + 1 + 1, 0, none⟩), .pointer (some ⟨w.heap.size + 1 + 1 + 1 + 1, 0, none⟩)]] 95)).alloc (.cells #[.int .i64 0] 3)), ((Cs.newAt (W := ((((w.alloc (.cells #[.slice Av lv cv, .slice Ag lg cg, .slice Ay ly cy] 26)).alloc (.cells #[.int .i64 i] 3)).alloc (.cells #[.int .i64 0, .int .i64 0, .int .i64 0, .int .i64 0, .int .i64 0, .int .i64 0, .slice none 0 0, .slice none 0 0, .slice none 0 0, .slice none 0 0] 53)).alloc (.cells #[.pointer none] 105))) #[.func (Fn.func 65) #[] #[.pointer (some ⟨w.heap.size + 1 + 1 + 1 + 1 + 1, 0, none⟩), .pointer (some ⟨w.heap.size + 1, 0, none⟩), .pointer (some ⟨w.heap.size + 1 + 1 + 1, 0, none⟩), .pointer (some ⟨w.heap.size + 1 + 1 + 1 + 1, 0, none⟩)]] 95 (by simp)).alloc (.cells #[.int .i64 0] 3)), ((((Cs.newAt (W := ((w.alloc (.cells #[.slice Av lv cv, .slice Ag lg cg, .slice Ay ly cy] 26)).alloc (.cells #[.int .i64 i] 3))) #[.int .i64 0, .int .i64 0, .int .i64 0, .int .i64 0, .int .i64 0, .int .i64 0, .slice none 0 0, .slice none 0 0, .slice none 0 0, .slice none 0 0] 53 (by simp)).alloc (.cells #[.pointer none] 105)).alloc (.cells #[.func (Fn.func 65) #[] #[.pointer (some ⟨w.heap.size + 1 + 1 + 1 + 1 + 1, 0, none⟩), .pointer (some ⟨w.heap.size + 1, 0, none⟩), .pointer (some ⟨w.heap.size + 1 + 1 + 1, 0, none⟩), .pointer (some ⟨w.heap.size + 1 + 1 + 1 + 1, 0, none⟩)]] 95)).alloc (.cells #[.int .i64 0] 3)), FdOK.zero _ _ _⟩
theorem pre_in {x : Nat} : ∀ (ks : List Sp) (s : Sp), s ∈ preL ks → (bdL x ks → bdO x s) ∧ Sp.cnt s ≤ Sp.cntL ks := by
  have main : ∀ (m : Nat) (ks : List Sp) (s : Sp), Sp.cntL ks ≤ m → s ∈ preL ks → (bdL x ks → bdO x s) ∧ Sp.cnt s ≤ Sp.cntL ks := by
    intro m
    induction m with
    | zero =>
      intro ks s hm hs
      cases ks with
      | nil => rw [preL] at hs; cases hs
      | cons k ks => have := Sp.cnt_pos k; simp only [Sp.cntL] at hm; omega
    | succ m ih =>
      intro ks
      induction ks with
      | nil => intro s _ hs; rw [preL] at hs; cases hs
      | cons k ks ihk =>
        intro s hm hs
        simp only [Sp.cntL] at hm ⊢
        rw [preL] at hs
        rcases List.mem_append.1 hs with hs | hs
        · obtain ⟨d, c, v, n, t, th, el, bs⟩ := k
          rw [preS] at hs
          have ht := Tm.cnt_pos t
          simp only [Sp.cnt] at hm ⊢
          rcases List.mem_cons.1 hs with rfl | hs
          · exact ⟨fun h => by rw [bdL] at h; exact h.1, by simp only [Sp.cnt]; omega⟩
          · rcases List.mem_append.1 hs with hs | hs
            · obtain ⟨h1, h2⟩ := ih th s (by omega) hs
              exact ⟨fun h => by rw [bdL, bdO] at h; exact h1 h.1.2.1, by omega⟩
            · obtain ⟨h1, h2⟩ := ih el s (by omega) hs
              exact ⟨fun h => by rw [bdL, bdO] at h; exact h1 h.1.2.2, by omega⟩
        · obtain ⟨h1, h2⟩ := ihk s (by have := Sp.cnt_pos k; omega) hs
          exact ⟨fun h => by rw [bdL] at h; exact h1 h.2, by omega⟩
  exact fun ks s hs => main _ ks s (Nat.le_refl _) hs
set_option maxRecDepth 100000 in
set_option maxHeartbeats 8000000 in
theorem At_none (ks : List Sp) (i : Int) (Av : Option Addr) (lv cv : Nat) (Ag : Option Addr) (lg cg : Nat) (Ay : Option Addr) (ly cy : Nat) (w : World) (hl : ks.length = ly) (hm : Sp.cntL ks ≤ 1000000) (hk : SOk w Ay cy ks) (hi : i < 0 ∨ (sizeL ks : Nat) ≤ i) :
    Calls Try.prog 28 #[.agg #[.slice Av lv cv, .slice Ag lg cg, .slice Ay ly cy], .int .i64 i] w fun e w' => e = .returned (.tuple #[.agg #[.int .i64 0, .int .i64 0, .int .i64 0, .int .i64 0, .int .i64 0, .int .i64 0, .slice none 0 0, .slice none 0 0, .slice none 0 0, .slice none 0 0], .int .i64 3]) ∧ Below w.heap.size w w' := by
  obtain ⟨r, hr⟩ : ∃ z, sizeL ks = z := ⟨_, rfl⟩
  have hrm : r ≤ 1000000 := by rw [← hr]; exact Nat.le_trans (sizeL_cnt ks) hm
  have HR : Hid (0 + sizeL ks = r) := Lib.hid (by rw [hr, Nat.zero_add])
  have HP : Hid ((preL ks).drop 0 = preL ks ++ []) := Lib.hid (by rw [List.drop_zero, List.append_nil])
  have HL := Lib.hid hl
  have HK := Lib.hid hk
  have HA := Lib.hid (at_start ks i Av lv cv Ag lg cg Ay ly cy w)
  have HF : Hid (Cs ((((((w.alloc (.cells #[.slice Av lv cv, .slice Ag lg cg, .slice Ay ly cy] 26)).alloc (.cells #[.int .i64 i] 3)).alloc (.cells #[.int .i64 0, .int .i64 0, .int .i64 0, .int .i64 0, .int .i64 0, .int .i64 0, .slice none 0 0, .slice none 0 0, .slice none 0 0, .slice none 0 0] 53)).alloc (.cells #[.pointer none] 105)).alloc (.cells #[.func (Fn.func 65) #[] #[.pointer (some ⟨w.heap.size + 1 + 1 + 1 + 1 + 1, 0, none⟩), .pointer (some ⟨w.heap.size + 1, 0, none⟩), .pointer (some ⟨w.heap.size + 1 + 1 + 1, 0, none⟩), .pointer (some ⟨w.heap.size + 1 + 1 + 1 + 1, 0, none⟩)]] 95)).alloc (.cells #[.int .i64 0] 3)) w.heap.size [.slice Av lv cv, .slice Ag lg cg, .slice Ay ly cy]) := Lib.hid ((((((Cs.newAt (W := w) #[.slice Av lv cv, .slice Ag lg cg, .slice Ay ly cy] 26 (by simp)).alloc (.cells #[.int .i64 i] 3)).alloc (.cells #[.int .i64 0, .int .i64 0, .int .i64 0, .int .i64 0, .int .i64 0, .int .i64 0, .slice none 0 0, .slice none 0 0, .slice none 0 0, .slice none 0 0] 53)).alloc (.cells #[.pointer none] 105)).alloc (.cells #[.func (Fn.func 65) #[] #[.pointer (some ⟨w.heap.size + 1 + 1 + 1 + 1 + 1, 0, none⟩), .pointer (some ⟨w.heap.size + 1, 0, none⟩), .pointer (some ⟨w.heap.size + 1 + 1 + 1, 0, none⟩), .pointer (some ⟨w.heap.size + 1 + 1 + 1 + 1, 0, none⟩)]] 95)).alloc (.cells #[.int .i64 0] 3))
  rw [hr] at hi
  clear hl hm hk hr
  go_enter Try.func28, Try.ntmps28
  go_upto_region 5 with fail
  obtain ⟨w5, hw5⟩ : ∃ w5, ((((((w.alloc (.cells #[.slice Av lv cv, .slice Ag lg cg, .slice Ay ly cy] 26)).alloc (.cells #[.int .i64 i] 3)).alloc (.cells #[.int .i64 0, .int .i64 0, .int .i64 0, .int .i64 0, .int .i64 0, .int .i64 0, .slice none 0 0, .slice none 0 0, .slice none 0 0, .slice none 0 0] 53)).alloc (.cells #[.pointer none] 105)).alloc (.cells #[.func (Fn.func 65) #[] #[.pointer (some ⟨w.heap.size + 1 + 1 + 1 + 1 + 1, 0, none⟩), .pointer (some ⟨w.heap.size + 1, 0, none⟩), .pointer (some ⟨w.heap.size + 1 + 1 + 1, 0, none⟩), .pointer (some ⟨w.heap.size + 1 + 1 + 1 + 1, 0, none⟩)]] 95)).alloc (.cells #[.int .i64 0] 3)) = w5 := ⟨_, rfl⟩
  rw [hw5] at HA HF
  rw [hw5]
  clear hw5
  have f2 := HF.out.at 2 _ rfl
  have k0 := HA.out.hw.at 0 _ rfl
  go_wp2_with fail
  go_at_call 65
  refine (at1_any (preL ks) i w (w.heap.size + 1 + 1 + 1 + 1 + 1) (w.heap.size + 1) (w.heap.size + 1 + 1 + 1) (w.heap.size + 1 + 1 + 1 + 1) (w.heap.size + 1 + 1) _ (Sp.cntL ks) ks ly Ay cy 0 r [] _ _ HL.out (Nat.le_refl _) HK.out HP HR hrm HA.out).mono ?_
  rintro e w6 ⟨rfl, v6, hat⟩
  have HA6 := Lib.hid hat
  clear hat HA HF f2 k0 HP
  have hv : v6 = .pointer none := HA6.out.fd.1 (fun h => by omega)
  subst hv
  have p0 := HA6.out.hf.at 0 _ rfl
  have r0 := HA6.out.hk.at 0 _ rfl
  have rf0 := HA6.out.hk.free 0
  have r1 := HA6.out.hk.at 1 _ rfl
  have rf1 := HA6.out.hk.free 1
  have r2 := HA6.out.hk.at 2 _ rfl
  have rf2 := HA6.out.hk.free 2
  have r3 := HA6.out.hk.at 3 _ rfl
  have rf3 := HA6.out.hk.free 3
  have r4 := HA6.out.hk.at 4 _ rfl
  have rf4 := HA6.out.hk.free 4
  have r5 := HA6.out.hk.at 5 _ rfl
  have rf5 := HA6.out.hk.free 5
  have r6 := HA6.out.hk.at 6 _ rfl
  have rf6 := HA6.out.hk.free 6
  have r7 := HA6.out.hk.at 7 _ rfl
  have rf7 := HA6.out.hk.free 7
  have r8 := HA6.out.hk.at 8 _ rfl
  have rf8 := HA6.out.hk.free 8
  have r9 := HA6.out.hk.at 9 _ rfl
  have rf9 := HA6.out.hk.free 9
  have hrl := HA6.out.hk.lt
  clear hi
  go_wp2_with fail
  have HF9 := HA6.out.hk.st10 (.int .i64 0) (.int .i64 0) (.int .i64 0) (.int .i64 0) (.int .i64 0) (.int .i64 0) (.slice none 0 0) (.slice none 0 0) (.slice none 0 0) (.slice none 0 0)
  have z0 := HF9.at 0 _ rfl; have z1 := HF9.at 1 _ rfl; have z2 := HF9.at 2 _ rfl; have z3 := HF9.at 3 _ rfl; have z4 := HF9.at 4 _ rfl; have z5 := HF9.at 5 _ rfl; have z6 := HF9.at 6 _ rfl; have z7 := HF9.at 7 _ rfl; have z8 := HF9.at 8 _ rfl; have z9 := HF9.at 9 _ rfl
  refine bodyPost_ret (v := .tuple #[.agg #[.int .i64 0, .int .i64 0, .int .i64 0, .int .i64 0, .int .i64 0, .int .i64 0, .slice none 0 0, .slice none 0 0, .slice none 0 0, .slice none 0 0], .int .i64 3]) (by simp [results, Try.results28, go_sem, z0, z1, z2, z3, z4, z5, z6, z7, z8, z9]) rfl ?_
  exact ⟨rfl, below_st10 HA6.out.below0 (by omega) _ _ _ _ _ _ _ _ _ _⟩

set_option maxRecDepth 100000 in
set_option maxHeartbeats 8000000 in
theorem At_some (ks : List Sp) (i : Int) (Av : Option Addr) (lv cv : Nat) (Ag : Option Addr) (lg cg : Nat) (Ay : Option Addr) (ly cy : Nat) (w : World) (hl : ks.length = ly) (hm : Sp.cntL ks ≤ 1000000) (hk : SOk w Ay cy ks) (hbd : bdL 1000 ks) (j : Nat) (s : Sp) (hs : (preL ks)[j]? = some s) (hi : i = (j : Int)) :
    Calls Try.prog 28 #[.agg #[.slice Av lv cv, .slice Ag lg cg, .slice Ay ly cy], .int .i64 i] w fun e w' => ∃ vv, e = .returned (.tuple #[vv, .int .i64 0]) ∧ SValN (fun b => w.heap.size ≤ b) w' s vv ∧ Below w.heap.size w w' := by
  obtain ⟨r, hr⟩ : ∃ z, sizeL ks = z := ⟨_, rfl⟩
  have hrm : r ≤ 1000000 := by rw [← hr]; exact Nat.le_trans (sizeL_cnt ks) hm
  have HR : Hid (0 + sizeL ks = r) := Lib.hid (by rw [hr, Nat.zero_add])
  have HP : Hid ((preL ks).drop 0 = preL ks ++ []) := Lib.hid (by rw [List.drop_zero, List.append_nil])
  have HL := Lib.hid hl
  have HK := Lib.hid hk
  have HA := Lib.hid (at_start ks i Av lv cv Ag lg cg Ay ly cy w)
  have HF : Hid (Cs ((((((w.alloc (.cells #[.slice Av lv cv, .slice Ag lg cg, .slice Ay ly cy] 26)).alloc (.cells #[.int .i64 i] 3)).alloc (.cells #[.int .i64 0, .int .i64 0, .int .i64 0, .int .i64 0, .int .i64 0, .int .i64 0, .slice none 0 0, .slice none 0 0, .slice none 0 0, .slice none 0 0] 53)).alloc (.cells #[.pointer none] 105)).alloc (.cells #[.func (Fn.func 65) #[] #[.pointer (some ⟨w.heap.size + 1 + 1 + 1 + 1 + 1, 0, none⟩), .pointer (some ⟨w.heap.size + 1, 0, none⟩), .pointer (some ⟨w.heap.size + 1 + 1 + 1, 0, none⟩), .pointer (some ⟨w.heap.size + 1 + 1 + 1 + 1, 0, none⟩)]] 95)).alloc (.cells #[.int .i64 0] 3)) w.heap.size [.slice Av lv cv, .slice Ag lg cg, .slice Ay ly cy]) := Lib.hid ((((((Cs.newAt (W := w) #[.slice Av lv cv, .slice Ag lg cg, .slice Ay ly cy] 26 (by simp)).alloc (.cells #[.int .i64 i] 3)).alloc (.cells #[.int .i64 0, .int .i64 0, .int .i64 0, .int .i64 0, .int .i64 0, .int .i64 0, .slice none 0 0, .slice none 0 0, .slice none 0 0, .slice none 0 0] 53)).alloc (.cells #[.pointer none] 105)).alloc (.cells #[.func (Fn.func 65) #[] #[.pointer (some ⟨w.heap.size + 1 + 1 + 1 + 1 + 1, 0, none⟩), .pointer (some ⟨w.heap.size + 1, 0, none⟩), .pointer (some ⟨w.heap.size + 1 + 1 + 1, 0, none⟩), .pointer (some ⟨w.heap.size + 1 + 1 + 1 + 1, 0, none⟩)]] 95)).alloc (.cells #[.int .i64 0] 3))
  have hjr : (j : Int) < (r : Int) := by have h1 := (List.getElem?_eq_some_iff.1 hs).1; rw [preL_len, hr] at h1; omega
  have hin := pre_in (x := 1000) ks s (List.mem_of_getElem? hs)
  have HIN : Hid (bdO 1000 s ∧ Sp.cnt s ≤ 1000000) := Lib.hid ⟨hin.1 hbd, Nat.le_trans hin.2 hm⟩
  have HS := Lib.hid hs
  have HI := Lib.hid hi
  clear hin hbd hs hi
  clear hl hm hk hr
  go_enter Try.func28, Try.ntmps28
  go_upto_region 5 with fail
  obtain ⟨w5, hw5⟩ : ∃ w5, ((((((w.alloc (.cells #[.slice Av lv cv, .slice Ag lg cg, .slice Ay ly cy] 26)).alloc (.cells #[.int .i64 i] 3)).alloc (.cells #[.int .i64 0, .int .i64 0, .int .i64 0, .int .i64 0, .int .i64 0, .int .i64 0, .slice none 0 0, .slice none 0 0, .slice none 0 0, .slice none 0 0] 53)).alloc (.cells #[.pointer none] 105)).alloc (.cells #[.func (Fn.func 65) #[] #[.pointer (some ⟨w.heap.size + 1 + 1 + 1 + 1 + 1, 0, none⟩), .pointer (some ⟨w.heap.size + 1, 0, none⟩), .pointer (some ⟨w.heap.size + 1 + 1 + 1, 0, none⟩), .pointer (some ⟨w.heap.size + 1 + 1 + 1 + 1, 0, none⟩)]] 95)).alloc (.cells #[.int .i64 0] 3)) = w5 := ⟨_, rfl⟩
  rw [hw5] at HA HF
  rw [hw5]
  clear hw5
  have f2 := HF.out.at 2 _ rfl
  have k0 := HA.out.hw.at 0 _ rfl
  go_wp2_with fail
  go_at_call 65
  refine (at1_any (preL ks) i w (w.heap.size + 1 + 1 + 1 + 1 + 1) (w.heap.size + 1) (w.heap.size + 1 + 1 + 1) (w.heap.size + 1 + 1 + 1 + 1) (w.heap.size + 1 + 1) _ (Sp.cntL ks) ks ly Ay cy 0 r [] _ _ HL.out (Nat.le_refl _) HK.out HP HR hrm HA.out).mono ?_
  rintro e w6 ⟨rfl, v6, hat⟩
  have HA6 := Lib.hid hat
  clear hat HA HF f2 k0 HP
  obtain ⟨g, f, s2, hv, hg, hs2, hsa⟩ := HA6.out.fd.2 (by rw [HI.out]; omega)
  have hse : s2 = s := by rw [HI.out, Int.toNat_natCast, HS.out] at hs2; exact (Option.some.inj hs2).symm
  subst hse hv
  obtain ⟨d, x1, v, n, o, tn, tk, th, el, bs, At, lt, ct, Ah, lh, ch, Ae, le, ce, Ab, lb, cb, rfl, hsc, hlt, hlh, hle, hlb, htk, hth, hel, hbs⟩ := hsa
  have p0 := HA6.out.hf.at 0 _ rfl
  have HC : Hid (Tm.cnt (.mk o tn tk) ≤ 1000000 ∧ Sp.cntL th ≤ 1000000 ∧ Sp.cntL el ≤ 1000000 ∧ bdL 1000 th ∧ bdL 1000 el ∧ lb ≤ 1000) := Lib.hid (by
    obtain ⟨h1, h2⟩ := HIN.out
    rw [bdO, hlb] at h1
    simp only [Sp.cnt] at h2
    exact ⟨by omega, by omega, by omega, h1.2.1, h1.2.2, h1.1⟩)
  have HLT := Lib.hid hlt
  have HLH := Lib.hid hlh
  have HLE := Lib.hid hle
  have HLB := Lib.hid hlb
  have HTK := Lib.hid (htk.below HA6.out.below0)
  have HTH := Lib.hid (hth.below HA6.out.below0)
  have HTE := Lib.hid (hel.below HA6.out.below0)
  have HTB := Lib.hid (hbs.below HA6.out.below0)
  obtain ⟨k0, k1, k2, k3, k4, k5, k6, k7, k8, k9⟩ := hsc.below hg HA6.out.below0
  clear hlt hlh hle hlb htk hth hel hbs hsc hs2 HS HIN
  go_wp2_with fail
  go_at_call 66
  refine (copyStep_b d x1 v n o tn tk th el bs At lt ct Ah lh ch Ae le ce Ab lb cb _ HLT.out HLH.out HLE.out HLB.out HC.out HTK.out HTH.out HTE.out HTB.out).mono ?_
  rintro e w7 ⟨A5, c5, A6, c6, A7, c7, A8, c8, rfl, hsv, hb7⟩
  have HR7 := Lib.hid (HA6.out.hk.next hb7)
  have HB7 := Lib.hid (HA6.out.below0.trans (hb7.mono HA6.out.below0.size))
  have HWS : Hid (w.heap.size + 1 + 1 < w6.heap.size) := Lib.hid HA6.out.hk.lt
  have HSV := Lib.hid hsv
  clear hsv hb7 k0 k1 k2 k3 k4 k5 k6 k7 k8 k9 p0 HA6 HTK HTH HTE HTB
  have r0 := HR7.out.at 0 _ rfl
  have rf0 := HR7.out.free 0
  have r1 := HR7.out.at 1 _ rfl
  have rf1 := HR7.out.free 1
  have r2 := HR7.out.at 2 _ rfl
  have rf2 := HR7.out.free 2
  have r3 := HR7.out.at 3 _ rfl
  have rf3 := HR7.out.free 3
  have r4 := HR7.out.at 4 _ rfl
  have rf4 := HR7.out.free 4
  have r5 := HR7.out.at 5 _ rfl
  have rf5 := HR7.out.free 5
  have r6 := HR7.out.at 6 _ rfl
  have rf6 := HR7.out.free 6
  have r7 := HR7.out.at 7 _ rfl
  have rf7 := HR7.out.free 7
  have r8 := HR7.out.at 8 _ rfl
  have rf8 := HR7.out.free 8
  have r9 := HR7.out.at 9 _ rfl
  have rf9 := HR7.out.free 9
  have hrl := HR7.out.lt
  go_wp2_with fail
  have HF9 := HR7.out.st10 (.int .i64 d) (.int .i64 x1) (.int .i64 v) (.int .i64 n) (.int .i64 o) (.int .i64 tn) (.slice A5 lt c5) (.slice A6 lh c6) (.slice A7 le c7) (.slice A8 lb c8)
  have z0 := HF9.at 0 _ rfl; have z1 := HF9.at 1 _ rfl; have z2 := HF9.at 2 _ rfl; have z3 := HF9.at 3 _ rfl; have z4 := HF9.at 4 _ rfl; have z5 := HF9.at 5 _ rfl; have z6 := HF9.at 6 _ rfl; have z7 := HF9.at 7 _ rfl; have z8 := HF9.at 8 _ rfl; have z9 := HF9.at 9 _ rfl
  refine bodyPost_ret (v := .tuple #[.agg #[.int .i64 d, .int .i64 x1, .int .i64 v, .int .i64 n, .int .i64 o, .int .i64 tn, .slice A5 lt c5, .slice A6 lh c6, .slice A7 le c7, .slice A8 lb c8], .int .i64 0]) (by simp [results, Try.results28, go_sem, z0, z1, z2, z3, z4, z5, z6, z7, z8, z9]) rfl ?_
  exact ⟨_, rfl, HSV.out.to (keeps_st10 (fun b hb => by have := HWS.out; omega) (fun b hb => by have := HWS.out; omega) _ _ _ _ _ _ _ _ _ _), below_st10 HB7.out (by omega) _ _ _ _ _ _ _ _ _ _⟩

/-- Variables whose block is in S. -/
def VOkN (S : Nat → Prop) (w : World) (A : Option Addr) (l c : Nat) (vs : List Vr) : Prop := VOk w A l c vs ∧ (0 < l → ∀ ad, A = some ad → S ad.block)
theorem VOkN.to {S S' : Nat → Prop} {w w' : World} {A : Option Addr} {l c : Nat} {vs : List Vr} (h : VOkN S w A l c vs) (hb : Keeps S S' w w') : VOkN S' w' A l c vs := by
  refine ⟨⟨h.1.len, h.1.cap, h.1.big, h.1.nm, fun h0 => ?_⟩, fun h0 ad ha => ?_⟩
  · obtain ⟨g, f, h1, h2, h3⟩ := h.1.mem h0
    obtain ⟨b1, b2, b3⟩ := hb g h2 (h.2 h0 _ h1)
    exact ⟨g, f, h1, b2, fun j hj => by
      obtain ⟨e0, e1, e2, e3, e4⟩ := h3 j hj
      exact ⟨(b3 _).trans e0, (b3 _).trans e1, (b3 _).trans e2, (b3 _).trans e3, (b3 _).trans e4⟩⟩
  · obtain ⟨g, f, h1, h2, h3⟩ := h.1.mem h0
    obtain ⟨b1, b2, b3⟩ := hb g h2 (h.2 h0 _ h1)
    rw [ha] at h1
    cases h1
    exact b1
/-- The cells of hatches. -/
def HRow (S : Nat → Prop) (w : World) : List Value → List Ht → Prop
  | xs, [] => xs = []
  | xs, h :: r => ∃ A c ys, xs = .string h.name :: .int .i64 h.low :: .int .i64 h.high :: .int .i64 h.t.op :: .int .i64 h.t.num :: .slice A h.t.kids.length c :: ys ∧ TOkN S w A c h.t.kids ∧ HRow S w ys r
theorem HRow.to {S S' : Nat → Prop} {w w' : World} (hb : Keeps S S' w w') : ∀ (xs : List Value) (hs : List Ht), HRow S w xs hs → HRow S' w' xs hs
  | _, [], h => h
  | _, k :: r, h => by
    obtain ⟨A, c, ys, h1, h2, h3⟩ := h
    exact ⟨A, c, ys, h1, h2.to hb, HRow.to hb ys r h3⟩
theorem HRow.snoc {S : Nat → Prop} {w : World} {nm : ByteArray} {lo hi o n : Int} {tk : List Tm} {A : Option Addr} {c : Nat} (hn : TOkN S w A c tk) : ∀ (xs : List Value) (hs : List Ht), HRow S w xs hs → HRow S w (xs ++ [.string nm, .int .i64 lo, .int .i64 hi, .int .i64 o, .int .i64 n, .slice A tk.length c]) (hs ++ [⟨nm, lo, hi, .mk o n tk⟩])
  | xs, [], h => by
    have h' : xs = [] := h
    subst h'
    exact ⟨A, c, [], rfl, hn, rfl⟩
  | _, k :: r, h => by
    obtain ⟨A1, c1, ys, h1, h2, h3⟩ := h
    subst h1
    exact ⟨A1, c1, _, rfl, h2, HRow.snoc hn ys r h3⟩
theorem HRow.at {S : Nat → Prop} {w : World} {g : Nat} : ∀ (xs : List Value) (hs : List Ht) (i : Nat), HRow S w xs hs → (∀ j u, xs[j]? = some u → w.cell? ⟨g, 0 + i * 6 + j, none⟩ = some u) → ∀ j (h : j < hs.length), ∃ A' c', w.cell? ⟨g, 0 + (i + j) * 6, none⟩ = some (.string hs[j].name) ∧ w.cell? ⟨g, 0 + (i + j) * 6 + 1, none⟩ = some (.int .i64 hs[j].low) ∧ w.cell? ⟨g, 0 + (i + j) * 6 + 2, none⟩ = some (.int .i64 hs[j].high) ∧ w.cell? ⟨g, 0 + (i + j) * 6 + 3, none⟩ = some (.int .i64 hs[j].t.op) ∧ w.cell? ⟨g, 0 + (i + j) * 6 + 4, none⟩ = some (.int .i64 hs[j].t.num) ∧ w.cell? ⟨g, 0 + (i + j) * 6 + 5, none⟩ = some (.slice A' hs[j].t.kids.length c') ∧ TOk w A' c' hs[j].t.kids
  | _, [], _, _, _ => fun _ h => absurd h (by simp)
  | _, k :: r, i, h, hc => by
    obtain ⟨A1, c1, ys, h1, h2, h3⟩ := h
    subst h1
    intro j hj
    cases j with
    | zero => exact ⟨A1, c1, hc 0 _ rfl, hc 1 _ rfl, hc 2 _ rfl, hc 3 _ rfl, hc 4 _ rfl, hc 5 _ rfl, h2.ok⟩
    | succ j =>
      have := HRow.at ys r (i + 1) h3 (fun j u hu => by
        have := hc (j + 6) u (by simpa using hu)
        rw [show 0 + (i + 1) * 6 + j = 0 + i * 6 + (j + 6) by omega]
        exact this) j (by simpa using hj)
      rw [show i + 1 + j = i + (j + 1) by omega] at this
      exact this
theorem hrow_ok {S : Nat → Prop} {w : World} {base : Nat} {e : TypeId} {A : Option Addr} {n c : Nat} {xs : List Value} {hs : List Ht} (h : w.ownsRow base e 6 (.slice A n c) n xs) (hr : HRow S w xs hs) (hl : hs.length = n) (hn : ∀ x ∈ hs, x.name.size ≤ maxLen) : HOk w A n c hs := by
  obtain ⟨h1, h2, h3⟩ := own_cells h
  refine ⟨hl, h1, h2, hn, fun h0 => ?_⟩
  obtain ⟨g, rfl, hg, hc⟩ := h3 h0
  refine ⟨g, 0, rfl, hg, fun j hj => ?_⟩
  have := HRow.at (g := g) xs hs 0 hr (fun j u hu => by rw [show 0 + 0 * 6 + j = j by omega]; exact hc j u hu) j hj
  rw [Nat.zero_add j] at this
  exact this
theorem infoV : (Try.prog.info? 41).map (fun i => (i.zero, i.size, i.bytes)) = some (some (.agg #[.string ByteArray.empty, .int .i64 0, .int .i64 0, .int .i64 0, .int .i64 0]), 5, 48) := by kernel_rfl
theorem vvals_len (vs : List Vr) : (vvals vs).length = vs.length * 5 := by
  induction vs with
  | nil => rfl
  | cons v vs ih =>
    show (_ :: _ :: _ :: _ :: _ :: vvals vs).length = _
    simp only [List.length_cons, ih]
    omega
theorem vvals_one (vs : List Vr) : ∀ u ∈ vvals vs, u.oneCell' = true := by
  intro u hu
  unfold vvals at hu
  obtain ⟨v, _, hv⟩ := List.mem_flatMap.1 hu
  simp at hv
  rcases hv with rfl | rfl | rfl | rfl | rfl <;> rfl
theorem vvals_at {W : World} {g f : Nat} : ∀ (vs : List Vr) (i : Nat), (∀ j (h : j < vs.length), W.cell? ⟨g, f + (i + j) * 5, none⟩ = some (.string vs[j].name) ∧ W.cell? ⟨g, f + (i + j) * 5 + 1, none⟩ = some (.int .i64 vs[j].kind) ∧ W.cell? ⟨g, f + (i + j) * 5 + 2, none⟩ = some (.int .i64 vs[j].low) ∧ W.cell? ⟨g, f + (i + j) * 5 + 3, none⟩ = some (.int .i64 vs[j].high) ∧ W.cell? ⟨g, f + (i + j) * 5 + 4, none⟩ = some (.int .i64 vs[j].init)) → ∀ j u, (vvals vs)[j]? = some u → W.cell? ⟨g, f + i * 5 + j, none⟩ = some u
  | [], _, _, j, u, h => by simp [vvals] at h
  | v :: vs, i, hc, j, u, h => by
    have h' : (Value.string v.name :: .int .i64 v.kind :: .int .i64 v.low :: .int .i64 v.high :: .int .i64 v.init :: vvals vs)[j]? = some u := h
    obtain ⟨e0, e1, e2, e3, e4⟩ := hc 0 (by simp)
    match j, h' with
    | 0, h' => simp at h'; subst h'; exact e0
    | 1, h' => simp at h'; subst h'; exact e1
    | 2, h' => simp at h'; subst h'; exact e2
    | 3, h' => simp at h'; subst h'; exact e3
    | 4, h' => simp at h'; subst h'; exact e4
    | j + 5, h' =>
      have := vvals_at vs (i + 1) (fun j hj => by
        have := hc (j + 1) (by simpa using hj)
        rw [show i + 1 + j = i + (j + 1) by omega]
        exact this) j u (by simpa using h')
      rw [show f + i * 5 + (j + 5) = f + (i + 1) * 5 + j by omega]
      exact this
set_option maxRecDepth 100000 in
set_option maxHeartbeats 2000000 in
theorem cloneV_b (vs : List Vr) (A : Option Addr) (l c : Nat) (w : World) (hz : VOk w A l c vs) (hr : l * 48 ≤ 140737488355328) :
    Calls Try.prog 67 #[.slice A l c] w fun e w' => ∃ A' c', e = .returned (.slice A' l c') ∧ VOkN (fun b => w.heap.size ≤ b) w' A' l c' vs ∧ Below w.heap.size w w' := by
  have HZ := Lib.hid hz
  have hq := fun wx : World => Lib.run_eql_slice_nil (P := Try.prog) wx 22 41 A l c 0 0 Try.underlying22
  cases A with
  | none =>
    have hl : l = 0 := by
      rcases Nat.eq_zero_or_pos l with h | h
      · exact h
      · obtain ⟨g, f, h1, _⟩ := hz.mem h; cases h1
    subst hl
    have hb : vs = [] := List.length_eq_zero_iff.1 hz.len
    subst hb
    clear hz
    go_enter Try.func67, Try.ntmps67
    go_wp2_with fail
    go_ret
    exact ⟨none, 0, rfl, ⟨⟨rfl, Nat.le_refl _, Nat.zero_le _, (fun v h => absurd h (by simp)), fun h => absurd h (by omega)⟩, fun h => absurd h (by omega)⟩, Below.refl _ _⟩
  | some ad =>
    obtain ⟨i0, hi0, hz0, hzz1, hz2⟩ := info_parts infoV
    have HIN := Lib.hid (And.intro hi0 (And.intro hz0 (And.intro hzz1 hz2)))
    have HL := Lib.hid hz.len
    have HR := Lib.hid hr
    have hbm : l ≤ maxLen := Nat.le_trans hz.cap hz.big
    have HBM := Lib.hid hbm
    have hnw : ∀ j u, (vvals vs)[j]? = some u → (w.alloc (.cells #[] 41)).cell? (ad.add j) = some u := by
      intro j u hu
      have hj : j < vs.length * 5 := by rw [← vvals_len]; exact (List.getElem?_eq_some_iff.1 hu).1
      obtain ⟨g, f, hA, hg, hc⟩ := (hz.below ((Below.refl w.heap.size w).alloc (Nat.le_refl _) (.cells #[] 41))).mem (by rw [← hz.len]; omega)
      injection hA with hA
      subst hA
      have hadd : (⟨g, f, none⟩ : Addr).add j = ⟨g, f + j, none⟩ := by unfold Addr.add; split <;> simp_all
      rw [hadd]
      have := vvals_at (g := g) (f := f) vs 0 (fun j hj => by have := hc j hj; rw [show f + (0 + j) * 5 = f + j * 5 by omega]; exact this) j u hu
      rw [Nat.zero_mul, Nat.add_zero] at this
      exact this
    have HNW := Lib.hid hnw
    have HNM := Lib.hid hz.nm
    clear hi0 hz0 hzz1 hz2 hz hnw hr hbm
    go_enter Try.func67, Try.ntmps67
    go_wp2_with (at_builtin; (refine wpList_append_own _ rfl _ _ 22 rfl w.heap.size 41 i0 _ 5 48 Try.underlying22 HIN.out.1 HIN.out.2.1 HIN.out.2.2.1 HIN.out.2.2.2 rfl (by decide) _ 0 [] rfl (World.ownsRow_made w #[] 0 (Nat.le_refl _) (Nat.zero_le _) rfl) ad l c (vvals vs) rfl (by rw [vvals_len, HL.out]) HNW.out (vvals_one vs) (by rw [Nat.zero_add]; exact HBM.out) (by rw [Nat.zero_add]; exact HR.out) (by simp) ?_; intro v' w2 hown hgrow hnil; have HOW := Lib.hid hown; have HGR : Hid ((w.alloc (.cells #[] 41)).grownBy w2 (Value.slice (some ⟨w.heap.size, 0, none⟩) 0 0).ownBlock) := hgrow; clear hown hgrow hnil))
    go_ret
    have how := HOW.out
    rw [Nat.zero_add, List.nil_append] at how
    have hlow : Below w.heap.size w w2 := (Fr.of_grown HGR.out).below ((Below.refl w.heap.size w).alloc (Nat.le_refl _) _) (fun k hk => by simp [Value.ownBlock] at hk; omega) (by simp)
    rcases Joins.ownsRow_forms how with ⟨rfl, h0⟩ | ⟨g, cap, rfl⟩
    · subst h0
      have hb : vs = [] := List.length_eq_zero_iff.1 HL.out
      subst hb
      exact ⟨none, 0, rfl, ⟨⟨rfl, Nat.le_refl _, Nat.zero_le _, (fun v h => absurd h (by simp)), fun h => absurd h (by omega)⟩, fun h => absurd h (by omega)⟩, hlow⟩
    · refine ⟨some ⟨g, 0, none⟩, cap, rfl, ⟨own_vs HL.out HNM.out how, fun _ ad h => by injection h with h; subst h; exact (how.lt g rfl).1⟩, hlow⟩

/-- Where a round of Remove stands: the result is in block b. -/
structure Rm (E : TypeId) (w : World) (B b : Nat) (V : Value) (k : Nat) (xs : List Value) (hs : List Ht) (vs : List Vr) (A1 : Option Addr) (lv c1 : Nat) (ks2 : List Sp) (A3 : Option Addr) (l3 c3 q : Nat) (W : World) : Prop where
  below : Below w.heap.size w W
  blo : w.heap.size + 2 ≤ b
  bB : b < B
  BW : B ≤ q
  qW : q ≤ W.heap.size
  c : Cs W b [.slice A1 lv c1, V, .slice A3 l3 c3]
  r : Cs W (w.heap.size + 1) [.slice none 0 0, .slice none 0 0, .slice none 0 0]
  row : W.ownsRow B E 6 V k xs
  rlt : ∀ g, V.ownBlock = some g → g < q
  rows : HRow (fun x => B ≤ x ∧ V.ownBlock ≠ some x ∧ x < q) W xs hs
  v1 : VOkN (fun x => x ≠ b ∧ w.heap.size + 2 ≤ x ∧ x < B) W A1 lv c1 vs
  s3 : SOkN (fun x => x ≠ b ∧ w.heap.size + 2 ≤ x ∧ x < B) W A3 c3 ks2
theorem Rm.next {E : TypeId} {w : World} {B b : Nat} {V : Value} {k : Nat} {xs : List Value} {hs : List Ht} {vs : List Vr} {A1 : Option Addr} {lv c1 : Nat} {ks2 : List Sp} {A3 : Option Addr} {l3 c3 q : Nat} {W W' : World} (h : Rm E w B b V k xs hs vs A1 lv c1 ks2 A3 l3 c3 q W) (hb : Below W.heap.size W W') : Rm E w B b V k xs hs vs A1 lv c1 ks2 A3 l3 c3 q W' :=
  ⟨h.below.trans (hb.mono h.below.size), h.blo, h.bB, h.BW, Nat.le_trans h.qW hb.size, h.c.next hb, h.r.next hb, own_below h.row hb, h.rlt, HRow.to (Keeps.below hb) _ _ h.rows, h.v1.to (Keeps.below hb), h.s3.to (Keeps.below hb)⟩
theorem Rm.far {E : TypeId} {w : World} {B b : Nat} {V : Value} {k : Nat} {xs : List Value} {hs : List Ht} {vs : List Vr} {A1 : Option Addr} {lv c1 : Nat} {ks2 : List Sp} {A3 : Option Addr} {l3 c3 q : Nat} {W : World} (h : Rm E w B b V k xs hs vs A1 lv c1 ks2 A3 l3 c3 q W) {p : Addr} (hp : q ≤ p.block) (u : Value) : Rm E w B b V k xs hs vs A1 lv c1 ks2 A3 l3 c3 q (W.setCell p u) := by
  have h1 := h.blo; have h2 := h.bB; have h3 := h.BW
  exact ⟨h.below.setCell (by omega) _, h.blo, h.bB, h.BW, by rw [World.size_setCell]; exact h.qW, h.c.other (by omega) _, h.r.other (by omega) _, ownsRow_setCell_other h.row (fun e => by have := h.rlt _ e; omega) _, h.rlt, HRow.to (keeps_set _ (fun x hx => by omega)) _ _ h.rows, h.v1.to (keeps_set _ (fun x hx => by omega)), h.s3.to (keeps_set _ (fun x hx => by omega))⟩
theorem Rm.grown {E : TypeId} {w : World} {B b : Nat} {V : Value} {k : Nat} {xs : List Value} {hs : List Ht} {vs : List Vr} {A1 : Option Addr} {lv c1 : Nat} {ks2 : List Sp} {A3 : Option Addr} {l3 c3 q : Nat} {W W' : World} {gg cap : Nat} {nm : ByteArray} {lo hi o n : Int} {tk : List Tm} {A5 : Option Addr} {lt c5 : Nat} (hlt : tk.length = lt) (h : Rm E w B b V k xs hs vs A1 lv c1 ks2 A3 l3 c3 q W) (hn : TOkN (fun x => q < x) W A5 c5 tk) (ho : W'.ownsRow B E 6 (.slice (some ⟨gg, 0, none⟩) (k + 1) cap) (k + 1) (xs ++ [.string nm, .int .i64 lo, .int .i64 hi, .int .i64 o, .int .i64 n, .slice A5 lt c5])) (hg : (W.alloc (.cells #[.string nm, .int .i64 lo, .int .i64 hi, .int .i64 o, .int .i64 n, .slice A5 lt c5] E)).grownBy W' V.ownBlock) (hat : V.ownBlock = some gg ∨ gg = W.heap.size + 1) :
    Rm E w B b (.slice (some ⟨gg, 0, none⟩) (k + 1) cap) (k + 1) (xs ++ [.string nm, .int .i64 lo, .int .i64 hi, .int .i64 o, .int .i64 n, .slice A5 lt c5]) (hs ++ [⟨nm, lo, hi, .mk o n tk⟩]) vs A1 lv c1 ks2 A3 l3 c3 W'.heap.size (W'.setCell ⟨b, 1, none⟩ (.slice (some ⟨gg, 0, none⟩) (k + 1) cap)) := by
  have hba := (Below.refl W.heap.size W).alloc (Nat.le_refl _) (.cells #[.string nm, .int .i64 lo, .int .i64 hi, .int .i64 o, .int .i64 n, .slice A5 lt c5] E)
  have h2 := h.next hba
  have hf := Fr.of_grown hg
  have a1 := h.blo; have a2 := h.bB; have a3 := h.BW; have a4 := h.qW; have a5 := hf.size
  have hs4 : W.heap.size + 1 = (W.alloc (.cells #[.string nm, .int .i64 lo, .int .i64 hi, .int .i64 o, .int .i64 n, .slice A5 lt c5] E)).heap.size := by rw [World.size_alloc]
  have hrow : ∀ x, V.ownBlock = some x → B ≤ x := fun x e => (h2.row.lt x e).1
  have hvb : ∀ x, x < B → ¬ V.ownBlock = some x := fun x hx e => by have := hrow x e; omega
  have hob : (Value.slice (some ⟨gg, 0, none⟩) (k + 1) cap).ownBlock = V.ownBlock ∨ ∀ g, (Value.slice (some ⟨gg, 0, none⟩) (k + 1) cap).ownBlock = some g → (W.alloc (.cells #[.string nm, .int .i64 lo, .int .i64 hi, .int .i64 o, .int .i64 n, .slice A5 lt c5] E)).heap.size ≤ g := hat.imp (fun e => by rw [e]; rfl) (fun e g he => by rw [e] at he; simp [Value.ownBlock] at he; omega)
  have kr : Keeps (fun x => B ≤ x ∧ V.ownBlock ≠ some x) (fun x => B ≤ x ∧ (Value.slice (some ⟨gg, 0, none⟩) (k + 1) cap).ownBlock ≠ some x ∧ x < W'.heap.size) (W.alloc (.cells #[.string nm, .int .i64 lo, .int .i64 hi, .int .i64 o, .int .i64 n, .slice A5 lt c5] E)) (W'.setCell ⟨b, 1, none⟩ (.slice (some ⟨gg, 0, none⟩) (k + 1) cap)) :=
    ((keeps_grown hg hob).trans (Keeps.mono fun x hx hs => ⟨hs.1, hs.2, hx⟩)).trans (keeps_set _ (fun x hx => by simp only; omega))
  have kv : Keeps (fun x => x ≠ b ∧ w.heap.size + 2 ≤ x ∧ x < B) (fun x => x ≠ b ∧ w.heap.size + 2 ≤ x ∧ x < B) (W.alloc (.cells #[.string nm, .int .i64 lo, .int .i64 hi, .int .i64 o, .int .i64 n, .slice A5 lt c5] E)) (W'.setCell ⟨b, 1, none⟩ (.slice (some ⟨gg, 0, none⟩) (k + 1) cap)) := (Keeps.fr hf (fun x hx => hvb x hx.2.2)).trans (keeps_set _ (fun x hx => by simp only; omega))
  have hc := (h2.c.fr hf (hvb b a2)).set 1 (.slice (some ⟨gg, 0, none⟩) (k + 1) cap) (by simp)
  have hn2 : TOkN (fun x => B ≤ x ∧ V.ownBlock ≠ some x) (W.alloc (.cells #[.string nm, .int .i64 lo, .int .i64 hi, .int .i64 o, .int .i64 n, .slice A5 lt c5] E)) A5 c5 tk := (hn.to (Keeps.below hba)).to (Keeps.mono fun x _ hx => ⟨by omega, fun e => by have := h.rlt x e; omega⟩)
  have hsn := HRow.snoc (nm := nm) (lo := lo) (hi := hi) (o := o) (n := n) hn2 _ _ (HRow.to (Keeps.mono fun x _ hx => ⟨hx.1, hx.2.1⟩) _ _ h2.rows)
  rw [hlt] at hsn
  exact ⟨(hf.below h2.below (fun x hx => by have := hrow x hx; omega) h2.below.size).setCell (p := ⟨b, 1, none⟩) (by simp only; omega) _, a1, a2, by omega, by rw [World.size_setCell]; exact Nat.le_refl _, hc, (h2.r.fr hf (hvb _ (by omega))).other (p := ⟨b, 1, none⟩) (by simp only; omega) _, ownsRow_setCell_other (a := ⟨b, 1, none⟩) ho (row_far ho a2) _, fun g hg2 => (ho.lt g hg2).2, HRow.to kr _ _ hsn, h2.v1.to kv, h2.s3.to kv⟩
theorem Cs.set3 {W : World} {b : Nat} {u0 u1 u2 : Value} (h : Cs W b [u0, u1, u2]) (v0 v1 v2 : Value) : Cs (((W.setCell ⟨b, 0, none⟩ v0).setCell ⟨b, 1, none⟩ v1).setCell ⟨b, 2, none⟩ v2) b [v0, v1, v2] := ((h.set 0 v0 (by simp)).set 1 v1 (by simp)).set 2 v2 (by simp)

set_option maxRecDepth 100000 in
set_option maxHeartbeats 8000000 in
theorem Remove_none (ks : List Sp) (i : Int) (Av : Option Addr) (lv cv : Nat) (Ag : Option Addr) (lg cg : Nat) (Ay : Option Addr) (ly cy : Nat) (w : World) (hl : ks.length = ly) (hm : Sp.cntL ks ≤ 1000000) (hk : SOk w Ay cy ks) (hi : i < 0 ∨ (sizeL ks : Nat) ≤ i) :
    Calls Try.prog 29 #[.agg #[.slice Av lv cv, .slice Ag lg cg, .slice Ay ly cy], .int .i64 i] w fun e w' => e = .returned (.tuple #[.agg #[.slice none 0 0, .slice none 0 0, .slice none 0 0], .int .i64 3]) ∧ Below w.heap.size w w' := by
  have hb1 := (Below.refl w.heap.size w).alloc (Nat.le_refl _) (.cells #[.slice Av lv cv, .slice Ag lg cg, .slice Ay ly cy] 26)
  have hb2 := hb1.alloc hb1.size (.cells #[.slice none 0 0, .slice none 0 0, .slice none 0 0] 26)
  have HB := Lib.hid hb2
  have HF := Lib.hid ((Cs.new w #[.slice Av lv cv, .slice Ag lg cg, .slice Ay ly cy] 26).alloc (.cells #[.slice none 0 0, .slice none 0 0, .slice none 0 0] 26))
  have HR := Lib.hid (Cs.new1 w (.cells #[.slice Av lv cv, .slice Ag lg cg, .slice Ay ly cy] 26) #[.slice none 0 0, .slice none 0 0, .slice none 0 0] 26)
  have HK := Lib.hid (hk.below hb2)
  have HL := Lib.hid hl
  have HM := Lib.hid hm
  have HWS : Hid (w.heap.size + 2 ≤ ((w.alloc (.cells #[.slice Av lv cv, .slice Ag lg cg, .slice Ay ly cy] 26)).alloc (.cells #[.slice none 0 0, .slice none 0 0, .slice none 0 0] 26)).heap.size) := Lib.hid (by simp)
  obtain ⟨r, hr⟩ : ∃ z, sizeL ks = z := ⟨_, rfl⟩
  have HZ := Lib.hid hr
  have hrm : r ≤ 1000000 := by rw [← hr]; exact Nat.le_trans (sizeL_cnt ks) hm
  rw [hr] at hi
  clear hb1 hb2 hk hl hm hr
  go_enter Try.func29, Try.ntmps29
  go_upto_region 1 with fail
  obtain ⟨w1, hw1⟩ : ∃ w1, (w.alloc (.cells #[.slice Av lv cv, .slice Ag lg cg, .slice Ay ly cy] 26)).alloc (.cells #[.slice none 0 0, .slice none 0 0, .slice none 0 0] 26) = w1 := ⟨_, rfl⟩
  rw [hw1] at HB HF HR HK HWS
  rw [hw1]
  clear hw1
  have f0 := HF.out.at 0 _ rfl
  have f1 := HF.out.at 1 _ rfl
  have f2 := HF.out.at 2 _ rfl
  by_cases q1 : i < 0
  · have q1b : decide (i < 0) = true := decide_eq_true q1
    clear hi
    have r0 := HR.out.at 0 _ rfl
    have r1 := HR.out.at 1 _ rfl
    have r2 := HR.out.at 2 _ rfl
    have rf0 := HR.out.free 0
    have rf1 := HR.out.free 1
    have rf2 := HR.out.free 2
    have hrl := HR.out.lt
    go_wp2_with fail
    have HF9 := ((HR.out.set 0 (.slice none 0 0) (by simp)).set 1 (.slice none 0 0) (by simp)).set 2 (.slice none 0 0) (by simp)
    have z0 := HF9.at 0 _ rfl
    have z1 := HF9.at 1 _ rfl
    have z2 := HF9.at 2 _ rfl
    refine bodyPost_ret (v := .tuple #[.agg #[.slice none 0 0, .slice none 0 0, .slice none 0 0], .int .i64 3]) (by simp [results, Try.results29, go_sem, z0, z1, z2]) rfl ?_
    exact ⟨rfl, ((HB.out.setCell (p := ⟨w.heap.size + 1, 0, none⟩) (by simp only; omega) _).setCell (p := ⟨w.heap.size + 1, 1, none⟩) (by simp only; omega) _).setCell (p := ⟨w.heap.size + 1, 2, none⟩) (by simp only; omega) _⟩
  · have q1b : decide (i < 0) = false := decide_eq_false q1
    have q2 : (r : Int) ≤ i := by omega
    have q2b : decide ((r : Int) ≤ i) = true := decide_eq_true q2
    go_wp2_with fail
    go_at_call 27
    refine (Size_b Av lv cv Ag lg cg Ay ly cy ks _ HL.out HM.out HK.out r HZ).mono ?_
    rintro e w2 ⟨rfl, hb⟩
    have HB2 := Lib.hid (HB.out.trans (hb.mono HB.out.size))
    have HF2 := Lib.hid (HF.out.next hb)
    have HR2 := Lib.hid (HR.out.next hb)
    have HK2 := Lib.hid (HK.out.below hb)
    have HWS2 := Lib.hid (Nat.le_trans HWS.out hb.size)
    clear hb HB HF HR HK HWS f0 f1 f2
    have r0 := HR2.out.at 0 _ rfl
    have r1 := HR2.out.at 1 _ rfl
    have r2 := HR2.out.at 2 _ rfl
    have rf0 := HR2.out.free 0
    have rf1 := HR2.out.free 1
    have rf2 := HR2.out.free 2
    have hrl := HR2.out.lt
    clear hi
    go_wp2_with fail
    have HF9 := ((HR2.out.set 0 (.slice none 0 0) (by simp)).set 1 (.slice none 0 0) (by simp)).set 2 (.slice none 0 0) (by simp)
    have z0 := HF9.at 0 _ rfl
    have z1 := HF9.at 1 _ rfl
    have z2 := HF9.at 2 _ rfl
    refine bodyPost_ret (v := .tuple #[.agg #[.slice none 0 0, .slice none 0 0, .slice none 0 0], .int .i64 3]) (by simp [results, Try.results29, go_sem, z0, z1, z2]) rfl ?_
    exact ⟨rfl, ((HB2.out.setCell (p := ⟨w.heap.size + 1, 0, none⟩) (by simp only; omega) _).setCell (p := ⟨w.heap.size + 1, 1, none⟩) (by simp only; omega) _).setCell (p := ⟨w.heap.size + 1, 2, none⟩) (by simp only; omega) _⟩


/-- What stands behind the result's making. -/
def RmCut (w2 : World) (vs : List Vr) (lv : Nat) (ks2 : List Sp) (u : Value) (wc : World) : Prop := ∃ (b : Nat) (A1 : Option Addr) (c1 : Nat) (A3 : Option Addr) (l3 c3 : Nat), u = .pointer (some ⟨b, 0, none⟩) ∧ ks2.length = l3 ∧ Below w2.heap.size w2 wc ∧ w2.heap.size ≤ b ∧ Cs wc b [.slice A1 lv c1, .slice none 0 0, .slice A3 l3 c3] ∧ VOkN (fun x => x ≠ b ∧ w2.heap.size ≤ x) wc A1 lv c1 vs ∧ SOkN (fun x => x ≠ b ∧ w2.heap.size ≤ x) wc A3 c3 ks2
theorem keeps_st3 {S : Nat → Prop} {b : Nat} {W : World} (hb : ∀ k, S k → b ≠ k) (v0 v1 v2 : Value) : Keeps S S W (((W.setCell ⟨b, 0, none⟩ v0).setCell ⟨b, 1, none⟩ v1).setCell ⟨b, 2, none⟩ v2) :=
  ((keeps_set v0 hb).trans (keeps_set v1 hb)).trans (keeps_set v2 hb)
theorem below_q3 {B b : Nat} {a W : World} (h : Below B a W) (hb : B ≤ b) (v0 v1 v2 : Value) : Below B a (((W.setCell ⟨b, 0, none⟩ v0).setCell ⟨b, 1, none⟩ v1).setCell ⟨b, 2, none⟩ v2) :=
  ((h.setCell (p := ⟨b, 0, none⟩) hb v0).setCell (p := ⟨b, 1, none⟩) hb v1).setCell (p := ⟨b, 2, none⟩) hb v2
theorem rm_any {w2 W : World} {b : Nat} {vs : List Vr} {A1 : Option Addr} {lv c1 : Nat} {A3 : Option Addr} {l3 c3 : Nat} {ks2 : List Sp} {s1 s2 : Nat} {w3 w4 : World} (hv : VOkN (fun x => s1 ≤ x) w3 A1 lv c1 vs) (hs : SOkN (fun x => s2 ≤ x) w4 A3 c3 ks2) (hl : ks2.length = l3) (hb : Below w2.heap.size w2 W) (hq : w2.heap.size ≤ b) (hc : Cs W b [.slice none 0 0, .slice none 0 0, .slice none 0 0])
    (kv : Keeps (fun x => s1 ≤ x) (fun x => x ≠ b ∧ w2.heap.size ≤ x) w3 W) (kw : Keeps (fun x => s2 ≤ x) (fun x => x ≠ b ∧ w2.heap.size ≤ x) w4 W) : RmCut w2 vs lv ks2 (.pointer (some ⟨b, 0, none⟩)) (((W.setCell ⟨b, 0, none⟩ (.slice A1 lv c1)).setCell ⟨b, 1, none⟩ (.slice none 0 0)).setCell ⟨b, 2, none⟩ (.slice A3 l3 c3)) :=
  ⟨b, A1, c1, A3, l3, c3, rfl, hl, below_q3 hb hq _ _ _, hq, hc.set3 _ _ _, (hv.to kv).to (keeps_st3 (fun _ h e => h.1 e.symm) _ _ _), (hs.to kw).to (keeps_st3 (fun _ h e => h.1 e.symm) _ _ _)⟩
/-- The block is made first, between the calls, or last. -/
theorem rmA {w2 : World} {vs : List Vr} {A1 : Option Addr} {lv c1 : Nat} {A3 : Option Addr} {l3 c3 : Nat} {ks2 : List Sp} {w3 w4 : World} (h1 : Below (w2.drew.alloc (.cells #[.slice none 0 0, .slice none 0 0, .slice none 0 0] 26)).heap.size (w2.drew.alloc (.cells #[.slice none 0 0, .slice none 0 0, .slice none 0 0] 26)) w3) (h2 : Below w3.heap.size w3 w4) (hv : VOkN (fun x => (w2.drew.alloc (.cells #[.slice none 0 0, .slice none 0 0, .slice none 0 0] 26)).heap.size ≤ x) w3 A1 lv c1 vs) (hs : SOkN (fun x => w3.heap.size ≤ x) w4 A3 c3 ks2) (hl : ks2.length = l3) :
    RmCut w2 vs lv ks2 (.pointer (some ⟨w2.heap.size, 0, none⟩)) (((w4.setCell ⟨w2.heap.size, 0, none⟩ (.slice A1 lv c1)).setCell ⟨w2.heap.size, 1, none⟩ (.slice none 0 0)).setCell ⟨w2.heap.size, 2, none⟩ (.slice A3 l3 c3)) := by
  have h0 : Below w2.heap.size w2 (w2.drew.alloc (.cells #[.slice none 0 0, .slice none 0 0, .slice none 0 0] 26)) := (Below.refl w2.heap.size w2).drew.alloc (Nat.le_refl _) _
  have hz : (w2.drew.alloc (.cells #[.slice none 0 0, .slice none 0 0, .slice none 0 0] 26)).heap.size = w2.heap.size + 1 := by simp
  have hs3 := h1.size
  exact rm_any hv hs hl ((h0.trans (h1.mono h0.size)).trans (h2.mono (Nat.le_trans h0.size h1.size))) (Nat.le_refl _) (((Cs.new w2.drew #[.slice none 0 0, .slice none 0 0, .slice none 0 0] 26).next h1).next h2) ((Keeps.mono fun x _ hx => ⟨by omega, by omega⟩).trans (Keeps.below h2)) (Keeps.mono fun x _ hx => ⟨by omega, by omega⟩)
theorem rmB {w2 : World} {vs : List Vr} {A1 : Option Addr} {lv c1 : Nat} {A3 : Option Addr} {l3 c3 : Nat} {ks2 : List Sp} {w3 w4 : World} (h1 : Below w2.drew.heap.size w2.drew w3) (h2 : Below (w3.alloc (.cells #[.slice none 0 0, .slice none 0 0, .slice none 0 0] 26)).heap.size (w3.alloc (.cells #[.slice none 0 0, .slice none 0 0, .slice none 0 0] 26)) w4) (hv : VOkN (fun x => w2.drew.heap.size ≤ x) w3 A1 lv c1 vs) (hs : SOkN (fun x => (w3.alloc (.cells #[.slice none 0 0, .slice none 0 0, .slice none 0 0] 26)).heap.size ≤ x) w4 A3 c3 ks2) (hl : ks2.length = l3) :
    RmCut w2 vs lv ks2 (.pointer (some ⟨w3.heap.size, 0, none⟩)) (((w4.setCell ⟨w3.heap.size, 0, none⟩ (.slice A1 lv c1)).setCell ⟨w3.heap.size, 1, none⟩ (.slice none 0 0)).setCell ⟨w3.heap.size, 2, none⟩ (.slice A3 l3 c3)) := by
  have h0 : Below w2.heap.size w2 w3 := (Below.refl w2.heap.size w2).drew.trans h1
  have hz : w2.drew.heap.size = w2.heap.size := rfl
  have ha := (Below.refl w3.heap.size w3).alloc (Nat.le_refl _) (.cells #[.slice none 0 0, .slice none 0 0, .slice none 0 0] 26)
  have hz3 : (w3.alloc (.cells #[.slice none 0 0, .slice none 0 0, .slice none 0 0] 26)).heap.size = w3.heap.size + 1 := by simp
  have hs3 := h1.size
  exact rm_any hv hs hl (h0.trans ((ha.trans (h2.mono ha.size)).mono h0.size)) h0.size ((Cs.new w3 #[.slice none 0 0, .slice none 0 0, .slice none 0 0] 26).next h2) ((Keeps.mono fun x hx hs => ⟨by omega, by omega⟩).trans ((Keeps.below ha).trans (Keeps.below h2))) (Keeps.mono fun x _ hx => ⟨by omega, by omega⟩)
theorem rmC {w2 : World} {vs : List Vr} {A1 : Option Addr} {lv c1 : Nat} {A3 : Option Addr} {l3 c3 : Nat} {ks2 : List Sp} {w3 w4 : World} (h1 : Below w2.drew.heap.size w2.drew w3) (h2 : Below w3.heap.size w3 w4) (hv : VOkN (fun x => w2.drew.heap.size ≤ x) w3 A1 lv c1 vs) (hs : SOkN (fun x => w3.heap.size ≤ x) w4 A3 c3 ks2) (hl : ks2.length = l3) :
    RmCut w2 vs lv ks2 (.pointer (some ⟨w4.heap.size, 0, none⟩)) (w4.alloc (.cells #[.slice A1 lv c1, .slice none 0 0, .slice A3 l3 c3] 26)) := by
  have h0 : Below w2.heap.size w2 w3 := (Below.refl w2.heap.size w2).drew.trans h1
  have hz : w2.drew.heap.size = w2.heap.size := rfl
  have ha := (Below.refl w4.heap.size w4).alloc (Nat.le_refl _) (.cells #[.slice A1 lv c1, .slice none 0 0, .slice A3 l3 c3] 26)
  have hs3 := h1.size
  have hs4 := h2.size
  have h5 := h0.trans (h2.mono h0.size)
  exact ⟨w4.heap.size, A1, c1, A3, l3, c3, rfl, hl, h5.trans (ha.mono h5.size), h5.size, Cs.new w4 #[.slice A1 lv c1, .slice none 0 0, .slice A3 l3 c3] 26, hv.to (((Keeps.below h2).trans (Keeps.mono fun x hx hs => ⟨by omega, by omega⟩)).trans (Keeps.below ha)), hs.to ((Keeps.mono fun x hx hs => ⟨by omega, by omega⟩).trans (Keeps.below ha))⟩
theorem infoH : (Try.prog.info? 78).map (fun i => (i.zero, i.size, i.bytes)) = some (some (.agg #[.string ByteArray.empty, .int .i64 0, .int .i64 0, .int .i64 0, .int .i64 0, .slice none 0 0]), 6, 72) := by kernel_rfl
set_option maxRecDepth 100000 in
set_option maxHeartbeats 8000000 in
theorem Remove_some (vs : List Vr) (hs : List Ht) (ks : List Sp) (i : Int) (Av : Option Addr) (lv cv : Nat) (Ag : Option Addr) (lg cg : Nat) (Ay : Option Addr) (ly cy : Nat) (w : World) (hl : ks.length = ly) (hm : Sp.cntL ks ≤ 1000000) (hk : SOk w Ay cy ks) (hv : VOk w Av lv cv vs) (hh : HOk w Ag lg cg hs) (hbd : bdL 1000 ks) (hlv : lv ≤ 1000) (hlg : lg ≤ 1000) (hhm : ∀ h ∈ hs, Tm.cnt h.t ≤ 1000000) (hi : 0 ≤ i ∧ i < (sizeL ks : Nat)) :
    Calls Try.prog 29 #[.agg #[.slice Av lv cv, .slice Ag lg cg, .slice Ay ly cy], .int .i64 i] w fun e w' => ∃ A1 c1 A2 c2 A3 l3 c3, e = .returned (.tuple #[.agg #[.slice A1 lv c1, .slice A2 lg c2, .slice A3 l3 c3], .int .i64 0]) ∧ VOk w' A1 lv c1 vs ∧ HOk w' A2 lg c2 hs ∧ SOk w' A3 c3 (woL ks i) ∧ (woL ks i).length = l3 ∧ Below w.heap.size w w' := by
  have hb1 := (Below.refl w.heap.size w).alloc (Nat.le_refl _) (.cells #[.slice Av lv cv, .slice Ag lg cg, .slice Ay ly cy] 26)
  have hb2 := hb1.alloc hb1.size (.cells #[.slice none 0 0, .slice none 0 0, .slice none 0 0] 26)
  have HB := Lib.hid hb2
  have HF := Lib.hid ((Cs.new w #[.slice Av lv cv, .slice Ag lg cg, .slice Ay ly cy] 26).alloc (.cells #[.slice none 0 0, .slice none 0 0, .slice none 0 0] 26))
  have HR := Lib.hid (Cs.new1 w (.cells #[.slice Av lv cv, .slice Ag lg cg, .slice Ay ly cy] 26) #[.slice none 0 0, .slice none 0 0, .slice none 0 0] 26)
  have HK := Lib.hid (hk.below hb2)
  have HL := Lib.hid hl
  have HM := Lib.hid hm
  have HWS : Hid (w.heap.size + 2 ≤ ((w.alloc (.cells #[.slice Av lv cv, .slice Ag lg cg, .slice Ay ly cy] 26)).alloc (.cells #[.slice none 0 0, .slice none 0 0, .slice none 0 0] 26)).heap.size) := Lib.hid (by simp)
  obtain ⟨r, hr⟩ : ∃ z, sizeL ks = z := ⟨_, rfl⟩
  have HZ := Lib.hid hr
  have hrm : r ≤ 1000000 := by rw [← hr]; exact Nat.le_trans (sizeL_cnt ks) hm
  rw [hr] at hi
  have HV := Lib.hid (hv.below hb2)
  have HHC := Lib.hid hh
  have HBD := Lib.hid hbd
  have HLV : Hid (lv * 48 ≤ 140737488355328) := Lib.hid (by omega)
  have HHM := Lib.hid hhm
  have HIB : Hid (0 ≤ i ∧ i ≤ 1000000) := Lib.hid (by omega)
  have HNM := Lib.hid hh.nm
  clear hb1 hb2 hk hl hm hr hv hh hbd hlv hhm
  go_enter Try.func29, Try.ntmps29
  go_upto_region 1 with fail
  obtain ⟨w1, hw1⟩ : ∃ w1, (w.alloc (.cells #[.slice Av lv cv, .slice Ag lg cg, .slice Ay ly cy] 26)).alloc (.cells #[.slice none 0 0, .slice none 0 0, .slice none 0 0] 26) = w1 := ⟨_, rfl⟩
  rw [hw1] at HB HF HR HK HWS HV
  rw [hw1]
  clear hw1
  have f0 := HF.out.at 0 _ rfl
  have f1 := HF.out.at 1 _ rfl
  have f2 := HF.out.at 2 _ rfl
  have q1 : ¬ i < 0 := by omega
  have q1b : decide (i < 0) = false := decide_eq_false q1
  have q2 : ¬ (r : Int) ≤ i := by omega
  have q2b : decide ((r : Int) ≤ i) = false := decide_eq_false q2
  clear hi
  go_wp2_with fail
  go_at_call 27
  refine (Size_b Av lv cv Ag lg cg Ay ly cy ks _ HL.out HM.out HK.out r HZ).mono ?_
  rintro e w2 ⟨rfl, hb⟩
  have HB2 := Lib.hid (HB.out.trans (hb.mono HB.out.size))
  have HF2 := Lib.hid (HF.out.next hb)
  have HR2 := Lib.hid (HR.out.next hb)
  have HK2 := Lib.hid (HK.out.below hb)
  have HWS2 := Lib.hid (Nat.le_trans HWS.out hb.size)
  have HV2 := Lib.hid (HV.out.below hb)
  clear HV
  have HV := HV2
  clear HV2
  clear hb HB HF HR HK HWS f0 f1 f2
  go_upto_region 3 with fail
  clear q1 q1b q2 q2b
  have KP : Hid (∀ W, Below w2.heap.size w2 W → (W.cell? ⟨w.heap.size, 0, none⟩ = some (.slice Av lv cv) ∧ W.cell? ⟨w.heap.size, 2, none⟩ = some (.slice Ay ly cy))) := fun W h => ⟨(HF2.out.next h).at 0 _ rfl, (HF2.out.next h).at 2 _ rfl⟩
  go_cut [6] (fun u wc => Hid (RmCut w2 vs lv (woL ks i) u wc))
  case first =>
    go_region_held3 (fun W => W.cell? ⟨w.heap.size, 0, none⟩ = some (.slice Av lv cv) ∧ W.cell? ⟨w.heap.size, 2, none⟩ = some (.slice Ay ly cy)) (first | with_reducible exact KP.out _ HD2.out | with_reducible exact KP.out _ (HD2.out.alloc HD2.out.size _) | with_reducible exact KP.out _ HD1.out | with_reducible exact KP.out _ (HD1.out.alloc HD1.out.size _) | with_reducible exact KP.out _ (Below.refl _ _).drew | exact KP.out _ ((Below.refl _ _).drew.alloc (by simp) _) | exact KP.out _ (below_q3 HD2.out (Nat.le_refl _) _ _ _) | exact KP.out _ (below_q3 HD2.out HD1.out.size _ _ _) | exact KP.out _ (below_q3 (HD2.out.alloc HD2.out.size _) HD2.out.size _ _ _)) (first
      | (have hca := HCA; clear hca; go_at_call 68; refine (without_any (Sp.cntL ks) ks ly Ay cy i _ HL.out (Nat.le_refl _) HM.out HBD.out (HK2.out.below HD1.out) HIB.out.1 HIB.out.2).mono ?_; rintro e w4 ⟨A3, l3, c3, rfl, hl3, hs4, hb4⟩; have HD2 := Lib.hid (HD1.out.trans (hb4.mono HD1.out.size)); have HE2 := Lib.hid hb4; have HL3 := Lib.hid hl3; have HS4 := Lib.hid hs4; have HCB := Lib.hid (HCA.out.next hb4); clear hb4 hs4 hl3; have n0 := HCB.out.at 0 _ rfl; have nf0 := HCB.out.free 0; have n1 := HCB.out.at 1 _ rfl; have nf1 := HCB.out.free 1; have n2 := HCB.out.at 2 _ rfl; have nf2 := HCB.out.free 2; have nl := HCB.out.lt)
      | (go_at_call 68; refine (without_any (Sp.cntL ks) ks ly Ay cy i _ HL.out (Nat.le_refl _) HM.out HBD.out (HK2.out.below (HD1.out.alloc HD1.out.size (.cells #[.slice none 0 0, .slice none 0 0, .slice none 0 0] 26))) HIB.out.1 HIB.out.2).mono ?_; rintro e w4 ⟨A3, l3, c3, rfl, hl3, hs4, hb4⟩; have HD2 := Lib.hid ((HD1.out.alloc HD1.out.size (.cells #[.slice none 0 0, .slice none 0 0, .slice none 0 0] 26)).trans (hb4.mono (HD1.out.alloc HD1.out.size (.cells #[.slice none 0 0, .slice none 0 0, .slice none 0 0] 26)).size)); have HE2 := Lib.hid hb4; have HL3 := Lib.hid hl3; have HS4 := Lib.hid hs4; have HCB := Lib.hid ((Cs.new w3 #[.slice none 0 0, .slice none 0 0, .slice none 0 0] 26).next hb4); clear hb4 hs4 hl3; have n0 := HCB.out.at 0 _ rfl; have nf0 := HCB.out.free 0; have n1 := HCB.out.at 1 _ rfl; have nf1 := HCB.out.free 1; have n2 := HCB.out.at 2 _ rfl; have nf2 := HCB.out.free 2; have nl := HCB.out.lt)
      | (go_at_call 68; refine (without_any (Sp.cntL ks) ks ly Ay cy i _ HL.out (Nat.le_refl _) HM.out HBD.out (HK2.out.below HD1.out) HIB.out.1 HIB.out.2).mono ?_; rintro e w4 ⟨A3, l3, c3, rfl, hl3, hs4, hb4⟩; have HD2 := Lib.hid (HD1.out.trans (hb4.mono HD1.out.size)); have HE2 := Lib.hid hb4; have HL3 := Lib.hid hl3; have HS4 := Lib.hid hs4; clear hb4 hs4 hl3)
      | (go_at_call 67; refine (cloneV_b vs Av lv cv _ (HV.out.below (Below.refl w2.heap.size w2).drew) HLV.out).mono ?_; rintro e w3 ⟨A1, c1, rfl, hv3, hb3⟩; have HD1 := Lib.hid ((Below.refl w2.heap.size w2).drew.trans (hb3.mono (Below.refl w2.heap.size w2).drew.size)); have HV3 := Lib.hid hv3; have HE1 := Lib.hid hb3; clear hb3 hv3)
      | (go_at_call 67; refine (cloneV_b vs Av lv cv _ (HV.out.below ((Below.refl w2.heap.size w2).drew.alloc (by simp) (.cells #[.slice none 0 0, .slice none 0 0, .slice none 0 0] 26))) HLV.out).mono ?_; rintro e w3 ⟨A1, c1, rfl, hv3, hb3⟩; have HD1 := Lib.hid (((Below.refl w2.heap.size w2).drew.alloc (by simp) (.cells #[.slice none 0 0, .slice none 0 0, .slice none 0 0] 26)).trans (hb3.mono ((Below.refl w2.heap.size w2).drew.alloc (by simp) (.cells #[.slice none 0 0, .slice none 0 0, .slice none 0 0] 26)).size)); have HV3 := Lib.hid hv3; have HE1 := Lib.hid hb3; have HCA : Hid (Cs w3 w2.heap.size [.slice none 0 0, .slice none 0 0, .slice none 0 0]) := Lib.hid ((Cs.new w2.drew #[.slice none 0 0, .slice none 0 0, .slice none 0 0] 26).next hb3); clear hb3 hv3))
    all_goals
      go_wp2_with fail
      go_meet
      case rel =>
        first
          | exact Lib.hid (rmA HE1.out HE2.out HV3.out HS4.out HL3.out)
          | exact Lib.hid (rmB HE1.out HE2.out HV3.out HS4.out HL3.out)
          | exact Lib.hid (rmC HE1.out HE2.out HV3.out HS4.out HL3.out)
  case rest =>
    obtain ⟨b, A1, c1, A3, l3, c3, hu, hl3, hbc, hqb, hcb, hv1, hs3⟩ := hcut.out
    subst hu
    have HL3 := Lib.hid hl3
    have HRM : Hid (Rm 78 w wc.heap.size b (.slice none 0 0) 0 [] (hs.take 0) vs A1 lv c1 (woL ks i) A3 l3 c3 wc.heap.size wc) := Lib.hid ⟨HB2.out.trans (hbc.mono HB2.out.size), by have := HWS2.out; omega, hcb.lt, Nat.le_refl _, Nat.le_refl _, hcb, HR2.out.next hbc, World.ownsRow_nil _ _ _ _, fun g h => by simp [Value.ownBlock] at h, by rw [List.take_zero]; rfl, hv1.to (Keeps.mono fun x hx h => ⟨h.1, by have := HWS2.out; omega, hx⟩), hs3.to (Keeps.mono fun x hx h => ⟨h.1, by have := HWS2.out; omega, hx⟩)⟩
    have f1 := (HF2.out.next hbc).at 1 _ rfl
    obtain ⟨i0, hi0, hz0, hz1, hz2⟩ := info_parts infoH
    have HI := Lib.hid (And.intro hi0 (And.intro hz0 (And.intro hz1 hz2)))
    clear hcut hl3 hqb hv1 hs3 hcb hbc HB2 HR2 HF2 HV HK2 KP HWS2 hi0 hz0 hz1 hz2
    go_upto_region 5 with fail
    clear f1
    obtain ⟨wx, rfl⟩ : ∃ wx : World, wx = wc := ⟨_, rfl⟩
    go_loopw [29] (fun t wr => ∃ (k : Nat) (A2 : Option Addr) (c2 : Nat) (xs : List Value), k ≤ lg ∧ t = .int .i64 k ∧ Hid (Rm 78 w wx.heap.size b (.slice A2 k c2) k xs (hs.take k) vs A1 lv c1 (woL ks i) A3 l3 c3 wr.heap.size wr)) (fun t _ => lg - (intOf t).toNat)
    case atStart => exact ⟨0, none, 0, [], by omega, rfl, HRM⟩
    case round =>
      clear HRM
      obtain ⟨k, A2, c2, xs, hk, rfl, HRM⟩ := hrel
      by_cases hlt : k < lg
      · obtain ⟨nm, lo, hi, o, n, kk, gh, fh, At, ct, hx, hsz, hA, hgh, k0, k1, k2, k3, k4, k5, htk⟩ := (HHC.out.below HRM.out.below).at k hlt
        subst hA
        obtain ⟨lt, hlt1⟩ : ∃ l, kk.length = l := ⟨_, rfl⟩
        rw [hlt1] at k5
        have hlt' : (k : Int) < (lg : Int) := by omega
        have HLT := Lib.hid hlt1
        have HXK : Hid (hs.take (k + 1) = hs.take k ++ [⟨nm, lo, hi, .mk o n kk⟩]) := Lib.hid (by
          obtain ⟨h1, h2⟩ := List.getElem?_eq_some_iff.1 hx
          rw [take_one hs k h1, h2])
        have HCT : Hid (Tm.cnt (.mk o n kk) ≤ 1000000) := Lib.hid (HHM.out _ (List.mem_of_getElem? hx))
        have hba := (Below.refl wr.heap.size wr).alloc (Nat.le_refl _) (.cells #[.string nm, .int .i64 lo, .int .i64 hi, .int .i64 o, .int .i64 n, .slice At lt ct] 78)
        have HRM4 := Lib.hid (HRM.out.next hba)
        have HTK := Lib.hid (htk.below hba)
        have HQ := Lib.hid (Cs.new wr #[.string nm, .int .i64 lo, .int .i64 hi, .int .i64 o, .int .i64 n, .slice At lt ct] 78)
        have HS4 : Hid (wr.heap.size + 1 = (wr.alloc (.cells #[.string nm, .int .i64 lo, .int .i64 hi, .int .i64 o, .int .i64 n, .slice At lt ct] 78)).heap.size) := Lib.hid (by rw [World.size_alloc])
        clear hba HRM hx hsz htk hlt1
        go_upto_region 7 with fail
        obtain ⟨w4, hw4⟩ : ∃ w4, wr.alloc (.cells #[.string nm, .int .i64 lo, .int .i64 hi, .int .i64 o, .int .i64 n, .slice At lt ct] 78) = w4 := ⟨_, rfl⟩
        obtain ⟨q, hq⟩ : ∃ q, wr.heap.size = q := ⟨_, rfl⟩
        rw [hw4] at HRM4 HTK HQ HS4
        rw [hq] at HQ HRM4 HS4
        rw [hw4, hq]
        clear hw4 hq k0 k1 k2 k3 k4 k5
        have a3 := HQ.out.at 3 _ rfl
        have a4 := HQ.out.at 4 _ rfl
        have a5 := HQ.out.at 5 _ rfl
        go_wp2_with fail
        go_at_call 69
        refine (copyTerm_any (Tm.cnt (.mk o n kk)) o n kk lt At ct _ HLT.out (Nat.le_refl _) HCT.out HTK.out).mono ?_
        rintro e w5 ⟨A5, c5, rfl, ht5, hb5⟩
        have HRM5 := Lib.hid (HRM4.out.next hb5)
        have HQ5 := Lib.hid (HQ.out.next hb5)
        have HT5 := Lib.hid ht5
        clear hb5 ht5 HRM4 HQ HTK a3 a4 a5
        have a3 := HQ5.out.at 3 _ rfl
        have a4 := HQ5.out.at 4 _ rfl
        have a5 := HQ5.out.at 5 _ rfl
        have b3 := HQ5.out.free 3
        have b4 := HQ5.out.free 4
        have b5 := HQ5.out.free 5
        have hql := HQ5.out.lt
        go_upto_region 8 with fail
        have HRM6 := Lib.hid (((HRM5.out.far (p := ⟨q, 3, none⟩) (Nat.le_refl _) (.int .i64 o)).far (p := ⟨q, 4, none⟩) (Nat.le_refl _) (.int .i64 n)).far (p := ⟨q, 5, none⟩) (Nat.le_refl _) (.slice A5 lt c5))
        have HQ6 : Hid (Cs (((w5.setCell ⟨q, 3, none⟩ (.int .i64 o)).setCell ⟨q, 4, none⟩ (.int .i64 n)).setCell ⟨q, 5, none⟩ (.slice A5 lt c5)) q [.string nm, .int .i64 lo, .int .i64 hi, .int .i64 o, .int .i64 n, .slice A5 lt c5]) := Lib.hid (((HQ5.out.set 3 (.int .i64 o) (by simp)).set 4 (.int .i64 n) (by simp)).set 5 (.slice A5 lt c5) (by simp))
        have HT6 : Hid (TOkN (fun x => q < x) (((w5.setCell ⟨q, 3, none⟩ (.int .i64 o)).setCell ⟨q, 4, none⟩ (.int .i64 n)).setCell ⟨q, 5, none⟩ (.slice A5 lt c5)) A5 c5 kk) := Lib.hid (by
          have k1 : ∀ x, w4.heap.size ≤ x → q ≠ x := fun x hx => by have := HS4.out; omega
          exact (HT5.out.to (((keeps_set (p := ⟨q, 3, none⟩) _ k1).trans (keeps_set (p := ⟨q, 4, none⟩) _ k1)).trans (keeps_set (p := ⟨q, 5, none⟩) _ k1))).to (Keeps.mono fun x _ hx => by have := HS4.out; omega))
        obtain ⟨w6, hw6⟩ : ∃ w6, ((w5.setCell ⟨q, 3, none⟩ (.int .i64 o)).setCell ⟨q, 4, none⟩ (.int .i64 n)).setCell ⟨q, 5, none⟩ (.slice A5 lt c5) = w6 := ⟨_, rfl⟩
        rw [hw6] at HRM6 HQ6 HT6
        rw [hw6]
        clear hw6 HRM5 HQ5 HT5 a3 a4 a5 b3 b4 b5 hql
        have b1 := HRM6.out.c.at 1 _ rfl
        have a0 := HQ6.out.at 0 _ rfl
        have a1 := HQ6.out.at 1 _ rfl
        have a2 := HQ6.out.at 2 _ rfl
        have a3 := HQ6.out.at 3 _ rfl
        have a4 := HQ6.out.at 4 _ rfl
        have a5 := HQ6.out.at 5 _ rfl
        have hba := (Below.refl w6.heap.size w6).alloc (Nat.le_refl _) (.cells #[.string nm, .int .i64 lo, .int .i64 hi, .int .i64 o, .int .i64 n, .slice A5 lt c5] 78)
        have HR7 := Lib.hid (HRM6.out.next hba)
        have HWS7 : Hid (wx.heap.size ≤ (w6.alloc (.cells #[.string nm, .int .i64 lo, .int .i64 hi, .int .i64 o, .int .i64 n, .slice A5 lt c5] 78)).heap.size) := Lib.hid (Nat.le_trans HR7.out.BW HR7.out.qW)
        clear hba
        go_wp2_with (at_builtin; (refine wpList_append_lies _ rfl _ _ 23 rfl wx.heap.size 78 i0 _ 6 72 Try.underlying23 HI.out.1 HI.out.2.1 HI.out.2.2.1 HI.out.2.2.2 rfl (by decide) (.slice A2 k c2) k xs rfl HR7.out.row ⟨w6.heap.size, 0, none⟩ 1 1 [.string nm, .int .i64 lo, .int .i64 hi, .int .i64 o, .int .i64 n, .slice A5 lt c5] rfl rfl (World.news_of_block (cs := #[.string nm, .int .i64 lo, .int .i64 hi, .int .i64 o, .int .i64 n, .slice A5 lt c5]) (t := 78) (fr := (0, 0)) (heap_alloc_new w6 _)) (by simp [Value.oneCell']) (by decide) (by unfold maxLen; omega) (by omega) HWS7.out (w6.heap.size + 1) (by simp) ?_; intro gg cap w7 hown hgrow hat hlt7; have hc7 := HR7.out.c.fr (Fr.of_grown hgrow) (row_far HR7.out.row HR7.out.bB); have b7 := hc7.at 1 _ rfl; have bf7 := hc7.free 1; have bl7 := hc7.lt; have HR8 := Lib.hid (HRM6.out.grown HLT.out HT6.out hown hgrow hat); clear hown hgrow hat hc7))
        have HR9 : Hid (Rm 78 w wx.heap.size b (.slice (some ⟨gg, 0, none⟩) (k + 1) cap) (k + 1) (xs ++ [.string nm, .int .i64 lo, .int .i64 hi, .int .i64 o, .int .i64 n, .slice A5 lt c5]) (hs.take (k + 1)) vs A1 lv c1 (woL ks i) A3 l3 c3 (w7.setCell ⟨b, 1, none⟩ (.slice (some ⟨gg, 0, none⟩) (k + 1) cap)).heap.size (w7.setCell ⟨b, 1, none⟩ (.slice (some ⟨gg, 0, none⟩) (k + 1) cap))) := Lib.hid (by rw [HXK.out, World.size_setCell]; exact HR8.out)
        clear HR8 HRM6 HQ6 HT6 HR7 HWS7 HXK HS4
        go_roundw
        case rel => exact ⟨k + 1, some ⟨gg, 0, none⟩, cap, _, by omega, by go_num, HR9⟩
        case measure => simp [intOf]; omega
      · obtain rfl : k = lg := by omega
        have c0 := HRM.out.c.at 0 _ rfl
        have c1_ := HRM.out.c.at 1 _ rfl
        have c2_ := HRM.out.c.at 2 _ rfl
        have r0 := HRM.out.r.at 0 _ rfl
        have r1 := HRM.out.r.at 1 _ rfl
        have r2 := HRM.out.r.at 2 _ rfl
        have rf0 := HRM.out.r.free 0
        have rf1 := HRM.out.r.free 1
        have rf2 := HRM.out.r.free 2
        have hrl := HRM.out.r.lt
        go_wp2_with fail
        have HF9 := ((HRM.out.r.set 0 (.slice A1 lv c1) (by simp)).set 1 (.slice A2 k c2) (by simp)).set 2 (.slice A3 l3 c3) (by simp)
        have z0 := HF9.at 0 _ rfl
        have z1 := HF9.at 1 _ rfl
        have z2 := HF9.at 2 _ rfl
        refine bodyPost_ret (v := .tuple #[.agg #[.slice A1 lv c1, .slice A2 k c2, .slice A3 l3 c3], .int .i64 0]) (by simp [results, Try.results29, go_sem, z0, z1, z2]) rfl ?_
        have hw := HRM.out.below
        have hbl := HRM.out.blo
        have hKS : ∀ (S : Nat → Prop), (∀ x, S x → w.heap.size + 2 ≤ x) → Keeps S S wr (((wr.setCell ⟨w.heap.size + 1, 0, none⟩ (.slice A1 lv c1)).setCell ⟨w.heap.size + 1, 1, none⟩ (.slice A2 k c2)).setCell ⟨w.heap.size + 1, 2, none⟩ (.slice A3 l3 c3)) := fun S hS => keeps_st3 (fun x hx => by have := hS x hx; omega) _ _ _
        have hrow := ownsRow_setCell_other (a := ⟨w.heap.size + 1, 2, none⟩) (ownsRow_setCell_other (a := ⟨w.heap.size + 1, 1, none⟩) (ownsRow_setCell_other (a := ⟨w.heap.size + 1, 0, none⟩) HRM.out.row (row_far HRM.out.row (by have := HRM.out.bB; simp only; omega)) (.slice A1 lv c1)) (row_far HRM.out.row (by have := HRM.out.bB; simp only; omega)) (.slice A2 k c2)) (row_far HRM.out.row (by have := HRM.out.bB; simp only; omega)) (.slice A3 l3 c3)
        have hhs := HRow.to (hKS _ (fun x hx => by have := HRM.out.bB; omega)) _ _ HRM.out.rows
        rw [List.take_of_length_le (by rw [HHC.out.len]; exact Nat.le_refl _)] at hhs
        exact ⟨A1, c1, A2, c2, A3, l3, c3, rfl, (HRM.out.v1.to (hKS _ (fun x hx => hx.2.1))).1, hrow_ok hrow hhs HHC.out.len HNM.out, (HRM.out.s3.to (hKS _ (fun x hx => hx.2.1))).ok, HL3.out, below_q3 hw (by omega) _ _ _⟩
end Go.Proofs.Ytjpjmoejdkmglaa
