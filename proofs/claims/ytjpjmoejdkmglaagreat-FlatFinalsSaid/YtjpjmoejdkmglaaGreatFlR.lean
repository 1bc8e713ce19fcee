/-
  Worlds that agree but at some blocks; the walks over the measure of Check.
-/
import Derived.Test.YtjpjmoejdkmglaaGreatFlO
namespace Go.Proofs.YtjpjmoejdkmglaaGreat
open Go.RowKit

/-- But for the blocks of S all that was there is as it was. -/
structure Fr (S : Nat → Prop) (w w' : World) : Prop where
  os : w'.os = w.os
  tape : w'.tape = w.tape
  output : w'.output = w.output
  size : w.heap.size ≤ w'.heap.size
  block : ∀ k, k < w.heap.size → ¬ S k → w'.heap[k]? = w.heap[k]?
theorem Fr.refl (S : Nat → Prop) (w : World) : Fr S w w := ⟨rfl, rfl, rfl, Nat.le_refl _, fun _ _ _ => rfl⟩
theorem Fr.trans {S : Nat → Prop} {a b c : World} (h : Fr S a b) (k : Fr S b c) : Fr S a c :=
  ⟨k.os.trans h.os, k.tape.trans h.tape, k.output.trans h.output, Nat.le_trans h.size k.size, fun i hi hs => (k.block i (Nat.lt_of_lt_of_le hi h.size) hs).trans (h.block i hi hs)⟩
theorem Fr.of {S : Nat → Prop} {a b : World} (h : Below a.heap.size a b) : Fr S a b := ⟨h.os, h.tape, h.output, h.size, fun k hk _ => h.block k hk⟩
theorem Fr.alloc {S : Nat → Prop} {a b : World} (h : Fr S a b) (o : Obj) : Fr S a (b.alloc o) := h.trans (Fr.of ((Below.refl _ _).alloc (Nat.le_refl _) o))
theorem Fr.drew {S : Nat → Prop} {a b : World} (h : Fr S a b) : Fr S a b.drew := h.trans (Fr.of (Below.refl _ _).drew)
theorem Fr.setCell {S : Nat → Prop} {a b : World} (h : Fr S a b) {p : Addr} (hp : S p.block) (u : Value) : Fr S a (b.setCell p u) :=
  h.trans ⟨rfl, rfl, rfl, by simp [World.setCell], fun k _ hs => Below.heap_setCell _ _ _ _ (fun e => hs (e ▸ hp))⟩
theorem Fr.cell {S : Nat → Prop} {w w' : World} (h : Fr S w w') {p : Addr} (hp : p.block < w.heap.size) (hs : ¬ S p.block) : w'.cell? p = w.cell? p := World.cell?_of_block (w := w) (h.block p.block hp hs)
theorem Fr.frozen {S : Nat → Prop} {w w' : World} (h : Fr S w w') {p : Addr} (hp : p.block < w.heap.size) (hs : ¬ S p.block) : w'.frozen? p = w.frozen? p := World.frozen?_of_block (w := w) (h.block p.block hp hs)
/-- What lies below B and outside of S stays. -/
theorem Fr.below {S : Nat → Prop} {w0 w w' : World} {B : Nat} (h : Fr S w w') (hb : Below B w0 w) (hs : ∀ k, S k → B ≤ k) (hB : B ≤ w.heap.size) : Below B w0 w' :=
  hb.trans ⟨h.os, h.tape, h.output, h.size, fun k hk => h.block k (by omega) (fun e => by have := hs k e; omega)⟩
theorem Cs.fr {S : Nat → Prop} {w w' : World} {b : Nat} {vs : List Value} (h : Cs w b vs) (hf : Fr S w w') (hs : ¬ S b) : Cs w' b vs :=
  ⟨Nat.lt_of_lt_of_le h.lt hf.size, fun j u hu => (hf.cell (p := ⟨b, j, none⟩) h.lt hs).trans (h.cell j u hu), fun j => (hf.frozen (p := ⟨b, j, none⟩) h.lt hs).trans (h.free j)⟩

/-- Is the measure over? -/
def overP (s : Int × Bool) : Bool := s.2 || decide (1024 < s.1)
def stepM (d : Int) (s : Int × Bool) : Int × Bool := (s.1 + 1, s.2 || decide (12 < d))
mutual
/-- The measure behind a term. -/
def mT : Tm → Int → Int × Bool → Int × Bool
  | .mk _ _ ks, d, s => if overP (stepM d s) = true then stepM d s else mTL ks (d + 1) (stepM d s)
def mTL : List Tm → Int → Int × Bool → Int × Bool
  | [], _, s => s
  | k :: ks, d, s => mTL ks d (mT k d s)
end
theorem mTL_app (a b : List Tm) (d : Int) (s : Int × Bool) : mTL (a ++ b) d s = mTL b d (mTL a d s) := by
  induction a generalizing s with
  | nil => simp only [List.nil_append, mTL]
  | cons k a ih => simp only [List.cons_append, mTL, ih]
theorem mTL_take (ks : List Tm) (d : Int) (s : Int × Bool) (k : Nat) (h : k < ks.length) : mTL (ks.take (k + 1)) d s = mT ks[k] d (mTL (ks.take k) d s) := by
  rw [take_one ks k h, mTL_app]; simp only [mTL]
mutual
theorem mT_cnt : ∀ (t : Tm) (d : Int) (s : Int × Bool), s.1 ≤ (mT t d s).1 ∧ (mT t d s).1 ≤ s.1 + t.cnt
  | .mk _ _ ks, d, s => by
    rw [mT]
    simp only [Tm.cnt]
    split
    · simp only [stepM]; omega
    · have := mTL_cnt ks (d + 1) (stepM d s)
      simp only [stepM] at this ⊢
      omega
theorem mTL_cnt : ∀ (ks : List Tm) (d : Int) (s : Int × Bool), s.1 ≤ (mTL ks d s).1 ∧ (mTL ks d s).1 ≤ s.1 + Tm.cntL ks
  | [], _, _ => by simp only [mTL, Tm.cntL]; omega
  | k :: ks, d, s => by
    rw [mTL]
    simp only [Tm.cntL]
    have h1 := mT_cnt k d s
    have h2 := mTL_cnt ks d (mT k d s)
    omega
end
mutual
/-- The measure behind steps. -/
def mS : List Sp → Int → Int × Bool → Int × Bool
  | [], _, s => s
  | x :: xs, d, s => if overP (stepM d s) = true then stepM d s else mS xs d (mX x d (stepM d s))
def mX : Sp → Int → Int × Bool → Int × Bool
  | .mk _ _ _ _ t th el _, d, s => mS el (d + 1) (mS th (d + 1) (mT t 1 s))
end
mutual
theorem mS_cnt : ∀ (ks : List Sp) (d : Int) (s : Int × Bool), s.1 ≤ (mS ks d s).1 ∧ (mS ks d s).1 ≤ s.1 + Sp.cntL ks
  | [], _, _ => by simp only [mS, Sp.cntL]; omega
  | x :: xs, d, s => by
    rw [mS]
    simp only [Sp.cntL]
    have h1 := mX_cnt x d (stepM d s)
    have := Sp.cnt_pos x
    split
    · simp only [stepM]; omega
    · have h2 := mS_cnt xs d (mX x d (stepM d s))
      simp only [stepM] at h1 h2 ⊢
      omega
theorem mX_cnt : ∀ (x : Sp) (d : Int) (s : Int × Bool), s.1 ≤ (mX x d s).1 ∧ (mX x d s).1 + 1 ≤ s.1 + x.cnt
  | .mk _ _ _ _ t th el _, d, s => by
    rw [mX]
    simp only [Sp.cnt]
    have h1 := mT_cnt t 1 s
    have h2 := mS_cnt th (d + 1) (mT t 1 s)
    have h3 := mS_cnt el (d + 1) (mS th (d + 1) (mT t 1 s))
    omega
end

theorem over_b (n : Int) (dp : Bool) (b : Bool) (p : Nat) (H : Hid (overP (n, dp) = b)) (w : World) (hc : Cs w p [.int .i64 n, .bool dp]) :
    Calls Tryz.prog 27 #[.pointer (some ⟨p, 0, none⟩)] w fun e w' => e = .returned (.bool b) ∧ w = w' := by
  have r0 := hc.at 0 _ rfl
  have r1 := hc.at 1 _ rfl
  have hl := hc.lt
  clear hc
  cases dp with
  | true =>
    have hb : b = true := H.out.symm
    subst hb
    clear H
    go_enter Tryz.func27, Tryz.ntmps27
    go_wp2_with fail
    go_ret
    exact ⟨rfl, rfl⟩
  | false =>
    by_cases hn : 1024 < n
    · have hd : decide (1024 < n) = true := decide_eq_true hn
      have hb : b = true := by rw [← H.out, overP, hd]; rfl
      subst hb
      clear H
      go_enter Tryz.func27, Tryz.ntmps27
      go_wp2_with fail
      go_ret
      exact ⟨rfl, rfl⟩
    · have hd : decide (1024 < n) = false := decide_eq_false hn
      have hb : b = false := by rw [← H.out, overP, hd]; rfl
      subst hb
      clear H
      go_enter Tryz.func27, Tryz.ntmps27
      go_wp2_with fail
      go_ret
      exact ⟨rfl, rfl⟩

set_option maxRecDepth 100000 in
set_option maxHeartbeats 4000000 in
theorem mterm_any (w0 : World) (p : Nat) (hp0 : w0.heap.size ≤ p) (m : Nat) : ∀ (o n : Int) (ks : List Tm) (l : Nat) (A : Option Addr) (c : Nat) (w : World) (d : Int) (s : Int × Bool) (s' : Int × Bool), ks.length = l → Tm.cnt (.mk o n ks) ≤ m → TOk w0 A c ks → Below w0.heap.size w0 w → Cs w p [.int .i64 s.1, .bool s.2] → 0 ≤ d → d ≤ 20 → 0 ≤ s.1 → s.1 + (Tm.cnt (.mk o n ks) : Nat) ≤ 100000 → Hid (mT (.mk o n ks) d s = s') →
    Calls Tryz.prog 28 #[.pointer (some ⟨p, 0, none⟩), .agg #[.int .i64 o, .int .i64 n, .slice A l c], .int .i64 d] w fun e w' => e = .returned (.tuple #[]) ∧ Fr (· = p) w w' ∧ Cs w' p [.int .i64 s'.1, .bool s'.2] := by
  induction m with
  | zero => intro o n ks l A c w d s s' _ h; have := Tm.cnt_pos (.mk o n ks); omega
  | succ m ih =>
    intro o n ks l A c w d s s' hl hm ht hb hc hd0 hd1 hs0 hs1 H
    obtain ⟨sn, sd⟩ := s
    simp only at hc hs0 hs1
    have IH := Lib.hid ih
    have HM : Hid (Tm.cntL ks ≤ m) := by show _ ≤ _; simp only [Tm.cnt] at hm; omega
    have HS1 : Hid (sn + 1 + (Tm.cntL ks : Nat) ≤ 100000) := by show _ ≤ _; simp only [Tm.cnt] at hs1; omega
    have hs1' : sn ≤ 100000 := by omega
    have HL := Lib.hid hl
    have HT := Lib.hid ht
    have hlm : l ≤ 9223372036854775807 := by have h1 := ht.1; have h2 := ht.2.1; unfold maxLen at h2; omega
    have hba := boxT_below w o n A l c
    have HB := Lib.hid (hb.trans (hba.mono hb.size))
    have HC := Lib.hid (hc.next hba)
    have HN := Lib.hid (boxT_cs w o n A l c)
    have HF : Hid (Fr (· = p) w (boxT w o n A l c)) := Lib.hid (Fr.of hba)
    have hw1 : IntKind.i64.wrap (sn + 1) = sn + 1 := IntWalk.i64_in _ (by omega)
    have HPN : Hid (w.heap.size ≠ p) := Lib.hid (by have := hc.lt; omega)
    obtain ⟨b1, hb1⟩ : ∃ b1, overP (stepM d (sn, sd)) = b1 := ⟨_, rfl⟩
    have HB1 := Lib.hid hb1
    have hmt : (if b1 = true then stepM d (sn, sd) else mTL ks (d + 1) (stepM d (sn, sd))) = s' := by
      rw [← H.out, mT, hb1]
    have HMT := Lib.hid hmt
    clear ih hm hl ht hb hc hba hb1 hmt H hs1
    have f0 := HC.out.free 0
    have f1 := HC.out.free 1
    have r0 := HC.out.at 0 _ rfl
    have r1 := HC.out.at 1 _ rfl
    go_enter Tryz.func28, Tryz.ntmps28
    go_upto_region 1 with fail
    unfold boxT at HC HN HF HB r0 r1 f0 f1
    obtain ⟨w1, hw1'⟩ : ∃ w1, w.alloc (.cells #[.int .i64 o, .int .i64 n, .slice A l c] 53) = w1 := ⟨_, rfl⟩
    rw [hw1'] at HC HN HF HB r0 r1 f0 f1
    rw [hw1']
    have hpl := HC.out.lt
    clear hw1'
    cases sd with
    | true =>
      have HDD : Hid ((true || decide (12 < d)) = true) := rfl
      go_upto_region 3 with fail
      have HC2 := Lib.hid ((HC.out.set 0 (.int .i64 (sn + 1)) (by simp)).set 1 (.bool true) (by simp))
      have HN2 := Lib.hid ((HN.out.other (p := ⟨p, 0, none⟩) (Ne.symm HPN.out) (.int .i64 (sn + 1))).other (p := ⟨p, 1, none⟩) (Ne.symm HPN.out) (.bool true))
      have HF2 := Lib.hid ((HF.out.setCell (p := ⟨p, 0, none⟩) rfl (.int .i64 (sn + 1))).setCell (p := ⟨p, 1, none⟩) rfl (.bool true))
      have HB2 := Lib.hid ((HB.out.setCell (p := ⟨p, 0, none⟩) hp0 (.int .i64 (sn + 1))).setCell (p := ⟨p, 1, none⟩) hp0 (.bool true))
      obtain ⟨w2, hw2⟩ : ∃ w2, (w1.setCell ⟨p, 0, none⟩ (.int .i64 (sn + 1))).setCell ⟨p, 1, none⟩ (.bool true) = w2 := ⟨_, rfl⟩
      rw [hw2] at HC2 HN2 HF2 HB2
      simp only [List.set] at HC2
      rw [hw2]
      clear hw2 HC HN HF HB r0 r1 f0 f1
      go_wp2_with fail
      go_at_call 27
      refine (over_b (sn + 1) true b1 p (by show _ = _; rw [← HB1.out]; exact congrArg overP (show ((sn + 1, true) : Int × Bool) = (sn + 1, _) from by rw [HDD.out])) _ HC2.out).mono ?_
      rintro e w3 ⟨rfl, rfl⟩
      cases b1 with
      | true =>
        have hs : s' = (sn + 1, true) := by rw [← HMT.out, if_pos rfl, stepM, HDD.out]
        subst hs
        clear HMT
        go_wp2_with fail
        go_returns
        exact ⟨rfl, HF2.out, HC2.out⟩
      | false =>
        have := HB1.out
        unfold overP stepM at this
        rw [HDD.out] at this
        simp at this
    | false =>
      by_cases hdp : 12 < d
      · have hdd : decide (12 < d) = true := decide_eq_true hdp
        have HDD : Hid ((false || decide (12 < d)) = true) := by show _ = _; rw [hdd]; rfl
        go_upto_region 3 with fail
        have HC2 := Lib.hid ((HC.out.set 0 (.int .i64 (sn + 1)) (by simp)).set 1 (.bool true) (by simp))
        have HN2 := Lib.hid ((HN.out.other (p := ⟨p, 0, none⟩) (Ne.symm HPN.out) (.int .i64 (sn + 1))).other (p := ⟨p, 1, none⟩) (Ne.symm HPN.out) (.bool true))
        have HF2 := Lib.hid ((HF.out.setCell (p := ⟨p, 0, none⟩) rfl (.int .i64 (sn + 1))).setCell (p := ⟨p, 1, none⟩) rfl (.bool true))
        have HB2 := Lib.hid ((HB.out.setCell (p := ⟨p, 0, none⟩) hp0 (.int .i64 (sn + 1))).setCell (p := ⟨p, 1, none⟩) hp0 (.bool true))
        obtain ⟨w2, hw2⟩ : ∃ w2, (w1.setCell ⟨p, 0, none⟩ (.int .i64 (sn + 1))).setCell ⟨p, 1, none⟩ (.bool true) = w2 := ⟨_, rfl⟩
        rw [hw2] at HC2 HN2 HF2 HB2
        simp only [List.set] at HC2
        rw [hw2]
        clear hw2 HC HN HF HB r0 r1 f0 f1
        go_wp2_with fail
        go_at_call 27
        refine (over_b (sn + 1) true b1 p (by show _ = _; rw [← HB1.out]; exact congrArg overP (show ((sn + 1, true) : Int × Bool) = (sn + 1, _) from by rw [HDD.out])) _ HC2.out).mono ?_
        rintro e w3 ⟨rfl, rfl⟩
        cases b1 with
        | true =>
          have hs : s' = (sn + 1, true) := by rw [← HMT.out, if_pos rfl, stepM, HDD.out]
          subst hs
          clear HMT
          go_wp2_with fail
          go_returns
          exact ⟨rfl, HF2.out, HC2.out⟩
        | false =>
          have := HB1.out
          unfold overP stepM at this
          rw [HDD.out] at this
          simp at this
      · have hdd : decide (12 < d) = false := decide_eq_false hdp
        have HDD : Hid ((false || decide (12 < d)) = false) := by show _ = _; rw [hdd]; rfl
        go_upto_region 3 with fail
        have HC2 := Lib.hid ((HC.out.set 0 (.int .i64 (sn + 1)) (by simp)).set 1 (.bool false) (by simp))
        have HN2 := Lib.hid ((HN.out.other (p := ⟨p, 0, none⟩) (Ne.symm HPN.out) (.int .i64 (sn + 1))).other (p := ⟨p, 1, none⟩) (Ne.symm HPN.out) (.bool false))
        have HF2 := Lib.hid ((HF.out.setCell (p := ⟨p, 0, none⟩) rfl (.int .i64 (sn + 1))).setCell (p := ⟨p, 1, none⟩) rfl (.bool false))
        have HB2 := Lib.hid ((HB.out.setCell (p := ⟨p, 0, none⟩) hp0 (.int .i64 (sn + 1))).setCell (p := ⟨p, 1, none⟩) hp0 (.bool false))
        obtain ⟨w2, hw2⟩ : ∃ w2, (w1.setCell ⟨p, 0, none⟩ (.int .i64 (sn + 1))).setCell ⟨p, 1, none⟩ (.bool false) = w2 := ⟨_, rfl⟩
        rw [hw2] at HC2 HN2 HF2 HB2
        simp only [List.set] at HC2
        rw [hw2]
        clear hw2 HC HN HF HB r0 r1 f0 f1
        go_wp2_with fail
        go_at_call 27
        refine (over_b (sn + 1) false b1 p (by show _ = _; rw [← HB1.out]; exact congrArg overP (show ((sn + 1, false) : Int × Bool) = (sn + 1, _) from by rw [HDD.out])) _ HC2.out).mono ?_
        rintro e w3 ⟨rfl, rfl⟩
        cases b1 with
        | true =>
          have hs : s' = (sn + 1, false) := by rw [← HMT.out, if_pos rfl, stepM, HDD.out]
          subst hs
          clear HMT
          go_wp2_with fail
          go_returns
          exact ⟨rfl, HF2.out, HC2.out⟩
        | false =>
          have hds : d ≤ 12 := by
            have := HB1.out
            unfold overP stepM at this
            simp only [Bool.or_eq_false_iff, decide_eq_false_iff_not] at this
            omega
          have hwd : IntKind.i64.wrap (d + 1) = d + 1 := IntWalk.i64_in _ (by omega)
          have HMT' : Hid (mTL ks (d + 1) (sn + 1, false) = s') := by
            show _ = _
            have := HMT.out
            rw [if_neg (by decide)] at this
            rw [← this, stepM, HDD.out]
          clear HMT
          have n2 := HN2.out.at 2 _ rfl
          go_upto_region 5 with fail
          go_loopw [31] (fun v wr => ∃ (k : Nat) (s : Int × Bool), k ≤ l ∧ v = .int .i64 k ∧ Hid (mTL (ks.take k) (d + 1) (sn + 1, false) = s) ∧ Hid (Below w0.heap.size w0 wr) ∧ Hid (Fr (· = p) w wr) ∧ Hid (Cs wr p [.int .i64 s.1, .bool s.2])) (fun v _ => l - (intOf v).toNat)
          case atStart => exact ⟨0, (sn + 1, false), by omega, rfl, Lib.hid (by simp only [List.take_zero, mTL]), HB2, HF2, HC2⟩
          case round =>
            clear HB2 HF2 HC2 n2 HN2
            obtain ⟨k, s, hk, rfl, HS, HB, HF, HC⟩ := hrel
            by_cases hlt : k < l
            · have hkl : k < ks.length := by rw [HL.out]; exact hlt
              obtain ⟨o', n', ks', g, f, A', c', hkid, hA, hg, hok, k0, k1, k2⟩ := HT.out.kid k hkl
              subst hA
              have HHOK := Lib.hid hok
              obtain ⟨l', hl'⟩ : ∃ l', ks'.length = l' := ⟨_, rfl⟩
              rw [hl'] at k2
              have HL' := Lib.hid hl'
              have q0 := (HB.out.cell (p := ⟨g, _, none⟩) hg).trans k0
              have q1 := (HB.out.cell (p := ⟨g, _, none⟩) hg).trans k1
              have q2 := (HB.out.cell (p := ⟨g, _, none⟩) hg).trans k2
              have hgw : g < wr.heap.size := Nat.lt_of_lt_of_le hg HB.out.size
              have HKID := Lib.hid hkid
              have hcm : Tm.cnt (.mk o' n' ks') ≤ m := by have := Tm.cntL_get ks k hkl; rw [hkid] at this; exact Nat.le_trans this HM.out
              have HCM := Lib.hid hcm
              have hbd := mTL_cnt (ks.take k) (d + 1) (sn + 1, false)
              rw [HS.out] at hbd
              simp only at hbd
              have hct : Tm.cntL (ks.take k) + Tm.cnt (.mk o' n' ks') ≤ Tm.cntL ks := by
                rw [← hkid]
                have e : ks = ks.take k ++ ks[k] :: ks.drop (k + 1) := by rw [← List.drop_eq_getElem_cons hkl, List.take_append_drop]
                have h2 : Tm.cntL (ks.take k ++ ks[k] :: ks.drop (k + 1)) = Tm.cntL ks := by rw [← e]
                rw [Tm.cntL_app] at h2
                simp only [Tm.cntL] at h2
                omega
              have HSB : Hid (0 ≤ s.1 ∧ s.1 + (Tm.cnt (.mk o' n' ks') : Nat) ≤ 100000) := by have := HS1.out; exact Lib.hid (by omega)
              obtain ⟨s2, hs2⟩ : ∃ s2, mT (.mk o' n' ks') (d + 1) s = s2 := ⟨_, rfl⟩
              have HS2 := Lib.hid hs2
              have HS' : Hid (mTL (ks.take (k + 1)) (d + 1) (sn + 1, false) = s2) := by
                show _ = _
                rw [mTL_take ks _ _ k hkl, HS.out, hkid, hs2]
              have hba := (Below.refl wr.heap.size wr).alloc (Nat.le_refl _) (.cells #[.int .i64 o', .int .i64 n', .slice A' l' c'] 53)
              have HB4 := Lib.hid (HB.out.trans (hba.mono HB.out.size))
              have HC4 := Lib.hid (HC.out.next hba)
              have HF4 := Lib.hid (HF.out.alloc (.cells #[.int .i64 o', .int .i64 n', .slice A' l' c'] 53))
              have hlt' : (k : Int) < (l : Int) := by omega
              have hp0b : p < wr.heap.size := HC.out.lt
              clear hba hok hkid hl' hcm hbd hct hs2 k0 k1 k2 hg HS HB HF HC
              go_wp2_with fail
              go_at_call 28
              refine (IH.out o' n' ks' l' A' c' _ (d + 1) s s2 HL'.out HCM.out HHOK.out HB4.out HC4.out (by omega) (by omega) HSB.out.1 HSB.out.2 HS2).mono ?_
              rintro e w5 ⟨rfl, hf5, hc5⟩
              have HF5 := Lib.hid (HF4.out.trans hf5)
              have HB5 := Lib.hid (hf5.below HB4.out (fun k e => by rw [e]; exact hp0) HB4.out.size)
              have HC5 := Lib.hid hc5
              clear hf5 hc5
              go_wp2_with fail
              go_roundw
              case rel => exact ⟨k + 1, s2, by omega, by go_num, HS', HB5, HF5, HC5⟩
              case measure => simp [intOf]; omega
            · obtain rfl : k = l := by omega
              have hs : s = s' := by rw [← HS.out, ← HMT'.out, List.take_of_length_le (by rw [HL.out]; exact Nat.le_refl _)]
              subst hs
              clear HS HMT'
              go_wp2_with fail
              go_returns
              exact ⟨rfl, HF.out, HC.out⟩
end Go.Proofs.YtjpjmoejdkmglaaGreat
