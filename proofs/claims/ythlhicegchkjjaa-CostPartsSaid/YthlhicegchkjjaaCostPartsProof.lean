/-
  CostParts: the cost of an operator with two operands is the sum of their costs and of its own, which is its cost with literals. No condition.
-/
import Derived.Test.YthlhicegchkjjaaCoM
namespace Go.Proofs.Ythlhicegchkjjaa
open Go.RowKit Go.ChangeShapes Go.WideShapes Go.ChangeAt Go.Joins Go.Deep

namespace ET
theorem check_0 {e : ET} (h : check e = 0) : cnt e ≤ 1024 ∧ dep e ≤ 12 ∧ formB e = true ∧ namesB e = true ∧ numsB e = true := by
  unfold check at h
  by_cases h0 : 1024 < cnt e ∨ 12 < dep e
  · rw [if_pos h0] at h; exact absurd h (by decide)
  · rw [if_neg h0] at h
    by_cases h1 : formB e = true
    · rw [if_pos h1] at h
      by_cases h2 : namesB e = true
      · rw [if_pos h2] at h
        by_cases h3 : numsB e = true
        · exact ⟨by omega, by omega, h1, h2, h3⟩
        · rw [if_neg h3] at h; exact absurd h (by decide)
      · rw [if_neg h2] at h; exact absurd h (by decide)
    · rw [if_neg h1] at h; exact absurd h (by decide)
theorem check_1 {e : ET} (h0 : cnt e ≤ 1024) (h1 : dep e ≤ 12) (h2 : formB e = true) (h3 : namesB e = true) (h4 : numsB e = true) : check e = 0 := by
  unfold check
  rw [if_neg (by omega), if_pos h2, if_pos h3, if_pos h4]
def lit (n : Int) : ET := .mk 0 n ⟨#[]⟩ []
theorem kids2 {op : Int} {a b : ET} (h : check (.mk op 0 ⟨#[]⟩ [a, b]) = 0) (h5 : ¬ op = 5) : check a = 0 ∧ check b = 0 ∧ check (.mk op 0 ⟨#[]⟩ [lit 0, lit 1]) = 0 := by
  obtain ⟨h0, h1, h2, h3, h4⟩ := check_0 h
  simp only [cnt, cntL] at h0
  simp only [dep, depL] at h1
  have g2 : nodeForm (.mk op 0 ⟨#[]⟩ [a, b]) = true ∧ formB a = true ∧ formB b = true := by
    rw [formB.eq_def] at h2
    simp only [formL, Bool.and_eq_true, and_true] at h2
    exact ⟨h2.1, h2.2.1, h2.2.2⟩
  have g3 : namesB a = true ∧ namesB b = true := by
    rw [namesB.eq_def] at h3
    simp only [namesL, Bool.and_eq_true, and_true] at h3
    exact h3.2
  have g4 : numsB a = true ∧ numsB b = true := by
    rw [numsB.eq_def] at h4
    simp only [numsL, Bool.and_eq_true, and_true] at h4
    exact h4.2
  refine ⟨check_1 (by omega) (by omega) g2.2.1 g3.1 g4.1, check_1 (by omega) (by omega) g2.2.2 g3.2 g4.2, ?_⟩
  have ha : arity op = 2 := by
    have := g2.1
    simp only [nodeForm, Bool.and_eq_true, decide_eq_true_eq] at this
    simpa using this.1
  have hop : 8 ≤ op ∧ op ≤ 22 := by
    unfold arity at ha
    by_cases k0 : op = 0 ∨ op = 1 ∨ op = 2 ∨ op = 3
    · rw [if_pos k0] at ha; exact absurd ha (by decide)
    · rw [if_neg k0] at ha
      by_cases k1 : op = 4 ∨ op = 6 ∨ op = 7
      · rw [if_pos k1] at ha; exact absurd ha (by decide)
      · rw [if_neg k1] at ha
        by_cases k2 : op = 5 ∨ (8 ≤ op ∧ op ≤ 22)
        · omega
        · rw [if_neg k2] at ha
          by_cases k3 : op = 23
          · rw [if_pos k3] at ha; exact absurd ha (by decide)
          · rw [if_neg k3] at ha; exact absurd ha (by decide)
  have n3 : ¬ op = 3 := by omega
  have n4 : ¬ op = 4 := by omega
  have n0 : ¬ op = 0 := by omega
  refine check_1 (by simp [cnt, cntL, lit]) (by simp [dep, depL, lit]) ?_ ?_ ?_
  · rw [formB.eq_def]
    simp only [formL, Bool.and_eq_true, and_true]
    refine ⟨?_, by decide, by decide⟩
    simp only [nodeForm, ha, n3, n4, h5, decide_true, decide_false, Bool.or_false, Bool.not_false, Bool.true_or, Bool.or_true]
    rfl
  · rw [namesB.eq_def]
    simp only [n3, n4, namesL, decide_false, Bool.or_self, Bool.not_false, Bool.true_or, Bool.true_and, Bool.and_true]
    decide
  · rw [numsB.eq_def]
    simp only [n0, numsL, decide_false, Bool.not_false, Bool.true_or, Bool.true_and, Bool.and_true]
    decide
end ET
namespace CM
theorem exprR_0 {C : CM} {e : ET} {x k : Int} (h : C.exprR e = (x, k)) : (k = 0 → wf C [e] = 0 ∧ x = C.sum e) ∧ (¬ k = 0 → x = 0) := by
  unfold exprR at h
  by_cases hw : wf C [e] = 0
  · rw [if_pos hw] at h
    obtain ⟨rfl, rfl⟩ := pair_eq h
    exact ⟨fun _ => ⟨hw, rfl⟩, fun hk => absurd rfl hk⟩
  · rw [if_neg hw] at h
    obtain ⟨rfl, rfl⟩ := pair_eq h
    exact ⟨fun hk => absurd hk hw, fun _ => rfl⟩
theorem wf_one {C : CM} {e : ET} : wf C [e] = 0 ↔ C.chk = 0 ∧ ET.check e = 0 := by
  unfold wf
  by_cases h : C.chk = 0
  · rw [if_pos h]
    simp only [codes, h, true_and]
    by_cases he : ET.check e = 0
    · simp [he]
    · rw [if_neg he]; omega
  · rw [if_neg h]
    constructor
    · intro h3; exact absurd h3 (by decide)
    · intro h3; exact absurd h3.1 h
theorem exprR_1 {C : CM} {e : ET} (h : C.chk = 0) (he : ET.check e = 0) : C.exprR e = (C.sum e, 0) := by
  unfold exprR
  rw [if_pos (wf_one.2 ⟨h, he⟩)]
theorem parts {C : CM} {op : Int} {a b : ET} {x : Int} (h : C.exprR (.mk op 0 ⟨#[]⟩ [a, b]) = (x, 0)) (h5 : ¬ op = 5) :
    C.exprR a = (C.sum a, 0) ∧ C.exprR b = (C.sum b, 0) ∧ C.exprR (.mk op 0 ⟨#[]⟩ [ET.lit 0, ET.lit 1]) = (C.node op, 0) ∧ x = C.sum a + C.sum b + C.node op := by
  obtain ⟨hw, hx⟩ := (exprR_0 h).1 rfl
  obtain ⟨hc, he⟩ := wf_one.1 hw
  obtain ⟨ka, kb, kl⟩ := ET.kids2 he h5
  have hn : C.sum (.mk op 0 ⟨#[]⟩ [ET.lit 0, ET.lit 1]) = C.node op := by
    have h0 : C.node 0 = 0 := rfl
    simp only [sum, sumL, ET.lit, h0]; omega
  refine ⟨exprR_1 hc ka, exprR_1 hc kb, by rw [exprR_1 hc kl, hn], ?_⟩
  rw [hx]; simp only [sum, sumL]; omega
end CM
section
variable {H : Type} {enc : TypeId × Value → H} {w : World} {base : Nat} {spare : Nat → Bool} {held : Bool}
theorem open_two {r : Reach} {b0 : Nat} {v : Value} {d : DataW H} {p : List MemPlace} (hv : Value.okWide Try.prog w r b0 34 v) (h : DataW.Trod enc Try.prog w base spare held 34 v d p) :
    ∃ (o n : Int) (s : ByteArray) (A : Option Addr) (l c : Nat) (ks : List ET) (o2 n2 : Int) (s2 : ByteArray) (A2 : Option Addr) (l2 c2 : Nat) (ks2 : List ET),
      v = .agg #[.int .i64 o, .int .i64 n, .string s, .slice A l c, .int .i64 o2, .int .i64 n2, .string s2, .slice A2 l2 c2] ∧ ks.length = l ∧ EOk w s A c ks ∧ ks2.length = l2 ∧ EOk w s2 A2 c2 ks2 := by
  have hv' := hv
  simp only [Value.okWide, Try.underlying34] at hv'
  obtain ⟨cs, rfl, hsz, _⟩ := hv'
  obtain ⟨fuel, hf⟩ := h
  obtain ⟨cs⟩ := cs
  have hsz' : cs.length = 8 := hsz.trans (by kernel_rfl)
  match cs, hsz' with
  | [v0, v1, v2, v3, v4, v5, v6, v7], _ =>
    obtain ⟨xs, n', hn', _, _, hxl, hfs⟩ := DataW.trod_array (cs := [v0, v1, v2, v3, v4, v5, v6, v7]) Try.underlying34 (by simpa [Value.cells] using hf)
    match xs, hxl with
    | [y0, y1], _ =>
      have t0 := hfs 0 (by omega)
      have t1 := hfs 1 (by omega)
      rw [show Try.prog.cellsOf 27 = 4 from by kernel_rfl] at t0 t1
      change DataW.trod enc Try.prog w base spare held n' 27 [v0, v1, v2, v3] = some y0 at t0
      change DataW.trod enc Try.prog w base spare held n' 27 [v4, v5, v6, v7] = some y1 at t1
      obtain ⟨o, n, s, m, y, rfl, rfl, rfl, hs, _, hk⟩ := ex4 t0
      obtain ⟨A, l, c, ks, rfl, hkl, hok⟩ := kd_of m _ _ hk
      obtain ⟨o2, n2, s2, m2, y', rfl, rfl, rfl, hs2, _, hk2⟩ := ex4 t1
      obtain ⟨A2, l2, c2, ks2, rfl, hkl2, hok2⟩ := kd_of m2 _ _ hk2
      exact ⟨o, n, s, A, l, c, ks, o2, n2, s2, A2, l2, c2, ks2, rfl, hkl, ⟨hs, hok.2.1, hok.2.2.1, hok.2.2.2⟩, hkl2, ⟨hs2, hok2.2.1, hok2.2.2.1, hok2.2.2.2⟩⟩
end

set_option maxRecDepth 100000 in
set_option maxHeartbeats 20000000 in
theorem parts_walk (C : CM) (op o n : Int) (s : ByteArray) (ks : List ET) (A : Option Addr) (c l : Nat) (o2 n2 : Int) (s2 : ByteArray) (ks2 : List ET) (A2 : Option Addr) (c2 l2 : Nat) (w : World) (hm : ML w) (hl : ks.length = l) (hE : EOk w s A c ks) (hl2 : ks2.length = l2) (hE2 : EOk w s2 A2 c2 ks2) :
    Calls Try.prog 4 #[.agg #[.int .i64 C.c0, .int .i64 C.c1, .int .i64 C.c2, .int .i64 C.c3, .int .i64 C.c4, .int .i64 C.c5, .int .i64 C.c6, .int .i64 C.c7, .int .i64 C.c8, .int .i64 C.c9, .int .i64 C.c10, .int .i64 C.c11, .int .i64 C.c12], .int .i64 op, .agg #[.int .i64 o, .int .i64 n, .string s, .slice A l c, .int .i64 o2, .int .i64 n2, .string s2, .slice A2 l2 c2]] w fun e w' => e = .returned (.bool true) ∧ Below w.heap.size w w' := by
  obtain ⟨f1, hf1⟩ : ∃ b, decide (0 ≤ ET.left (.mk o n s ks) 300) = b := ⟨_, rfl⟩
  obtain ⟨f2, hf2⟩ : ∃ b, decide (0 ≤ ET.left (.mk o2 n2 s2 ks2) 300) = b := ⟨_, rfl⟩
  have HF1 := Lib.hid hf1
  have HF2 := Lib.hid hf2
  have HE := Lib.hid (And.intro hE hE2)
  have HL := Lib.hid (And.intro hl hl2)
  have HML := Lib.hid hm
  have X0 := Lib.hid (bq w C #[.int .i64 o, .int .i64 n, .string s, .slice A l c, .int .i64 o2, .int .i64 n2, .string s2, .slice A2 l2 c2] 23 34)
  clear hE hl hm hf1 hE2 hl2 hf2
  cases f1
  · go_enter Try.func4, Try.ntmps4
    go_wp2_with fail
    refine (known_t _ (HML.out.below HML.out.pos X0.out.below)).mono ?_
    rintro e w1 ⟨rfl, hb⟩
    have X1 := Lib.hid (X0.out.next hb)
    clear hb X0
    have k0 := X1.out.cb.cell 0 _ rfl
    have k1 := X1.out.cb.cell 1 _ rfl
    have k2 := X1.out.cb.cell 2 _ rfl
    have k3 := X1.out.cb.cell 3 _ rfl
    have k4 := X1.out.cb.cell 4 _ rfl
    have k5 := X1.out.cb.cell 5 _ rfl
    have k6 := X1.out.cb.cell 6 _ rfl
    have k7 := X1.out.cb.cell 7 _ rfl
    have k8 := X1.out.cb.cell 8 _ rfl
    have k9 := X1.out.cb.cell 9 _ rfl
    have k10 := X1.out.cb.cell 10 _ rfl
    have k11 := X1.out.cb.cell 11 _ rfl
    have k12 := X1.out.cb.cell 12 _ rfl
    have p0 := X1.out.pb.cell 0 _ rfl
    have p1 := X1.out.pb.cell 1 _ rfl
    have p2 := X1.out.pb.cell 2 _ rfl
    have p3 := X1.out.pb.cell 3 _ rfl
    have p4 := X1.out.pb.cell 4 _ rfl
    have p5 := X1.out.pb.cell 5 _ rfl
    have p6 := X1.out.pb.cell 6 _ rfl
    have p7 := X1.out.pb.cell 7 _ rfl
    go_wp2_with fail
    refine (few_b o n s ks A c l _ HL.out.1 HF1 _ (HE.out.1.below X1.out.below)).mono ?_
    rintro e w2 ⟨rfl, hb⟩
    have X2 := Lib.hid (X1.out.next hb)
    clear hb X1
    go_wp2_with fail
    go_ret
    exact ⟨rfl, X2.out.below⟩
  · cases f2
    · go_enter Try.func4, Try.ntmps4
      go_wp2_with fail
      refine (known_t _ (HML.out.below HML.out.pos X0.out.below)).mono ?_
      rintro e w1 ⟨rfl, hb⟩
      have X1 := Lib.hid (X0.out.next hb)
      clear hb X0
      have k0 := X1.out.cb.cell 0 _ rfl
      have k1 := X1.out.cb.cell 1 _ rfl
      have k2 := X1.out.cb.cell 2 _ rfl
      have k3 := X1.out.cb.cell 3 _ rfl
      have k4 := X1.out.cb.cell 4 _ rfl
      have k5 := X1.out.cb.cell 5 _ rfl
      have k6 := X1.out.cb.cell 6 _ rfl
      have k7 := X1.out.cb.cell 7 _ rfl
      have k8 := X1.out.cb.cell 8 _ rfl
      have k9 := X1.out.cb.cell 9 _ rfl
      have k10 := X1.out.cb.cell 10 _ rfl
      have k11 := X1.out.cb.cell 11 _ rfl
      have k12 := X1.out.cb.cell 12 _ rfl
      have p0 := X1.out.pb.cell 0 _ rfl
      have p1 := X1.out.pb.cell 1 _ rfl
      have p2 := X1.out.pb.cell 2 _ rfl
      have p3 := X1.out.pb.cell 3 _ rfl
      have p4 := X1.out.pb.cell 4 _ rfl
      have p5 := X1.out.pb.cell 5 _ rfl
      have p6 := X1.out.pb.cell 6 _ rfl
      have p7 := X1.out.pb.cell 7 _ rfl
      go_wp2_with fail
      refine (few_b o n s ks A c l _ HL.out.1 HF1 _ (HE.out.1.below X1.out.below)).mono ?_
      rintro e w2 ⟨rfl, hb⟩
      have X2 := Lib.hid (X1.out.next hb)
      clear hb X1 k0 k1 k2 k3 k4 k5 k6 k7 k8 k9 k10 k11 k12 p0 p1 p2 p3 p4 p5 p6 p7
      have k0 := X2.out.cb.cell 0 _ rfl
      have k1 := X2.out.cb.cell 1 _ rfl
      have k2 := X2.out.cb.cell 2 _ rfl
      have k3 := X2.out.cb.cell 3 _ rfl
      have k4 := X2.out.cb.cell 4 _ rfl
      have k5 := X2.out.cb.cell 5 _ rfl
      have k6 := X2.out.cb.cell 6 _ rfl
      have k7 := X2.out.cb.cell 7 _ rfl
      have k8 := X2.out.cb.cell 8 _ rfl
      have k9 := X2.out.cb.cell 9 _ rfl
      have k10 := X2.out.cb.cell 10 _ rfl
      have k11 := X2.out.cb.cell 11 _ rfl
      have k12 := X2.out.cb.cell 12 _ rfl
      have p0 := X2.out.pb.cell 0 _ rfl
      have p1 := X2.out.pb.cell 1 _ rfl
      have p2 := X2.out.pb.cell 2 _ rfl
      have p3 := X2.out.pb.cell 3 _ rfl
      have p4 := X2.out.pb.cell 4 _ rfl
      have p5 := X2.out.pb.cell 5 _ rfl
      have p6 := X2.out.pb.cell 6 _ rfl
      have p7 := X2.out.pb.cell 7 _ rfl
      go_wp2_with fail
      refine (few_b o2 n2 s2 ks2 A2 c2 l2 _ HL.out.2 HF2 _ (HE.out.2.below X2.out.below)).mono ?_
      rintro e w3 ⟨rfl, hb⟩
      have X3 := Lib.hid (X2.out.next hb)
      clear hb X2 k0 k1 k2 k3 k4 k5 k6 k7 k8 k9 k10 k11 k12 p0 p1 p2 p3 p4 p5 p6 p7
      go_wp2_with fail
      go_ret
      exact ⟨rfl, X3.out.below⟩
    · have hf := ET.few (of_decide_eq_true HF1.out)
      have hg := ET.few (of_decide_eq_true HF2.out)
      have HC : Hid (ET.cnt (.mk o n s ks) ≤ 1000000 ∧ ET.dep (.mk o n s ks) ≤ 1000000 ∧ ET.cnt (.mk o2 n2 s2 ks2) ≤ 1000000 ∧ ET.dep (.mk o2 n2 s2 ks2) ≤ 1000000) := ⟨by omega, by omega, by omega, by omega⟩
      have HD : Hid (ET.cnt (.mk op 0 ⟨#[]⟩ [.mk o n s ks, .mk o2 n2 s2 ks2]) ≤ 1000000 ∧ ET.dep (.mk op 0 ⟨#[]⟩ [.mk o n s ks, .mk o2 n2 s2 ks2]) ≤ 1000000) := by
        have h1 : ET.cnt (.mk op 0 ⟨#[]⟩ [.mk o n s ks, .mk o2 n2 s2 ks2]) = 1 + (ET.cnt (.mk o n s ks) + (ET.cnt (.mk o2 n2 s2 ks2) + 0)) := rfl
        have h2 := ET.dep_cnt (.mk op 0 ⟨#[]⟩ [.mk o n s ks, .mk o2 n2 s2 ks2])
        exact ⟨by omega, by omega⟩
      obtain ⟨⟨x, k⟩, hx⟩ : ∃ r, C.exprR (.mk op 0 ⟨#[]⟩ [.mk o n s ks, .mk o2 n2 s2 ks2]) = r := ⟨_, rfl⟩
      have HX := Lib.hid hx
      clear hf hg
      by_cases hk : k = 0
      · subst hk
        by_cases h5 : op = 5
        · subst h5
          clear hx
          go_enter Try.func4, Try.ntmps4
          go_wp2_with fail
          refine (known_t _ (HML.out.below HML.out.pos X0.out.below)).mono ?_
          rintro e w1 ⟨rfl, hb⟩
          have X1 := Lib.hid (X0.out.next hb)
          clear hb X0
          have k0 := X1.out.cb.cell 0 _ rfl
          have k1 := X1.out.cb.cell 1 _ rfl
          have k2 := X1.out.cb.cell 2 _ rfl
          have k3 := X1.out.cb.cell 3 _ rfl
          have k4 := X1.out.cb.cell 4 _ rfl
          have k5 := X1.out.cb.cell 5 _ rfl
          have k6 := X1.out.cb.cell 6 _ rfl
          have k7 := X1.out.cb.cell 7 _ rfl
          have k8 := X1.out.cb.cell 8 _ rfl
          have k9 := X1.out.cb.cell 9 _ rfl
          have k10 := X1.out.cb.cell 10 _ rfl
          have k11 := X1.out.cb.cell 11 _ rfl
          have k12 := X1.out.cb.cell 12 _ rfl
          have p0 := X1.out.pb.cell 0 _ rfl
          have p1 := X1.out.pb.cell 1 _ rfl
          have p2 := X1.out.pb.cell 2 _ rfl
          have p3 := X1.out.pb.cell 3 _ rfl
          have p4 := X1.out.pb.cell 4 _ rfl
          have p5 := X1.out.pb.cell 5 _ rfl
          have p6 := X1.out.pb.cell 6 _ rfl
          have p7 := X1.out.pb.cell 7 _ rfl
          go_wp2_with fail
          refine (few_b o n s ks A c l _ HL.out.1 HF1 _ (HE.out.1.below X1.out.below)).mono ?_
          rintro e w2 ⟨rfl, hb⟩
          have X2 := Lib.hid (X1.out.next hb)
          clear hb X1 k0 k1 k2 k3 k4 k5 k6 k7 k8 k9 k10 k11 k12 p0 p1 p2 p3 p4 p5 p6 p7
          have k0 := X2.out.cb.cell 0 _ rfl
          have k1 := X2.out.cb.cell 1 _ rfl
          have k2 := X2.out.cb.cell 2 _ rfl
          have k3 := X2.out.cb.cell 3 _ rfl
          have k4 := X2.out.cb.cell 4 _ rfl
          have k5 := X2.out.cb.cell 5 _ rfl
          have k6 := X2.out.cb.cell 6 _ rfl
          have k7 := X2.out.cb.cell 7 _ rfl
          have k8 := X2.out.cb.cell 8 _ rfl
          have k9 := X2.out.cb.cell 9 _ rfl
          have k10 := X2.out.cb.cell 10 _ rfl
          have k11 := X2.out.cb.cell 11 _ rfl
          have k12 := X2.out.cb.cell 12 _ rfl
          have p0 := X2.out.pb.cell 0 _ rfl
          have p1 := X2.out.pb.cell 1 _ rfl
          have p2 := X2.out.pb.cell 2 _ rfl
          have p3 := X2.out.pb.cell 3 _ rfl
          have p4 := X2.out.pb.cell 4 _ rfl
          have p5 := X2.out.pb.cell 5 _ rfl
          have p6 := X2.out.pb.cell 6 _ rfl
          have p7 := X2.out.pb.cell 7 _ rfl
          go_wp2_with fail
          refine (few_b o2 n2 s2 ks2 A2 c2 l2 _ HL.out.2 HF2 _ (HE.out.2.below X2.out.below)).mono ?_
          rintro e w3 ⟨rfl, hb⟩
          have X3 := Lib.hid (X2.out.next hb)
          clear hb X2 k0 k1 k2 k3 k4 k5 k6 k7 k8 k9 k10 k11 k12 p0 p1 p2 p3 p4 p5 p6 p7
          have k0 := X3.out.cb.cell 0 _ rfl
          have k1 := X3.out.cb.cell 1 _ rfl
          have k2 := X3.out.cb.cell 2 _ rfl
          have k3 := X3.out.cb.cell 3 _ rfl
          have k4 := X3.out.cb.cell 4 _ rfl
          have k5 := X3.out.cb.cell 5 _ rfl
          have k6 := X3.out.cb.cell 6 _ rfl
          have k7 := X3.out.cb.cell 7 _ rfl
          have k8 := X3.out.cb.cell 8 _ rfl
          have k9 := X3.out.cb.cell 9 _ rfl
          have k10 := X3.out.cb.cell 10 _ rfl
          have k11 := X3.out.cb.cell 11 _ rfl
          have k12 := X3.out.cb.cell 12 _ rfl
          have p0 := X3.out.pb.cell 0 _ rfl
          have p1 := X3.out.pb.cell 1 _ rfl
          have p2 := X3.out.pb.cell 2 _ rfl
          have p3 := X3.out.pb.cell 3 _ rfl
          have p4 := X3.out.pb.cell 4 _ rfl
          have p5 := X3.out.pb.cell 5 _ rfl
          have p6 := X3.out.pb.cell 6 _ rfl
          have p7 := X3.out.pb.cell 7 _ rfl
          go_wp2_with fail
          have XB : Hid (Bq w (w3.alloc (.cells #[.int .i64 o, .int .i64 n, .string s, .slice A l c, .int .i64 o2, .int .i64 n2, .string s2, .slice A2 l2 c2] 27)) C #[.int .i64 o, .int .i64 n, .string s, .slice A l c, .int .i64 o2, .int .i64 n2, .string s2, .slice A2 l2 c2].toList) := X3.out.next ((Below.refl _ _).alloc (Nat.le_refl _) _)
          have HLO : Hid (LOk (w3.alloc (.cells #[.int .i64 o, .int .i64 n, .string s, .slice A l c, .int .i64 o2, .int .i64 n2, .string s2, .slice A2 l2 c2] 27)) (some ⟨w3.heap.size, 0, none⟩) 2 [.mk o n s ks, .mk o2 n2 s2 ks2]) := (show Cs (w3.alloc (.cells #[.int .i64 o, .int .i64 n, .string s, .slice A l c, .int .i64 o2, .int .i64 n2, .string s2, .slice A2 l2 c2] 27)) w3.heap.size [.int .i64 o, .int .i64 n, .string s, .slice A l c, .int .i64 o2, .int .i64 n2, .string s2, .slice A2 l2 c2] from Cs.new w3 #[.int .i64 o, .int .i64 n, .string s, .slice A l c, .int .i64 o2, .int .i64 n2, .string s2, .slice A2 l2 c2] 27).lok HL.out.1 HL.out.2 (HE.out.1.below XB.out.below) (HE.out.2.below XB.out.below)
          refine (expr_b C 5 0 ⟨#[]⟩ [.mk o n s ks, .mk o2 n2 s2 ks2] (some ⟨w3.heap.size, 0, none⟩) 2 2 x 0 _ (HML.out.below HML.out.pos XB.out.below) rfl HD.out.1 HD.out.2 HLO.out HX).mono ?_
          rintro e w4 ⟨rfl, hb⟩
          have X4 := Lib.hid (XB.out.next hb)
          clear hb X3 XB HLO k0 k1 k2 k3 k4 k5 k6 k7 k8 k9 k10 k11 k12 p0 p1 p2 p3 p4 p5 p6 p7
          go_wp2_with fail
          all_goals
            go_ret
            exact ⟨rfl, X4.out.below⟩
        · obtain ⟨q1, q2, q3, q4⟩ := CM.parts hx h5
          have hok := (CM.exprR_ok hx HD.out.1).1
          have r1 := CM.sum_range hok (.mk o n s ks)
          have r2 := CM.sum_range hok (.mk o2 n2 s2 ks2)
          have r3 := CM.node_range hok op
          obtain ⟨a, ha⟩ : ∃ a, C.sum (.mk o n s ks) = a := ⟨_, rfl⟩
          obtain ⟨b, hb0⟩ : ∃ a, C.sum (.mk o2 n2 s2 ks2) = a := ⟨_, rfl⟩
          obtain ⟨d, hd0⟩ : ∃ a, C.node op = a := ⟨_, rfl⟩
          rw [ha] at q1 q4 r1
          rw [hb0] at q2 q4 r2
          rw [hd0] at q3 q4 r3
          subst q4
          have hc1 := HC.out.1
          have hc2 := HC.out.2.2.1
          have HQ1 := Lib.hid q1
          have HQ2 := Lib.hid q2
          have HQ3 := Lib.hid q3
          have b1 : 0 ≤ a ∧ a ≤ 100000000 := ⟨r1.1, by omega⟩
          have b2 : 0 ≤ b ∧ b ≤ 100000000 := ⟨r2.1, by omega⟩
          obtain ⟨b11, b12⟩ := b1
          obtain ⟨b21, b22⟩ := b2
          obtain ⟨b31, b32⟩ := r3
          have j5 : (op == 5) = false := by rw [beq_eq_false_iff_ne]; exact h5
          clear hx q1 q2 q3 r1 r2 hc1 hc2 ha hb0 hd0 hok h5
          go_enter Try.func4, Try.ntmps4
          go_wp2_with fail
          refine (known_t _ (HML.out.below HML.out.pos X0.out.below)).mono ?_
          rintro e w1 ⟨rfl, hb⟩
          have X1 := Lib.hid (X0.out.next hb)
          clear hb X0
          have k0 := X1.out.cb.cell 0 _ rfl
          have k1 := X1.out.cb.cell 1 _ rfl
          have k2 := X1.out.cb.cell 2 _ rfl
          have k3 := X1.out.cb.cell 3 _ rfl
          have k4 := X1.out.cb.cell 4 _ rfl
          have k5 := X1.out.cb.cell 5 _ rfl
          have k6 := X1.out.cb.cell 6 _ rfl
          have k7 := X1.out.cb.cell 7 _ rfl
          have k8 := X1.out.cb.cell 8 _ rfl
          have k9 := X1.out.cb.cell 9 _ rfl
          have k10 := X1.out.cb.cell 10 _ rfl
          have k11 := X1.out.cb.cell 11 _ rfl
          have k12 := X1.out.cb.cell 12 _ rfl
          have p0 := X1.out.pb.cell 0 _ rfl
          have p1 := X1.out.pb.cell 1 _ rfl
          have p2 := X1.out.pb.cell 2 _ rfl
          have p3 := X1.out.pb.cell 3 _ rfl
          have p4 := X1.out.pb.cell 4 _ rfl
          have p5 := X1.out.pb.cell 5 _ rfl
          have p6 := X1.out.pb.cell 6 _ rfl
          have p7 := X1.out.pb.cell 7 _ rfl
          go_wp2_with fail
          refine (few_b o n s ks A c l _ HL.out.1 HF1 _ (HE.out.1.below X1.out.below)).mono ?_
          rintro e w2 ⟨rfl, hb⟩
          have X2 := Lib.hid (X1.out.next hb)
          clear hb X1 k0 k1 k2 k3 k4 k5 k6 k7 k8 k9 k10 k11 k12 p0 p1 p2 p3 p4 p5 p6 p7
          have k0 := X2.out.cb.cell 0 _ rfl
          have k1 := X2.out.cb.cell 1 _ rfl
          have k2 := X2.out.cb.cell 2 _ rfl
          have k3 := X2.out.cb.cell 3 _ rfl
          have k4 := X2.out.cb.cell 4 _ rfl
          have k5 := X2.out.cb.cell 5 _ rfl
          have k6 := X2.out.cb.cell 6 _ rfl
          have k7 := X2.out.cb.cell 7 _ rfl
          have k8 := X2.out.cb.cell 8 _ rfl
          have k9 := X2.out.cb.cell 9 _ rfl
          have k10 := X2.out.cb.cell 10 _ rfl
          have k11 := X2.out.cb.cell 11 _ rfl
          have k12 := X2.out.cb.cell 12 _ rfl
          have p0 := X2.out.pb.cell 0 _ rfl
          have p1 := X2.out.pb.cell 1 _ rfl
          have p2 := X2.out.pb.cell 2 _ rfl
          have p3 := X2.out.pb.cell 3 _ rfl
          have p4 := X2.out.pb.cell 4 _ rfl
          have p5 := X2.out.pb.cell 5 _ rfl
          have p6 := X2.out.pb.cell 6 _ rfl
          have p7 := X2.out.pb.cell 7 _ rfl
          go_wp2_with fail
          refine (few_b o2 n2 s2 ks2 A2 c2 l2 _ HL.out.2 HF2 _ (HE.out.2.below X2.out.below)).mono ?_
          rintro e w3 ⟨rfl, hb⟩
          have X3 := Lib.hid (X2.out.next hb)
          clear hb X2 k0 k1 k2 k3 k4 k5 k6 k7 k8 k9 k10 k11 k12 p0 p1 p2 p3 p4 p5 p6 p7
          have k0 := X3.out.cb.cell 0 _ rfl
          have k1 := X3.out.cb.cell 1 _ rfl
          have k2 := X3.out.cb.cell 2 _ rfl
          have k3 := X3.out.cb.cell 3 _ rfl
          have k4 := X3.out.cb.cell 4 _ rfl
          have k5 := X3.out.cb.cell 5 _ rfl
          have k6 := X3.out.cb.cell 6 _ rfl
          have k7 := X3.out.cb.cell 7 _ rfl
          have k8 := X3.out.cb.cell 8 _ rfl
          have k9 := X3.out.cb.cell 9 _ rfl
          have k10 := X3.out.cb.cell 10 _ rfl
          have k11 := X3.out.cb.cell 11 _ rfl
          have k12 := X3.out.cb.cell 12 _ rfl
          have p0 := X3.out.pb.cell 0 _ rfl
          have p1 := X3.out.pb.cell 1 _ rfl
          have p2 := X3.out.pb.cell 2 _ rfl
          have p3 := X3.out.pb.cell 3 _ rfl
          have p4 := X3.out.pb.cell 4 _ rfl
          have p5 := X3.out.pb.cell 5 _ rfl
          have p6 := X3.out.pb.cell 6 _ rfl
          have p7 := X3.out.pb.cell 7 _ rfl
          go_wp2_with fail
          have XB : Hid (Bq w (w3.alloc (.cells #[.int .i64 o, .int .i64 n, .string s, .slice A l c, .int .i64 o2, .int .i64 n2, .string s2, .slice A2 l2 c2] 27)) C #[.int .i64 o, .int .i64 n, .string s, .slice A l c, .int .i64 o2, .int .i64 n2, .string s2, .slice A2 l2 c2].toList) := X3.out.next ((Below.refl _ _).alloc (Nat.le_refl _) _)
          have HLO : Hid (LOk (w3.alloc (.cells #[.int .i64 o, .int .i64 n, .string s, .slice A l c, .int .i64 o2, .int .i64 n2, .string s2, .slice A2 l2 c2] 27)) (some ⟨w3.heap.size, 0, none⟩) 2 [.mk o n s ks, .mk o2 n2 s2 ks2]) := (show Cs (w3.alloc (.cells #[.int .i64 o, .int .i64 n, .string s, .slice A l c, .int .i64 o2, .int .i64 n2, .string s2, .slice A2 l2 c2] 27)) w3.heap.size [.int .i64 o, .int .i64 n, .string s, .slice A l c, .int .i64 o2, .int .i64 n2, .string s2, .slice A2 l2 c2] from Cs.new w3 #[.int .i64 o, .int .i64 n, .string s, .slice A l c, .int .i64 o2, .int .i64 n2, .string s2, .slice A2 l2 c2] 27).lok HL.out.1 HL.out.2 (HE.out.1.below XB.out.below) (HE.out.2.below XB.out.below)
          refine (expr_b C op 0 ⟨#[]⟩ [.mk o n s ks, .mk o2 n2 s2 ks2] (some ⟨w3.heap.size, 0, none⟩) 2 2 (a + b + d) 0 _ (HML.out.below HML.out.pos XB.out.below) rfl HD.out.1 HD.out.2 HLO.out HX).mono ?_
          rintro e w4 ⟨rfl, hb⟩
          have X4 := Lib.hid (XB.out.next hb)
          clear hb X3 XB HLO k0 k1 k2 k3 k4 k5 k6 k7 k8 k9 k10 k11 k12 p0 p1 p2 p3 p4 p5 p6 p7
          have k0 := X4.out.cb.cell 0 _ rfl
          have k1 := X4.out.cb.cell 1 _ rfl
          have k2 := X4.out.cb.cell 2 _ rfl
          have k3 := X4.out.cb.cell 3 _ rfl
          have k4 := X4.out.cb.cell 4 _ rfl
          have k5 := X4.out.cb.cell 5 _ rfl
          have k6 := X4.out.cb.cell 6 _ rfl
          have k7 := X4.out.cb.cell 7 _ rfl
          have k8 := X4.out.cb.cell 8 _ rfl
          have k9 := X4.out.cb.cell 9 _ rfl
          have k10 := X4.out.cb.cell 10 _ rfl
          have k11 := X4.out.cb.cell 11 _ rfl
          have k12 := X4.out.cb.cell 12 _ rfl
          have p0 := X4.out.pb.cell 0 _ rfl
          have p1 := X4.out.pb.cell 1 _ rfl
          have p2 := X4.out.pb.cell 2 _ rfl
          have p3 := X4.out.pb.cell 3 _ rfl
          have p4 := X4.out.pb.cell 4 _ rfl
          have p5 := X4.out.pb.cell 5 _ rfl
          have p6 := X4.out.pb.cell 6 _ rfl
          have p7 := X4.out.pb.cell 7 _ rfl
          go_wp2_with fail
          refine (expr_b C o n s ks A c l a 0 _ (HML.out.below HML.out.pos X4.out.below) HL.out.1 HC.out.1 HC.out.2.1 (HE.out.1.below X4.out.below) HQ1).mono ?_
          rintro e w5 ⟨rfl, hb⟩
          have X5 := Lib.hid (X4.out.next hb)
          clear hb X4 k0 k1 k2 k3 k4 k5 k6 k7 k8 k9 k10 k11 k12 p0 p1 p2 p3 p4 p5 p6 p7
          have k0 := X5.out.cb.cell 0 _ rfl
          have k1 := X5.out.cb.cell 1 _ rfl
          have k2 := X5.out.cb.cell 2 _ rfl
          have k3 := X5.out.cb.cell 3 _ rfl
          have k4 := X5.out.cb.cell 4 _ rfl
          have k5 := X5.out.cb.cell 5 _ rfl
          have k6 := X5.out.cb.cell 6 _ rfl
          have k7 := X5.out.cb.cell 7 _ rfl
          have k8 := X5.out.cb.cell 8 _ rfl
          have k9 := X5.out.cb.cell 9 _ rfl
          have k10 := X5.out.cb.cell 10 _ rfl
          have k11 := X5.out.cb.cell 11 _ rfl
          have k12 := X5.out.cb.cell 12 _ rfl
          have p0 := X5.out.pb.cell 0 _ rfl
          have p1 := X5.out.pb.cell 1 _ rfl
          have p2 := X5.out.pb.cell 2 _ rfl
          have p3 := X5.out.pb.cell 3 _ rfl
          have p4 := X5.out.pb.cell 4 _ rfl
          have p5 := X5.out.pb.cell 5 _ rfl
          have p6 := X5.out.pb.cell 6 _ rfl
          have p7 := X5.out.pb.cell 7 _ rfl
          go_wp2_with fail
          refine (expr_b C o2 n2 s2 ks2 A2 c2 l2 b 0 _ (HML.out.below HML.out.pos X5.out.below) HL.out.2 HC.out.2.2.1 HC.out.2.2.2 (HE.out.2.below X5.out.below) HQ2).mono ?_
          rintro e w6 ⟨rfl, hb⟩
          have X6 := Lib.hid (X5.out.next hb)
          clear hb X5 k0 k1 k2 k3 k4 k5 k6 k7 k8 k9 k10 k11 k12 p0 p1 p2 p3 p4 p5 p6 p7
          have k0 := X6.out.cb.cell 0 _ rfl
          have k1 := X6.out.cb.cell 1 _ rfl
          have k2 := X6.out.cb.cell 2 _ rfl
          have k3 := X6.out.cb.cell 3 _ rfl
          have k4 := X6.out.cb.cell 4 _ rfl
          have k5 := X6.out.cb.cell 5 _ rfl
          have k6 := X6.out.cb.cell 6 _ rfl
          have k7 := X6.out.cb.cell 7 _ rfl
          have k8 := X6.out.cb.cell 8 _ rfl
          have k9 := X6.out.cb.cell 9 _ rfl
          have k10 := X6.out.cb.cell 10 _ rfl
          have k11 := X6.out.cb.cell 11 _ rfl
          have k12 := X6.out.cb.cell 12 _ rfl
          have p0 := X6.out.pb.cell 0 _ rfl
          have p1 := X6.out.pb.cell 1 _ rfl
          have p2 := X6.out.pb.cell 2 _ rfl
          have p3 := X6.out.pb.cell 3 _ rfl
          have p4 := X6.out.pb.cell 4 _ rfl
          have p5 := X6.out.pb.cell 5 _ rfl
          have p6 := X6.out.pb.cell 6 _ rfl
          have p7 := X6.out.pb.cell 7 _ rfl
          go_wp2_with fail
          have XB : Hid (Bq w (w6.alloc (.cells #[.int .i64 0, .int .i64 0, .string ⟨#[]⟩, .slice none 0 0, .int .i64 0, .int .i64 1, .string ⟨#[]⟩, .slice none 0 0] 27)) C #[.int .i64 o, .int .i64 n, .string s, .slice A l c, .int .i64 o2, .int .i64 n2, .string s2, .slice A2 l2 c2].toList) := X6.out.next ((Below.refl _ _).alloc (Nat.le_refl _) _)
          have HLO : Hid (LOk (w6.alloc (.cells #[.int .i64 0, .int .i64 0, .string ⟨#[]⟩, .slice none 0 0, .int .i64 0, .int .i64 1, .string ⟨#[]⟩, .slice none 0 0] 27)) (some ⟨w6.heap.size, 0, none⟩) 2 [ET.lit 0, ET.lit 1]) := (show Cs (w6.alloc (.cells #[.int .i64 0, .int .i64 0, .string ⟨#[]⟩, .slice none 0 0, .int .i64 0, .int .i64 1, .string ⟨#[]⟩, .slice none 0 0] 27)) w6.heap.size [.int .i64 0, .int .i64 0, .string ⟨#[]⟩, .slice none 0 0, .int .i64 0, .int .i64 1, .string ⟨#[]⟩, .slice none 0 0] from Cs.new w6 #[.int .i64 0, .int .i64 0, .string ⟨#[]⟩, .slice none 0 0, .int .i64 0, .int .i64 1, .string ⟨#[]⟩, .slice none 0 0] 27).lok rfl rfl (eok_leaf _ ⟨#[]⟩ (by decide)) (eok_leaf _ ⟨#[]⟩ (by decide))
          refine (expr_b C op 0 ⟨#[]⟩ [ET.lit 0, ET.lit 1] (some ⟨w6.heap.size, 0, none⟩) 2 2 d 0 _ (HML.out.below HML.out.pos XB.out.below) rfl (by simp [ET.cnt, ET.cntL, ET.lit]) (by simp [ET.dep, ET.depL, ET.lit]) HLO.out HQ3).mono ?_
          rintro e w7 ⟨rfl, hb⟩
          have X7 := Lib.hid (XB.out.next hb)
          clear hb X6 XB HLO k0 k1 k2 k3 k4 k5 k6 k7 k8 k9 k10 k11 k12 p0 p1 p2 p3 p4 p5 p6 p7
          go_wp2_with fail
          go_ret
          exact ⟨ret_bool (by simp), X7.out.below⟩
      · have hx0 : x = 0 := (CM.exprR_0 hx).2 hk
        subst hx0
        have k0' : (k == 0) = false := by rw [beq_eq_false_iff_ne]; exact hk
        have k1' : (k != 0) = true := by simp [bne, k0']
        clear hx hk
        go_enter Try.func4, Try.ntmps4
        go_wp2_with fail
        refine (known_t _ (HML.out.below HML.out.pos X0.out.below)).mono ?_
        rintro e w1 ⟨rfl, hb⟩
        have X1 := Lib.hid (X0.out.next hb)
        clear hb X0
        have k0 := X1.out.cb.cell 0 _ rfl
        have k1 := X1.out.cb.cell 1 _ rfl
        have k2 := X1.out.cb.cell 2 _ rfl
        have k3 := X1.out.cb.cell 3 _ rfl
        have k4 := X1.out.cb.cell 4 _ rfl
        have k5 := X1.out.cb.cell 5 _ rfl
        have k6 := X1.out.cb.cell 6 _ rfl
        have k7 := X1.out.cb.cell 7 _ rfl
        have k8 := X1.out.cb.cell 8 _ rfl
        have k9 := X1.out.cb.cell 9 _ rfl
        have k10 := X1.out.cb.cell 10 _ rfl
        have k11 := X1.out.cb.cell 11 _ rfl
        have k12 := X1.out.cb.cell 12 _ rfl
        have p0 := X1.out.pb.cell 0 _ rfl
        have p1 := X1.out.pb.cell 1 _ rfl
        have p2 := X1.out.pb.cell 2 _ rfl
        have p3 := X1.out.pb.cell 3 _ rfl
        have p4 := X1.out.pb.cell 4 _ rfl
        have p5 := X1.out.pb.cell 5 _ rfl
        have p6 := X1.out.pb.cell 6 _ rfl
        have p7 := X1.out.pb.cell 7 _ rfl
        go_wp2_with fail
        refine (few_b o n s ks A c l _ HL.out.1 HF1 _ (HE.out.1.below X1.out.below)).mono ?_
        rintro e w2 ⟨rfl, hb⟩
        have X2 := Lib.hid (X1.out.next hb)
        clear hb X1 k0 k1 k2 k3 k4 k5 k6 k7 k8 k9 k10 k11 k12 p0 p1 p2 p3 p4 p5 p6 p7
        have k0 := X2.out.cb.cell 0 _ rfl
        have k1 := X2.out.cb.cell 1 _ rfl
        have k2 := X2.out.cb.cell 2 _ rfl
        have k3 := X2.out.cb.cell 3 _ rfl
        have k4 := X2.out.cb.cell 4 _ rfl
        have k5 := X2.out.cb.cell 5 _ rfl
        have k6 := X2.out.cb.cell 6 _ rfl
        have k7 := X2.out.cb.cell 7 _ rfl
        have k8 := X2.out.cb.cell 8 _ rfl
        have k9 := X2.out.cb.cell 9 _ rfl
        have k10 := X2.out.cb.cell 10 _ rfl
        have k11 := X2.out.cb.cell 11 _ rfl
        have k12 := X2.out.cb.cell 12 _ rfl
        have p0 := X2.out.pb.cell 0 _ rfl
        have p1 := X2.out.pb.cell 1 _ rfl
        have p2 := X2.out.pb.cell 2 _ rfl
        have p3 := X2.out.pb.cell 3 _ rfl
        have p4 := X2.out.pb.cell 4 _ rfl
        have p5 := X2.out.pb.cell 5 _ rfl
        have p6 := X2.out.pb.cell 6 _ rfl
        have p7 := X2.out.pb.cell 7 _ rfl
        go_wp2_with fail
        refine (few_b o2 n2 s2 ks2 A2 c2 l2 _ HL.out.2 HF2 _ (HE.out.2.below X2.out.below)).mono ?_
        rintro e w3 ⟨rfl, hb⟩
        have X3 := Lib.hid (X2.out.next hb)
        clear hb X2 k0 k1 k2 k3 k4 k5 k6 k7 k8 k9 k10 k11 k12 p0 p1 p2 p3 p4 p5 p6 p7
        have k0 := X3.out.cb.cell 0 _ rfl
        have k1 := X3.out.cb.cell 1 _ rfl
        have k2 := X3.out.cb.cell 2 _ rfl
        have k3 := X3.out.cb.cell 3 _ rfl
        have k4 := X3.out.cb.cell 4 _ rfl
        have k5 := X3.out.cb.cell 5 _ rfl
        have k6 := X3.out.cb.cell 6 _ rfl
        have k7 := X3.out.cb.cell 7 _ rfl
        have k8 := X3.out.cb.cell 8 _ rfl
        have k9 := X3.out.cb.cell 9 _ rfl
        have k10 := X3.out.cb.cell 10 _ rfl
        have k11 := X3.out.cb.cell 11 _ rfl
        have k12 := X3.out.cb.cell 12 _ rfl
        have p0 := X3.out.pb.cell 0 _ rfl
        have p1 := X3.out.pb.cell 1 _ rfl
        have p2 := X3.out.pb.cell 2 _ rfl
        have p3 := X3.out.pb.cell 3 _ rfl
        have p4 := X3.out.pb.cell 4 _ rfl
        have p5 := X3.out.pb.cell 5 _ rfl
        have p6 := X3.out.pb.cell 6 _ rfl
        have p7 := X3.out.pb.cell 7 _ rfl
        go_wp2_with fail
        have XB : Hid (Bq w (w3.alloc (.cells #[.int .i64 o, .int .i64 n, .string s, .slice A l c, .int .i64 o2, .int .i64 n2, .string s2, .slice A2 l2 c2] 27)) C #[.int .i64 o, .int .i64 n, .string s, .slice A l c, .int .i64 o2, .int .i64 n2, .string s2, .slice A2 l2 c2].toList) := X3.out.next ((Below.refl _ _).alloc (Nat.le_refl _) _)
        have HLO : Hid (LOk (w3.alloc (.cells #[.int .i64 o, .int .i64 n, .string s, .slice A l c, .int .i64 o2, .int .i64 n2, .string s2, .slice A2 l2 c2] 27)) (some ⟨w3.heap.size, 0, none⟩) 2 [.mk o n s ks, .mk o2 n2 s2 ks2]) := (show Cs (w3.alloc (.cells #[.int .i64 o, .int .i64 n, .string s, .slice A l c, .int .i64 o2, .int .i64 n2, .string s2, .slice A2 l2 c2] 27)) w3.heap.size [.int .i64 o, .int .i64 n, .string s, .slice A l c, .int .i64 o2, .int .i64 n2, .string s2, .slice A2 l2 c2] from Cs.new w3 #[.int .i64 o, .int .i64 n, .string s, .slice A l c, .int .i64 o2, .int .i64 n2, .string s2, .slice A2 l2 c2] 27).lok HL.out.1 HL.out.2 (HE.out.1.below XB.out.below) (HE.out.2.below XB.out.below)
        refine (expr_b C op 0 ⟨#[]⟩ [.mk o n s ks, .mk o2 n2 s2 ks2] (some ⟨w3.heap.size, 0, none⟩) 2 2 0 k _ (HML.out.below HML.out.pos XB.out.below) rfl HD.out.1 HD.out.2 HLO.out HX).mono ?_
        rintro e w4 ⟨rfl, hb⟩
        have X4 := Lib.hid (XB.out.next hb)
        clear hb X3 XB HLO k0 k1 k2 k3 k4 k5 k6 k7 k8 k9 k10 k11 k12 p0 p1 p2 p3 p4 p5 p6 p7
        go_wp2_with fail
        go_ret
        exact ⟨ret_bool (by simp), X4.out.below⟩

set_option maxRecDepth 100000 in
theorem costParts_lifted (os : Os) (started : os.Started) (H : Type) (enc : TypeId × Value → H) :
    ReturnsInHanded {} Try.checked os 4 .any (Rows.costPartsSpec.pre6 enc Try.prog Try.f4 Rows.costPartsRow.domain false) (Rows.costPartsSpec.post enc Try.prog Try.f4 false true false false) := by
  refine returnsInHanded_of_change_shaped (C := Try.checked) own started (by kernel_rfl) Try.func4
    (ChangeSpec.witness6 (enc := enc) (C := Try.checked) false ⟨#[], #[.agg #[.int .i64 0, .int .i64 0, .int .i64 0, .int .i64 0, .int .i64 0, .int .i64 0, .int .i64 0, .int .i64 0, .int .i64 0, .int .i64 0, .int .i64 0, .int .i64 0, .int .i64 0], .int .i64 0, .agg #[.int .i64 0, .int .i64 0, .string ⟨#[]⟩, .slice none 0 0, .int .i64 0, .int .i64 0, .string ⟨#[]⟩, .slice none 0 0]], []⟩ 8 (by kernel_rfl) (by kernel_rfl) (by kernel_rfl) (by kernel_rfl)) ?_
  intro W base args ds gs before hval0 hW hcnd0 _ hsh _
  clear hcnd0
  have hval : ∀ (j : Nat) t v, Try.f4.params[j]? = some t → args[j]? = some v → Value.okWide Try.prog W .any base t v := hval0
  have hW' := hW
  obtain ⟨p, q, hA0, hV, rfl, hfz, hnd⟩ := hW
  have hA : DataW.TrodAll enc Try.prog W 0 (fun _ => true) true Try.f4.params.toList args.toList ds p := hA0
  rw [Try.params4] at hA hval
  obtain ⟨v0, v1, v2, d0, d1, d2, p0, p1, p2, hargs, rfl, rfl, h0, h1, h2⟩ := trodAll_three hA
  obtain rfl : args = #[v0, v1, v2] := hargs
  obtain ⟨rfl, rfl⟩ := trodVars_none hV
  obtain ⟨C, rfl⟩ := open_costs (hval 0 23 v0 rfl rfl) h0
  obtain ⟨op, rfl, rfl, rfl, wop⟩ := open_int Try.underlying24 (hval 1 24 v1 rfl rfl) h1
  obtain ⟨o, n, s, A, l, c, ks, o2, n2, s2, A2, l2, c2, ks2, rfl, hl, hE, hl2, hE2⟩ := open_two (hval 2 34 v2 rfl rfl) h2
  clear hA0 hval0
  have hml : ML W := Try.laysM219.s1_3 W hsh
  refine (parts_walk C op o n s ks A c l o2 n2 s2 ks2 A2 c2 l2 W hml hl hE hl2 hE2).mono fun e W' ⟨he, hb⟩ => ?_
  subst he
  have hlt : ∀ x ∈ p0 ++ [] ++ p2 ++ [], x.block < W.heap.size := fun x hx => hW'.lt x hx
  exact ⟨_, rfl, _, _, _, [], p0 ++ ([] ++ p2), [], hW', trodAll_mk1 (shut_bool Try.underlying4 _),
    trodAll_mk3 (Below.trod laidOut (by kernel_rfl) (of_decide_eq_true (by kernel_rfl)) h0 hb (fun x hx => hlt x (by simp [hx]))) (Below.trod laidOut (by kernel_rfl) (of_decide_eq_true (by kernel_rfl)) h1 hb (fun x hx => by simp at hx)) (Below.trod laidOut (by kernel_rfl) (of_decide_eq_true (by kernel_rfl)) h2 hb (fun x hx => hlt x (by simp [hx]))), rfl, hb.frame _, fun h => by cases h⟩

theorem costParts_holds : Rows.CostPartsSaid :=
  OpenClaim.holds_of_wide 4 Try.f4 rfl rfl rfl rfl rfl rfl rfl ⟨rfl, rfl, rfl, rfl, rfl⟩ rfl rfl rfl rfl rfl (by kernel_rfl) Try.func4 (by kernel_rfl)
    (of_decide_eq_true (by kernel_rfl)) (by unfold Func.isWrapper; rw [if_neg (of_decide_eq_false (by kernel_rfl))]; exact ⟨rfl, rfl⟩)
    (fun os started H enc _ => costParts_lifted os started H enc)
#print axioms costParts_holds
end Go.Proofs.Ythlhicegchkjjaa
