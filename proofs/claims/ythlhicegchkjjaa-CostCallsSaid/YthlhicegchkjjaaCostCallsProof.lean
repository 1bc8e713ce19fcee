/-
  CostCalls: Enter of the program returns what that of the reference returns. No condition.
-/
import Derived.Test.YthlhicegchkjjaaCoT
import Derived.Test.YthlhicegchkjjaaCoM
namespace Go.Proofs.Ythlhicegchkjjaa
open Go.RowKit Go.ChangeShapes Go.WideShapes Go.ChangeAt Go.Joins Go.Deep

theorem lfew_b (o n : Int) (s : ByteArray) (ks : List ET) (A : Option Addr) (c l : Nat) (b : Bool) (hl : ks.length = l) (H : Hid (decide (0 ≤ ET.left (.mk o n s ks) 300) = b)) (w : World) (hE : EOk w s A c ks) :
    Calls Try.prog 10 #[.agg #[.int .i64 o, .int .i64 n, .string s, .slice A l c]] w fun e w' => e = .returned (.bool b) ∧ Below w.heap.size w w' := few_b o n s ks A c l b hl H w hE
set_option maxRecDepth 100000 in
set_option maxHeartbeats 8000000 in
theorem calls_walk (C : CM) (es : List ET) (zs : List Int) (A B : Option Addr) (c d l m : Nat) (w : World) (hM : ML w) (hl : es.length = l) (hl2 : zs.length = m) (hE : LOk w A c es) (hZ : ZOk w B d zs) :
    Calls Try.prog 6 #[.agg #[.int .i64 C.c0, .int .i64 C.c1, .int .i64 C.c2, .int .i64 C.c3, .int .i64 C.c4, .int .i64 C.c5, .int .i64 C.c6, .int .i64 C.c7, .int .i64 C.c8, .int .i64 C.c9, .int .i64 C.c10, .int .i64 C.c11, .int .i64 C.c12], .slice A l c, .slice B m d] w fun e w' => e = .returned (.bool true) ∧ Below w.heap.size w w' := by
  have hmm : m ≤ 9223372036854775807 := by have h1 := hZ.1; have h2 := hZ.2.1; unfold maxLen at h2; omega
  have hlm : l ≤ 9223372036854775807 := by have h1 := hE.2.1; have h2 := hE.2.2.1; unfold maxLen at h2; omega
  have HE := Lib.hid hE
  have HZ := Lib.hid hZ
  have HLE := Lib.hid hl
  have HLZ := Lib.hid hl2
  have HML := Lib.hid hM
  have X0 := Lib.hid (bo w C)
  clear hE hZ hl hl2 hM
  by_cases h10 : 10 < l
  · go_enter Try.func6, Try.ntmps6
    go_wp2_with fail
    refine (known_t _ (HML.out.below HML.out.pos X0.out.below)).mono ?_
    rintro e w1 ⟨rfl, hb⟩
    have X1 := Lib.hid (X0.out.next hb)
    clear hb X0
    go_wp2_with fail
    go_ret
    exact ⟨rfl, X1.out.below⟩
  have h10' : l ≤ 10 := by omega
  by_cases h20 : 20 < m
  · go_enter Try.func6, Try.ntmps6
    go_wp2_with fail
    refine (known_t _ (HML.out.below HML.out.pos X0.out.below)).mono ?_
    rintro e w1 ⟨rfl, hb⟩
    have X1 := Lib.hid (X0.out.next hb)
    clear hb X0
    go_wp2_with fail
    go_ret
    exact ⟨rfl, X1.out.below⟩
  have h20' : m ≤ 20 := by omega
  clear h10 h20
  go_enter Try.func6, Try.ntmps6
  go_wp2_with fail
  refine (known_t _ (HML.out.below HML.out.pos X0.out.below)).mono ?_
  rintro e w1 ⟨rfl, hb⟩
  have X1 := Lib.hid (X0.out.next hb)
  clear hb X0
  go_wp2_with fail
  go_loopw [25] (fun v wr => ∃ k : Nat, k ≤ l ∧ v = .int .i64 k ∧ Hid (∀ (j : Nat) (h : j < es.length), j < k → ET.cnt es[j] ≤ 300 ∧ ET.dep es[j] ≤ 300) ∧ Hid (Bo w wr C)) (fun v _ => l - (intOf v).toNat)
  case atStart => exact ⟨0, by omega, rfl, fun j _ hj => absurd hj (by omega), X1⟩
  case round =>
    obtain ⟨k, hk, rfl, HK, X⟩ := hrel
    clear X1
    by_cases hlt : k < l
    · have hlt' : k < es.length := by have := HLE.out; omega
      obtain ⟨o', n', s', ks', g, f, A', c', hkid, hAA, hg, hok, c0, c1, c2, c3⟩ := (HE.out.below X.out.below).kid k hlt'
      obtain ⟨l', hl'⟩ : ∃ l', ks'.length = l' := ⟨_, rfl⟩
      rw [hl'] at c3
      have HL' := Lib.hid hl'
      have HO := Lib.hid hok
      obtain ⟨fb, hfb⟩ : ∃ b, decide (0 ≤ ET.left (.mk o' n' s' ks') 300) = b := ⟨_, rfl⟩
      have HFB := Lib.hid hfb
      have HKE := Lib.hid hkid
      subst hAA
      clear hkid hok hl' hfb
      have XA : Hid (Bo w (wr.alloc (.cells #[.int .i64 o', .int .i64 n', .string s', .slice A' l' c'] 27)) C) := X.out.next ((Below.refl _ _).alloc (Nat.le_refl _) _)
      cases fb
      · go_wp2_with fail
        refine (lfew_b o' n' s' ks' A' c' l' false HL'.out HFB _ (HO.out.below ((Below.refl _ _).alloc (Nat.le_refl _) _))).mono ?_
        rintro e w2 ⟨rfl, hb⟩
        have X2 := Lib.hid (XA.out.next hb)
        clear hb XA X c0 c1 c2 c3
        go_wp2_with fail
        go_ret
        exact ⟨rfl, X2.out.below⟩
      · go_wp2_with fail
        refine (lfew_b o' n' s' ks' A' c' l' true HL'.out HFB _ (HO.out.below ((Below.refl _ _).alloc (Nat.le_refl _) _))).mono ?_
        rintro e w2 ⟨rfl, hb⟩
        have X2 := Lib.hid (XA.out.next hb)
        have HK1 : Hid (∀ (j : Nat) (h : j < es.length), j < k + 1 → ET.cnt es[j] ≤ 300 ∧ ET.dep es[j] ≤ 300) := by
          intro j h hj
          by_cases hjk : j = k
          · subst hjk; rw [HKE.out]; exact ET.few (of_decide_eq_true HFB.out)
          · exact HK.out j h (by omega)
        clear hb XA X c0 c1 c2 c3 HK
        go_wp2_with fail
        go_roundw
        case rel => exact ⟨k + 1, by omega, by go_num, HK1, X2⟩
        case measure => simp [intOf]; omega
    · have hke : k = l := by omega
      have HS : Hid (∀ (j : Nat) (h : j < es.length), ET.cnt es[j] ≤ 300 ∧ ET.dep es[j] ≤ 300) := fun j h => HK.out j h (by have := HLE.out; omega)
      obtain ⟨⟨x, k0⟩, hx⟩ : ∃ r, C.enterR es zs = r := ⟨_, rfl⟩
      have HX := Lib.hid hx
      clear HK hx
      have hcc := X.out.cc
      unfold CIn at hcc
      obtain ⟨m_0, m_1, m_2, m_3, m_4, m_5, m_6, m_7, m_8, m_9, m_10, m_11, m_12⟩ := hcc
      go_wp2_with fail
      refine (enter_b C es zs A B c d l m x k0 _ (HML.out.below HML.out.pos X.out.below) HLE.out HLZ.out h10' HS.out (HE.out.below X.out.below) (HZ.out.below X.out.below) HX).mono ?_
      rintro e w2 ⟨rfl, hb⟩
      have X2 := Lib.hid (X.out.next hb)
      clear hb X m_0 m_1 m_2 m_3 m_4 m_5 m_6 m_7 m_8 m_9 m_10 m_11 m_12
      have hcc := X2.out.cc
      unfold CIn at hcc
      obtain ⟨m_0, m_1, m_2, m_3, m_4, m_5, m_6, m_7, m_8, m_9, m_10, m_11, m_12⟩ := hcc
      go_wp2_with fail
      refine (renter_b C es zs A B c d l m x k0 _ HLE.out HLZ.out h10' HS.out (HE.out.below X2.out.below) (HZ.out.below X2.out.below) HX).mono ?_
      rintro e w3 ⟨rfl, hb⟩
      have X3 := Lib.hid (X2.out.next hb)
      clear hb X2 m_0 m_1 m_2 m_3 m_4 m_5 m_6 m_7 m_8 m_9 m_10 m_11 m_12
      go_wp2_with fail
      go_ret
      exact ⟨ret_bool (by simp), X3.out.below⟩
section
variable {H : Type} {enc : TypeId × Value → H} {w : World} {base : Nat} {spare : Nat → Bool} {held : Bool}
theorem cellsI : Try.prog.cellsOf 3 = 1 := by kernel_rfl
theorem open_zs {r : Reach} {b0 : Nat} {v : Value} {dd : DataW H} {p : List MemPlace} (hv : Value.okWide Try.prog w r b0 42 v) (h : DataW.Trod enc Try.prog w base spare held 42 v dd p) :
    ∃ (B : Option Addr) (m d : Nat) (zs : List Int), v = .slice B m d ∧ zs.length = m ∧ ZOk w B d zs := by
  obtain ⟨a0, len, cap, rfl⟩ := okWide_slice Try.underlying42 hv
  obtain ⟨fuel, hf⟩ := h
  rcases DataW.trod_slice Try.underlying42 (by simpa [Value.cells] using hf) with ⟨h0, _⟩ | ⟨a, len', cap', elems, rest, n, hfu, hcs, hx, hb, hl, hm, hlen, hel, _, _⟩
  · simp only [List.cons.injEq, and_true, Value.slice.injEq] at h0
    obtain ⟨rfl, rfl, rfl⟩ := h0
    exact ⟨none, 0, 0, [], rfl, rfl, by simp, Nat.zero_le _, fun j hj => by simp at hj⟩
  · simp only [List.cons.injEq, and_true, Value.slice.injEq] at hcs
    obtain ⟨rfl, rfl, rfl⟩ := hcs
    have hz : ∀ i, i < len → ∃ z, w.cell? (a.add i) = some (.int .i64 z) := by
      intro i hi
      have h1 := hel i hi
      rw [cellsI, List.getElem?_eq_getElem (by omega)] at h1
      simp only [Option.bind_eq_some_iff] at h1
      obtain ⟨cs', hc, ht⟩ := h1
      obtain ⟨_, hcl, hat⟩ := World.cells?_some hc
      match cs', hcl with
      | [v0], _ =>
        have g0 := hat 0 (by omega)
        simp only [List.getElem?_cons_zero, add_add, Nat.mul_one, Nat.add_zero] at g0
        obtain ⟨z, ez, _⟩ := DataW.trod_int Try.underlying3 ht
        simp only [List.cons.injEq, and_true] at ez
        subst ez
        exact ⟨z, g0⟩
    have hzs : ∀ n, n ≤ len → ∃ zs : List Int, zs.length = n ∧ ∀ j, j < n → w.cell? (a.add j) = some (.int .i64 (zs.getD j 0)) := by
      intro n
      induction n with
      | zero => intro _; exact ⟨[], rfl, fun j hj => absurd hj (by omega)⟩
      | succ n ih =>
        intro hn
        obtain ⟨zs, h1, h2⟩ := ih (by omega)
        obtain ⟨z, hz'⟩ := hz n (by omega)
        refine ⟨zs ++ [z], by simp [h1], fun j hj => ?_⟩
        by_cases hjn : j = n
        · subst hjn
          rw [hz']; simp [List.getD_eq_getElem?_getD, ← h1]
        · rw [h2 j (by omega)]
          simp [List.getD_eq_getElem?_getD, List.getElem?_append_left (show j < zs.length by omega)]
    obtain ⟨zs, h1, h2⟩ := hzs len (Nat.le_refl _)
    refine ⟨some a, len, cap, zs, rfl, h1, by omega, hm, fun j hj => ?_⟩
    have h3 := h2 0 (by omega)
    have ha := cell_addr h3
    have : a.add 0 = a := by unfold Addr.add; rw [if_pos rfl]
    rw [this] at ha
    have h4 := h2 j (by omega)
    rw [ha, add_at] at h4
    exact ⟨a.block, a.off, by rw [← ha], World.block_lt_of_cell? w ⟨a.block, a.off + j, none⟩ h4, h4⟩
end

set_option maxRecDepth 100000 in
theorem costCalls_lifted (os : Os) (started : os.Started) (H : Type) (enc : TypeId × Value → H) :
    ReturnsInHanded {} Try.checked os 6 .any (Rows.costCallsSpec.pre6 enc Try.prog Try.f6 Rows.costCallsRow.domain false) (Rows.costCallsSpec.post enc Try.prog Try.f6 false true false false) := by
  refine returnsInHanded_of_change_shaped (C := Try.checked) own started (by kernel_rfl) Try.func6
    (ChangeSpec.witness6 (enc := enc) (C := Try.checked) false ⟨#[], #[.agg #[.int .i64 0, .int .i64 0, .int .i64 0, .int .i64 0, .int .i64 0, .int .i64 0, .int .i64 0, .int .i64 0, .int .i64 0, .int .i64 0, .int .i64 0, .int .i64 0, .int .i64 0], .slice none 0 0, .slice none 0 0], []⟩ 8 (by kernel_rfl) (by kernel_rfl) (by kernel_rfl) (by kernel_rfl)) ?_
  intro W base args ds gs before hval0 hW hcnd0 _ hsh _
  clear hcnd0
  have hval : ∀ (j : Nat) t v, Try.f6.params[j]? = some t → args[j]? = some v → Value.okWide Try.prog W .any base t v := hval0
  have hW' := hW
  obtain ⟨p, q, hA0, hV, rfl, hfz, hnd⟩ := hW
  have hA : DataW.TrodAll enc Try.prog W 0 (fun _ => true) true Try.f6.params.toList args.toList ds p := hA0
  rw [Try.params6] at hA hval
  obtain ⟨v0, v1, v2, d0, d1, d2, p0, p1, p2, hargs, rfl, rfl, h0, h1, h2⟩ := trodAll_three hA
  obtain rfl : args = #[v0, v1, v2] := hargs
  obtain ⟨rfl, rfl⟩ := trodVars_none hV
  obtain ⟨C, rfl⟩ := open_costs (hval 0 23 v0 rfl rfl) h0
  obtain ⟨a1, l1, c1, hv1⟩ := okWide_slice Try.underlying25 (hval 1 25 v1 rfl rfl)
  have hf1 := h1
  obtain ⟨fuel, hf1⟩ := hf1
  obtain ⟨A, l, c, es, hv1', hl, hE⟩ := kd_of fuel v1 _ (by rw [hv1] at hf1 ⊢; simpa [Value.cells] using hf1)
  subst hv1'
  clear hf1 hv1
  obtain ⟨B, m, d, zs, rfl, hl2, hZ⟩ := open_zs (hval 2 42 v2 rfl rfl) h2
  clear hA0 hval0
  have hml : ML W := Try.laysM219.s1_3 W hsh
  refine (calls_walk C es zs A B c d l m W hml hl hl2 hE hZ).mono fun e W' ⟨he, hb⟩ => ?_
  subst he
  have hlt : ∀ x ∈ p0 ++ p1 ++ p2 ++ [], x.block < W.heap.size := fun x hx => hW'.lt x hx
  exact ⟨_, rfl, _, _, _, [], p0 ++ (p1 ++ p2), [], hW', trodAll_mk1 (shut_bool Try.underlying4 _),
    trodAll_mk3 (Below.trod laidOut (by kernel_rfl) (of_decide_eq_true (by kernel_rfl)) h0 hb (fun x hx => hlt x (by simp [hx]))) (Below.trod laidOut (by kernel_rfl) (of_decide_eq_true (by kernel_rfl)) h1 hb (fun x hx => hlt x (by simp [hx]))) (Below.trod laidOut (by kernel_rfl) (of_decide_eq_true (by kernel_rfl)) h2 hb (fun x hx => hlt x (by simp [hx]))), rfl, hb.frame _, fun h => by cases h⟩

theorem costCalls_holds : Rows.CostCallsSaid :=
  OpenClaim.holds_of_wide 6 Try.f6 rfl rfl rfl rfl rfl rfl rfl ⟨rfl, rfl, rfl, rfl, rfl⟩ rfl rfl rfl rfl rfl (by kernel_rfl) Try.func6 (by kernel_rfl)
    (of_decide_eq_true (by kernel_rfl)) (by unfold Func.isWrapper; rw [if_neg (of_decide_eq_false (by kernel_rfl))]; exact ⟨rfl, rfl⟩)
    (fun os started H enc _ => costCalls_lifted os started H enc)
#print axioms costCalls_holds
end Go.Proofs.Ythlhicegchkjjaa
