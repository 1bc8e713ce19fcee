/-
  The walks over the statements' own helpers.
-/
import Derived.Test.YthenhajgmbanjaaLxH
import Derived.Laws.StructEq
namespace Go.Proofs.Ythenhajgmbanjaa
open Go.RowKit

theorem tval_at (ts : List Lx.Tok) (k : Nat) (h : k < ts.length) : (tvals ts)[k * 3]? = some (.int .i64 (ts[k].kind)) ∧ (tvals ts)[k * 3 + 1]? = some (.string ⟨(ts[k].text).toArray⟩) ∧ (tvals ts)[k * 3 + 2]? = some (.int .i64 (ts[k].at_)) := by
  induction ts generalizing k with
  | nil => simp at h
  | cons t ts ih =>
    have e : tvals (t :: ts) = .int .i64 t.kind :: .string ⟨t.text.toArray⟩ :: .int .i64 t.at_ :: tvals ts := rfl
    cases k with
    | zero => rw [e]; simp
    | succ k =>
      have := ih k (by simpa using h)
      rw [e, show (k + 1) * 3 = k * 3 + 3 from by omega]
      simpa using this
theorem tokGuard : Try.prog.eqGuardType Try.prog.depth 31 = false := by kernel_rfl
theorem tokHeld : Try.prog.stoodInHeld 31 = false := by kernel_rfl
/-- Two tokens' cells. -/
theorem tok_pair (t u : Lx.Tok) : ∃ (p1 p2 q1 q2 : Int) (s1 s2 : ByteArray), (Value.int .i64 t.kind = .int .i64 p1 ∧ Value.string ⟨t.text.toArray⟩ = .string s1 ∧ Value.int .i64 t.at_ = .int .i64 q1) ∧
    (Value.int .i64 u.kind = .int .i64 p2 ∧ Value.string ⟨u.text.toArray⟩ = .string s2 ∧ Value.int .i64 u.at_ = .int .i64 q2) ∧
    ((t = u ∧ p1 = p2 ∧ s1 = s2 ∧ q1 = q2) ∨ (t ≠ u ∧ ((p1 == p2) = false ∨ ((s1.toList == s2.toList) = false ∧ p1 = p2) ∨ ((q1 == q2) = false ∧ s1 = s2 ∧ p1 = p2)))) := by
  refine ⟨_, _, _, _, _, _, ⟨rfl, rfl, rfl⟩, ⟨rfl, rfl, rfl⟩, ?_⟩
  by_cases h : t = u
  · subst h; exact .inl ⟨rfl, rfl, rfl, rfl⟩
  · refine .inr ⟨h, ?_⟩
    by_cases h1 : t.kind = u.kind
    · by_cases h2 : t.text = u.text
      · by_cases h3 : t.at_ = u.at_
        · exact absurd (by cases t; cases u; simp_all) h
        · exact .inr (.inr ⟨by rw [beq_eq_false_iff_ne]; omega, by rw [h2], by rw [h1]⟩)
      · refine .inr (.inl ⟨?_, by rw [h1]⟩)
        rw [Lib.toList_data, Lib.toList_data]
        simpa using h2
    · exact .inl (by rw [beq_eq_false_iff_ne]; omega)

theorem same_any (ts us : List Lx.Tok) (A B : Option Addr) (c d : Nat) (w : World) (hl : ts.length ≤ 9000) (hl2 : us.length ≤ 9000) (ha : Rd w 3 A ts.length (tvals ts)) (hb : Rd w 3 B us.length (tvals us)) :
    Calls Try.prog 13 #[.slice A ts.length c, .slice B us.length d] w fun e w' => e = .returned (.bool (decide (ts = us))) ∧ ∃ n, w' = w.drewN n := by
  obtain ⟨n, hn⟩ : ∃ n, n = ts.length := ⟨_, rfl⟩
  obtain ⟨m, hm⟩ : ∃ m, m = us.length := ⟨_, rfl⟩
  rw [← hn] at ha hl ⊢
  rw [← hm] at hb hl2 ⊢
  by_cases hnm : n = m
  · subst hnm
    by_cases h0 : 0 < n
    · obtain ⟨_, hA⟩ := ha
      obtain ⟨_, hB⟩ := hb
      obtain ⟨g, rfl, hg, hca⟩ := hA h0
      obtain ⟨g2, rfl, hg2, hcb⟩ := hB h0
      have HN := Lib.hid hn
      have HM := Lib.hid hm
      have HA := Lib.hid hca
      have HB := Lib.hid hcb
      obtain ⟨b, hb⟩ : ∃ b, b = decide (ts = us) := ⟨_, rfl⟩
      rw [← hb]
      have HBB := Lib.hid hb
      clear hn hm hca hcb hA hB hb
      go_enter Try.func13, Try.ntmps13
      go_wp2_with fail
      go_loopw [13] (fun v wr => ∃ (k q : Nat), k ≤ n ∧ v = .int .i64 k ∧ wr = w.drewN q ∧ Hid (∀ j, j < k → ts[j]? = us[j]?)) (fun v _ => n - (intOf v).toNat)
      case atStart => exact ⟨0, 0, by omega, rfl, rfl, fun j h => absurd h (by omega)⟩
      case round =>
        obtain ⟨k, q, hk, rfl, rfl, H⟩ := hrel
        by_cases hlt : k < n
        · have hlt1 : k < ts.length := by rw [← HN.out]; exact hlt
          have hlt2 : k < us.length := by rw [← HM.out]; exact hlt
          obtain ⟨x0, x1, x2⟩ := tval_at ts k hlt1
          obtain ⟨y0, y1, y2⟩ := tval_at us k hlt2
          have a0 := HA.out _ _ x0
          have a1 := HA.out _ _ x1
          have a2 := HA.out _ _ x2
          have b0 := HB.out _ _ y0
          have b1 := HB.out _ _ y1
          have b2 := HB.out _ _ y2
          clear x0 x1 x2 y0 y1 y2
          obtain ⟨p1, p2, q1, q2, s1, s2, ⟨e1, e2, e3⟩, ⟨e4, e5, e6⟩, hc⟩ := tok_pair ts[k] us[k]
          rw [e1] at a0; rw [e2] at a1; rw [e3] at a2; rw [e4] at b0; rw [e5] at b1; rw [e6] at b2
          clear e1 e2 e3 e4 e5 e6
          have i1 : (0 : Int) ≤ (k : Int) := by omega
          have i2 : (k : Int) < (n : Int) := by omega
          have hg1 := tokGuard
          have hg2 := tokHeld
          rcases hc with ⟨hx, rfl, rfl, rfl⟩ | ⟨hx, hc⟩
          · have HX : Hid (ts[k]? = us[k]?) := by
              show _ = _
              rw [List.getElem?_eq_getElem hlt1, List.getElem?_eq_getElem hlt2, hx]
            clear hx
            go_wp2_with fail
            go_quiet (fail)
            go_wp2_with fail
            go_roundw
            case rel => exact ⟨k + 1, _, by omega, by go_num, rfl, fun j hj => by
              rcases Nat.lt_or_ge j k with h | h
              · exact H.out j h
              · rw [show j = k from by omega]; exact HX.out⟩
            case measure => simp [intOf]; omega
          · have HX : Hid (b = false) := by
              show b = _
              rw [HBB.out]
              rw [decide_eq_false_iff_not]
              rintro rfl
              exact hx rfl
            clear hx
            rcases hc with hc | ⟨hc, rfl⟩ | ⟨hc, rfl, rfl⟩
            all_goals
              go_wp2_with fail
              go_quiet (fail)
              go_wp2_with fail
              go_ret
              exact ⟨ret_bool HX.out.symm, _, by first | rfl | exact World.drewN_drewN _ _ _⟩
        · have HX : Hid (b = true) := by
            show b = _
            rw [HBB.out, decide_eq_true_eq]
            refine List.ext_getElem? fun j => ?_
            rcases Nat.lt_or_ge j k with h | h
            · exact H.out j h
            · rw [List.getElem?_eq_none (by rw [← HN.out]; omega), List.getElem?_eq_none (by rw [← HM.out]; omega)]
          go_wp2_with fail
          go_ret
          exact ⟨ret_bool HX.out.symm, q, rfl⟩
    · have hz : n = 0 := by omega
      have ht : ts = [] := List.length_eq_zero_iff.1 (by omega)
      have hu : us = [] := List.length_eq_zero_iff.1 (by omega)
      subst ht hu hz
      clear hn hm ha hb h0 hl hl2
      go_enter Try.func13, Try.ntmps13
      go_wp2_with fail
      refine wp_loop_rounds 1 ?_
      rw [rounds_succ]
      go_wp2_with fail
      go_ret
      exact ⟨rfl, 0, rfl⟩
  · have h1 : ((n : Int) == (m : Int)) = false := by rw [beq_eq_false_iff_ne]; omega
    have HX : Hid (decide (ts = us) = false) := by
      show _ = _
      rw [decide_eq_false_iff_not]
      rintro rfl
      omega
    clear hn hm ha hb hnm
    go_enter Try.func13, Try.ntmps13
    go_wp2_with fail
    go_ret
    exact ⟨ret_bool HX.out.symm, 0, rfl⟩
end Go.Proofs.Ythenhajgmbanjaa
