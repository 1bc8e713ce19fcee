/-
  The walks over the number of kids of an operator, and over places.
-/
import Derived.Test.YthlhicegchkjjaaGreatDoorEtA
import Derived.Test.YthlhicegchkjjaaGreatDoorEtP
import Derived.Test.YthlhicegchkjjaaGreatDoorLn
import Derived.Deep.LoopGhost
namespace Go.Proofs.YthlhicegchkjjaaGreatDoor
open Go.RowKit
set_option maxHeartbeats 1000000 in
theorem arity_b (o r : Int) (H : Hid (ET.arity o = r)) (w : World) :
    Calls Tryz.prog 94 #[.int .i64 o] w fun e w' => e = .returned (.int .i64 r) ∧ w = w' := by
  by_cases h0 : o = 0
  · subst h0
    have hr : r = 0 := by rw [← H.out]; decide
    subst hr
    clear H
    go_enter Tryz.func94, Tryz.ntmps94
    go_wp2_with fail
    go_ret
    exact ⟨rfl, rfl⟩
  by_cases h1 : o = 1
  · subst h1
    have hr : r = 0 := by rw [← H.out]; decide
    subst hr
    clear H
    go_enter Tryz.func94, Tryz.ntmps94
    go_wp2_with fail
    go_ret
    exact ⟨rfl, rfl⟩
  by_cases h2 : o = 2
  · subst h2
    have hr : r = 0 := by rw [← H.out]; decide
    subst hr
    clear H
    go_enter Tryz.func94, Tryz.ntmps94
    go_wp2_with fail
    go_ret
    exact ⟨rfl, rfl⟩
  by_cases h3 : o = 3
  · subst h3
    have hr : r = 0 := by rw [← H.out]; decide
    subst hr
    clear H
    go_enter Tryz.func94, Tryz.ntmps94
    go_wp2_with fail
    go_ret
    exact ⟨rfl, rfl⟩
  by_cases h4 : o = 4
  · subst h4
    have hr : r = 1 := by rw [← H.out]; decide
    subst hr
    clear H
    go_enter Tryz.func94, Tryz.ntmps94
    go_wp2_with fail
    go_ret
    exact ⟨rfl, rfl⟩
  by_cases h5 : o = 5
  · subst h5
    have hr : r = 2 := by rw [← H.out]; decide
    subst hr
    clear H
    go_enter Tryz.func94, Tryz.ntmps94
    go_wp2_with fail
    go_ret
    exact ⟨rfl, rfl⟩
  by_cases h6 : o = 6
  · subst h6
    have hr : r = 1 := by rw [← H.out]; decide
    subst hr
    clear H
    go_enter Tryz.func94, Tryz.ntmps94
    go_wp2_with fail
    go_ret
    exact ⟨rfl, rfl⟩
  by_cases h7 : o = 7
  · subst h7
    have hr : r = 1 := by rw [← H.out]; decide
    subst hr
    clear H
    go_enter Tryz.func94, Tryz.ntmps94
    go_wp2_with fail
    go_ret
    exact ⟨rfl, rfl⟩
  by_cases h23 : o = 23
  · subst h23
    have hr : r = 3 := by rw [← H.out]; decide
    subst hr
    clear H
    go_enter Tryz.func94, Tryz.ntmps94
    go_wp2_with fail
    go_ret
    exact ⟨rfl, rfl⟩
  have q0 : (o == 0) = false := by rw [beq_eq_false_iff_ne]; exact h0
  have q1 : (o == 1) = false := by rw [beq_eq_false_iff_ne]; exact h1
  have q2 : (o == 2) = false := by rw [beq_eq_false_iff_ne]; exact h2
  have q3 : (o == 3) = false := by rw [beq_eq_false_iff_ne]; exact h3
  have q4 : (o == 4) = false := by rw [beq_eq_false_iff_ne]; exact h4
  have q5 : (o == 5) = false := by rw [beq_eq_false_iff_ne]; exact h5
  have q6 : (o == 6) = false := by rw [beq_eq_false_iff_ne]; exact h6
  have q7 : (o == 7) = false := by rw [beq_eq_false_iff_ne]; exact h7
  have q23 : (o == 23) = false := by rw [beq_eq_false_iff_ne]; exact h23
  by_cases h : 8 ≤ o ∧ o ≤ 22
  · have hr : r = 2 := by
      rw [← H.out]
      simp only [ET.arity]
      rw [if_neg (by omega), if_neg (by omega), if_pos (by omega)]
    subst hr
    obtain ⟨ha, hb⟩ := h
    clear H h0 h1 h2 h3 h4 h5 h6 h7 h23
    go_enter Tryz.func94, Tryz.ntmps94
    go_wp2_with fail
    go_ret
    exact ⟨rfl, rfl⟩
  have hr : r = -1 := by
    rw [← H.out]
    simp only [ET.arity]
    rw [if_neg (by omega), if_neg (by omega), if_neg (by omega), if_neg (by omega)]
  subst hr
  have hc : o < 8 ∨ (8 ≤ o ∧ 22 < o) := by omega
  clear H h h0 h1 h2 h3 h4 h5 h6 h7 h23
  rcases hc with hc | ⟨hc, hd⟩
  all_goals
    go_enter Tryz.func94, Tryz.ntmps94
    go_wp2_with fail
    go_ret
    exact ⟨rfl, rfl⟩
theorem place_3 (n : Int) (s : ByteArray) (ks : List ET) : ET.placeB (.mk 3 n s ks) = true := by rw [ET.placeB.eq_def]; simp
theorem place_nil (o n : Int) (s : ByteArray) (h : ¬ o = 3) : ET.placeB (.mk o n s []) = false := by rw [ET.placeB.eq_def]; simp [h]
theorem place_no (o n : Int) (s : ByteArray) (ks : List ET) (h : ¬ o = 3) (h2 : ¬ (o = 4 ∨ o = 5)) : ET.placeB (.mk o n s ks) = false := by rw [ET.placeB.eq_def]; simp [h, h2]
theorem place_kid (o n : Int) (s : ByteArray) (k : ET) (ks : List ET) (h : ¬ o = 3) (h2 : o = 4 ∨ o = 5) : ET.placeB (.mk o n s (k :: ks)) = ET.placeB k := by rw [ET.placeB.eq_def]; simp [h, h2]
set_option maxHeartbeats 1000000 in
theorem place_b (m : Nat) (o n : Int) (s : ByteArray) (ks : List ET) (A : Option Addr) (c : Nat) (w : World) (b : Bool) (hm : ET.cnt (.mk o n s ks) ≤ m) (hE : EOk w s A c ks) (HB : Hid (ET.placeB (.mk o n s ks) = b)) :
    Calls Tryz.prog 95 #[.agg #[.int .i64 o, .int .i64 n, .string s, .slice A ks.length c]] w fun e w' => e = .returned (.bool b) ∧ Below w.heap.size w w' := by
  have HE := Lib.hid hE
  clear hE
  go_enter Tryz.func95, Tryz.ntmps95
  go_wp2_with fail
  go_loopg [] m (fun k wr => ∃ (o n : Int) (s : ByteArray) (ks : List ET) (A : Option Addr) (c : Nat), ET.cnt (.mk o n s ks) ≤ k ∧ EOk w s A c ks ∧ Hid (ET.placeB (.mk o n s ks) = b) ∧ boxed w o n s A ks.length c = wr)
  case atStart => exact ⟨o, n, s, ks, A, c, hm, HE.out, HB, rfl⟩
  case round =>
    obtain ⟨o, n, s, ks, A, c, hm, hE, HB, rfl⟩ := hrel
    have hlm : ks.length ≤ 9223372036854775807 := by have h1 := hE.2.1; have h2 := hE.2.2.1; unfold maxLen at h2; omega
    unfold boxed
    by_cases h3 : o = 3
    · subst h3
      have hb : b = true := by rw [← HB.out, place_3]
      subst hb
      clear HB hm hE
      go_wp2_with fail
      go_ret
      exact ⟨rfl, boxed_to (Below.refl _ _)⟩
    by_cases h45 : o = 4 ∨ o = 5
    · cases ks with
      | nil =>
        have hb : b = false := by rw [← HB.out, place_nil o n s h3]
        subst hb
        clear HB hm hE h3
        rcases h45 with h4 | h5
        all_goals
          first | subst h4 | subst h5
          go_wp2_with fail
          go_ret
          exact ⟨rfl, boxed_to (Below.refl _ _)⟩
      | cons k ks =>
        have hlt : 0 < (k :: ks).length := by simp
        obtain ⟨o', n', s', ks', g, f, A', c', hkid, rfl, hg, hok, c0, c1, c2, c3⟩ := hE.kid 0 hlt
        simp only [List.getElem_cons_zero] at hkid
        simp only [Nat.zero_mul, Nat.add_zero] at c0 c1 c2 c3
        subst hkid
        obtain ⟨l, hl⟩ : ∃ l, (ET.mk o' n' s' ks' :: ks).length = l := ⟨_, rfl⟩
        rw [hl] at hlt hlm ⊢
        have HC1 : Hid (ET.cnt (.mk o' n' s' ks') < gk) := by
          have hkc := ET.cnt_kid o n s (.mk o' n' s' ks' :: ks) 0 (by rw [hl]; exact hlt)
          simp only [List.getElem_cons_zero] at hkc
          show _ < gk
          omega
        have HO := Lib.hid hok
        have HP : Hid (ET.placeB (.mk o' n' s' ks') = b) := by show _ = b; rw [← HB.out, place_kid o n s _ ks h3 h45]
        have hbx := boxed_below w o n s (some ⟨g, f, none⟩) l c
        unfold boxed at hbx
        replace c0 := (hbx.cell (p := ⟨g, _, none⟩) hg).trans c0
        replace c1 := (hbx.cell (p := ⟨g, _, none⟩) hg).trans c1
        replace c2 := (hbx.cell (p := ⟨g, _, none⟩) hg).trans c2
        replace c3 := (hbx.cell (p := ⟨g, _, none⟩) hg).trans c3
        clear hok hE hm HB h3 hbx hl
        rcases h45 with h4 | h5
        all_goals
          first | subst h4 | subst h5
          go_wp2_with fail
          go_roundg (ET.cnt (.mk o' n' s' ks'))
          case measure => exact HC1.out
          case rel => exact ⟨o', n', s', ks', A', c', Nat.le_refl _, HO.out, HP, rfl⟩
    · have hb : b = false := by rw [← HB.out, place_no o n s ks h3 h45]
      subst hb
      have q3 : (o == 3) = false := by rw [beq_eq_false_iff_ne]; exact h3
      have q4 : (o == 4) = false := by rw [beq_eq_false_iff_ne]; exact fun h => h45 (.inl h)
      have q5 : (o == 5) = false := by rw [beq_eq_false_iff_ne]; exact fun h => h45 (.inr h)
      clear HB hm hE h3 h45
      go_wp2_with fail
      go_ret
      exact ⟨rfl, boxed_to (Below.refl _ _)⟩
end Go.Proofs.YthlhicegchkjjaaGreatDoor
