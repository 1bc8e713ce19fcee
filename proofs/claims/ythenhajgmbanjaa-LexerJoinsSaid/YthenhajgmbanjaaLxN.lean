/-
  The walks over 'empty' and 'alike'.
-/
import Derived.Test.YthenhajgmbanjaaLxM
namespace Go.Proofs.Ythenhajgmbanjaa
open Go.RowKit

theorem emst_nl (s : ByteArray) (k : Nat) (f : Bool) (h : k < s.size) (hc : s[k] = 10) : Lx.emst f (s.data.toList.drop k) = Lx.emst false (s.data.toList.drop (k + 1)) := by
  rw [drop_at s k h, hc]; rfl
theorem emst_ha (s : ByteArray) (k : Nat) (f : Bool) (h : k < s.size) (hc : s[k] = 35) : Lx.emst f (s.data.toList.drop k) = Lx.emst true (s.data.toList.drop (k + 1)) := by
  rw [drop_at s k h, hc]; rfl
theorem emst_go (s : ByteArray) (k : Nat) (f : Bool) (h : k < s.size) (h1 : (s[k] == 10) = false) (h2 : (s[k] == 35) = false) (h3 : (!f && (!(s[k] == 32) && !(s[k] == 9))) = false) : Lx.emst f (s.data.toList.drop k) = Lx.emst f (s.data.toList.drop (k + 1)) := by
  rw [drop_at s k h]; simp only [Lx.emst, h1, h2, h3, Bool.false_eq_true, if_false]
theorem emst_no (s : ByteArray) (k : Nat) (f : Bool) (h : k < s.size) (h1 : (s[k] == 10) = false) (h2 : (s[k] == 35) = false) (h3 : (!f && (!(s[k] == 32) && !(s[k] == 9))) = true) : Lx.emst f (s.data.toList.drop k) = none := by
  rw [drop_at s k h]; simp only [Lx.emst, h1, h2, h3, Bool.false_eq_true, if_false, if_true]
theorem u8_int (c : UInt8) (n : Nat) (d : UInt8) (hd : d.toNat = n) : ((c.toNat : Int) == (n : Int)) = (c == d) := by rw [← hd]; exact u8_beq c d

theorem empty_any (s : ByteArray) (b : Bool) (H : Hid (Lx.emptyB s.data.toList = b)) (w : World) (hs : s.size ≤ 9000) :
    Calls Try.prog 14 #[.string s] w fun e w' => e = .returned (.bool b) ∧ w = w' := by
  have H0 : Hid ((Lx.emst false s.data.toList).isSome = b) := H
  clear H
  go_enter Try.func14, Try.ntmps14
  go_wp2_with fail
  go_loop [3, 7] (fun u v => ∃ (f : Bool) (k : Nat), k ≤ s.size ∧ u = .bool f ∧ v = .int .i64 k ∧ Hid ((Lx.emst f (s.data.toList.drop k)).isSome = b)) (fun _ v => s.size - (intOf v).toNat)
  case atStart => exact ⟨false, 0, by omega, rfl, rfl, H0⟩
  case round =>
    obtain ⟨f, k, hk, rfl, rfl, H⟩ := hrel
    clear H0
    by_cases hlt : k < s.size
    · by_cases h10 : s[k] = 10
      · have e1 : ((s[k].toNat : Int) == 10) = true := by rw [h10]; rfl
        have HN := Lib.hid (emst_nl s k f hlt h10)
        clear h10
        go_wp2_with fail
        go_round
        case rel => exact ⟨false, k + 1, by omega, rfl, by go_num, by rw [← HN.out]; exact H⟩
        case measure => simp [intOf]; omega
      · have b10 : (s[k] == 10) = false := by simpa using h10
        have e1 : ((s[k].toNat : Int) == 10) = false := (u8_int _ 10 10 rfl).trans b10
        by_cases h35 : s[k] = 35
        · have e2 : ((s[k].toNat : Int) == 35) = true := by rw [h35]; rfl
          have HN := Lib.hid (emst_ha s k f hlt h35)
          clear h35 h10 b10
          go_wp2_with fail
          go_round
          case rel => exact ⟨true, k + 1, by omega, rfl, by go_num, by rw [← HN.out]; exact H⟩
          case measure => simp [intOf]; omega
        · have b35 : (s[k] == 35) = false := by simpa using h35
          have e2 : ((s[k].toNat : Int) == 35) = false := (u8_int _ 35 35 rfl).trans b35
          have d32 := u8_int s[k] 32 32 rfl
          have d9 := u8_int s[k] 9 9 rfl
          have HGo := Lib.hid (emst_go s k f hlt b10 b35)
          have HNo := Lib.hid (emst_no s k f hlt b10 b35)
          clear h10 h35 b10 b35
          have key : (f = true ∨ (f = false ∧ ((s[k].toNat : Int) != 32) = false) ∨ (f = false ∧ ((s[k].toNat : Int) != 32) = true ∧ ((s[k].toNat : Int) != 9) = false)) ∧ Hid ((!f && (!(s[k] == 32) && !(s[k] == 9))) = false) ∨
              (f = false ∧ ((s[k].toNat : Int) != 32) = true ∧ ((s[k].toNat : Int) != 9) = true) ∧ Hid ((!f && (!(s[k] == 32) && !(s[k] == 9))) = true) := by
            change ((s[k].toNat : Int) == 32) = _ at d32
            change ((s[k].toNat : Int) == 9) = _ at d9
            unfold bne
            rw [d32, d9]
            unfold Hid
            cases f <;> cases s[k] == 32 <;> cases s[k] == 9 <;> simp
          clear d32 d9
          rcases key with ⟨hc, hf⟩ | ⟨⟨rfl, c1, c2⟩, hf⟩
          · have HN := Lib.hid (HGo.out hf.out)
            clear HGo HNo hf
            rcases hc with rfl | ⟨rfl, c1⟩ | ⟨rfl, c1, c2⟩
            all_goals
              go_wp2_with fail
              go_round
              case rel => exact ⟨_, k + 1, by omega, rfl, by go_num, by rw [← HN.out]; exact H⟩
              case measure => simp [intOf]; omega
          · have HN := Lib.hid (HNo.out hf.out)
            clear HGo HNo hf
            go_wp2_with fail
            go_ret
            exact ⟨ret_bool (by rw [← H.out, HN.out]; rfl), rfl⟩
    · have he : k = s.size := by omega
      subst he
      go_wp2_with fail
      go_ret
      exact ⟨ret_bool (by rw [← H.out, drop_end s _ (Nat.le_refl _)]; rfl), rfl⟩

theorem alike_n (ts us : List Lx.Tok) (n : Nat) (A B : Option Addr) (c d : Nat) (w : World) (hn : Hid (n = ts.length)) (hk : Hid (ts.map Lx.kt = us.map Lx.kt)) (hl : n ≤ 9000) (ha : Hid (Rd w 3 A n (tvals ts))) (hb : Hid (Rd w 3 B n (tvals us))) :
    Calls Try.prog 15 #[.slice A n c, .slice B n d] w fun e w' => e = .returned (.bool true) ∧ ∃ q, w' = w.drewN q := by
  by_cases h0 : 0 < n
  · obtain ⟨g, rfl, hg, hca⟩ := ha.out.2 h0
    obtain ⟨g2, rfl, hg2, hcb⟩ := hb.out.2 h0
    have HA := Lib.hid hca
    have HB := Lib.hid hcb
    have HM : Hid (n = us.length) := by
      show _ = _
      have := congrArg List.length hk.out
      rw [List.length_map, List.length_map] at this
      rw [← this]; exact hn
    clear ha hb hca hcb
    go_enter Try.func15, Try.ntmps15
    go_wp2_with fail
    go_loopw [13] (fun v wr => ∃ (k q : Nat), k ≤ n ∧ v = .int .i64 k ∧ wr = w.drewN q) (fun v _ => n - (intOf v).toNat)
    case atStart => exact ⟨0, 0, by omega, rfl, rfl⟩
    case round =>
      obtain ⟨k, q, hk1, rfl, rfl⟩ := hrel
      by_cases hlt : k < n
      · have hlt1 : k < ts.length := by rw [← hn.out]; exact hlt
        have hlt2 : k < us.length := by rw [← HM.out]; exact hlt
        obtain ⟨x0, x1, _⟩ := tval_at ts k hlt1
        obtain ⟨y0, y1, _⟩ := tval_at us k hlt2
        have a0 := HA.out _ _ x0
        have a1 := HA.out _ _ x1
        have b0 := HB.out _ _ y0
        have b1 := HB.out _ _ y1
        have hkt : Lx.kt ts[k] = Lx.kt us[k] := by
          have := congrArg (fun l => l[k]?) hk.out
          simp only [List.getElem?_map, List.getElem?_eq_getElem hlt1, List.getElem?_eq_getElem hlt2, Option.map_some, Option.some.injEq] at this
          exact this
        simp only [Lx.kt, Prod.mk.injEq] at hkt
        rw [← hkt.1] at b0
        rw [← hkt.2] at b1
        clear x0 x1 y0 y1 hkt
        obtain ⟨p, hp⟩ : ∃ p : Int, p = ((ts[k].kind : Nat) : Int) := ⟨_, rfl⟩
        obtain ⟨tx, htx⟩ : ∃ tx : ByteArray, tx = ⟨ts[k].text.toArray⟩ := ⟨_, rfl⟩
        rw [← hp] at a0 b0
        rw [← htx] at a1 b1
        clear hp htx
        have i1 : (0 : Int) ≤ (k : Int) := by omega
        have i2 : (k : Int) < (n : Int) := by omega
        go_wp2_with fail
        go_quiet (fail)
        go_wp2_with fail
        go_roundw
        case rel => exact ⟨k + 1, _, by omega, by go_num, rfl⟩
        case measure => simp [intOf]; omega
      · go_wp2_with fail
        go_ret
        exact ⟨rfl, q, rfl⟩
  · have hz : n = 0 := by omega
    subst hz
    clear ha hb hn hk h0 hl
    go_enter Try.func15, Try.ntmps15
    go_wp2_with fail
    refine wp_loop_rounds 1 ?_
    rw [rounds_succ]
    go_wp2_with fail
    go_ret
    exact ⟨rfl, 0, rfl⟩
end Go.Proofs.Ythenhajgmbanjaa
