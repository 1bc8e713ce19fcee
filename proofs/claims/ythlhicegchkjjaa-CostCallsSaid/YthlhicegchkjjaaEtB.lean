/-
  The walks over the reference's recursive functions on expressions: depth, numbers, names.
-/
import Derived.Test.YthlhicegchkjjaaEtA
import Derived.Test.YthlhicegchkjjaaEtP
import Derived.Test.YthlhicegchkjjaaLn
namespace Go.Proofs.Ythlhicegchkjjaa
open Go.RowKit

set_option maxHeartbeats 400000 in
theorem depth_any (m : Nat) : ∀ (o n : Int) (s : ByteArray) (ks : List ET) (A : Option Addr) (c : Nat) (w : World) (r : Nat), ET.cnt (.mk o n s ks) ≤ m → EOk w s A c ks → r ≤ 1000000 → Hid (ET.dep (.mk o n s ks) = r) →
    Calls Try.prog 76 #[.agg #[.int .i64 o, .int .i64 n, .string s, .slice A ks.length c]] w fun e w' => e = .returned (.int .i64 r) ∧ Below w.heap.size w w' := by
  induction m with
  | zero => intro o n s ks A c w r h _ _; simp [ET.cnt] at h
  | succ m ih =>
    intro o n s ks A c w r hm hE hr HB
    have IH := Lib.hid ih
    clear ih
    have hlm : ks.length ≤ 9223372036854775807 := by have h1 := hE.2.1; have h2 := hE.2.2.1; unfold maxLen at h2; omega
    have HE := Lib.hid hE
    have HM := Lib.hid hm
    have HD : Hid (ET.depL ks + 1 = r) := by have := HB.out; simp only [ET.dep] at this; exact this
    clear hE hm HB
    go_enter Try.func76, Try.ntmps76
    go_wp2_with fail
    go_loopw [3, 4] (fun u v wr => ∃ (k d : Nat), k ≤ ks.length ∧ d ≤ 1000000 ∧ u = .int .i64 d ∧ v = .int .i64 k ∧ Hid (d = ET.depL (ks.take k)) ∧ Below (boxed w o n s A ks.length c).heap.size (boxed w o n s A ks.length c) wr) (fun _ v _ => ks.length - (intOf v).toNat)
    case atStart => exact ⟨0, 0, by omega, by omega, rfl, rfl, rfl, Below.refl _ _⟩
    case round =>
      obtain ⟨k, d, hk, hd, rfl, rfl, HK, hbr⟩ := hrel
      obtain ⟨_, _, _, b3⟩ := boxed_cells hbr
      by_cases hlt : k < ks.length
      · obtain ⟨o', n', s', ks', g, f, A', c', hkid, rfl, hg, hok, c0, c1, c2, c3⟩ := (HE.out.below (boxed_to hbr)).kid k hlt
        have HC1 : Hid (ET.cnt (.mk o' n' s' ks') ≤ m) := by
          have hkc := ET.cnt_kid o n s ks k hlt
          rw [hkid] at hkc
          have := HM.out
          show _ ≤ m
          omega
        have HO := Lib.hid hok
        obtain ⟨q, hq⟩ : ∃ q, ET.dep (.mk o' n' s' ks') = q := ⟨_, rfl⟩
        have HS : Hid (ET.depL (ks.take (k + 1)) = max d q) := by
          show _ = _
          rw [ET.take_one ks k hlt, ET.depL_app, ← HK.out, hkid]; simp [ET.depL, hq]
        have hqr : max d q ≤ r := by
          have h1 := ET.depL_app (ks.take (k + 1)) (ks.drop (k + 1))
          rw [List.take_append_drop] at h1
          have h2 := HS.out
          have h3 := HD.out
          omega
        have HQ := Lib.hid hq
        clear hok hkid hq
        by_cases hqd : d < q
        · go_wp2_with fail
          refine (IH.out o' n' s' ks' A' c' _ q HC1.out HO.out (by omega) HQ).mono ?_
          rintro e w2 ⟨rfl, hb2⟩
          have hbr2 := hbr.trans (hb2.mono hbr.size)
          clear hb2 c0 c1 c2 c3
          go_wp2_with fail
          go_roundw
          case rel => exact ⟨k + 1, q, by omega, by omega, rfl, by go_num, by show q = _; rw [HS.out]; omega, hbr2⟩
          case measure => simp [intOf]; omega
        · go_wp2_with fail
          refine (IH.out o' n' s' ks' A' c' _ q HC1.out HO.out (by omega) HQ).mono ?_
          rintro e w2 ⟨rfl, hb2⟩
          have hbr2 := hbr.trans (hb2.mono hbr.size)
          clear hb2 c0 c1 c2 c3
          go_wp2_with fail
          go_roundw
          case rel => exact ⟨k + 1, d, by omega, by omega, rfl, by go_num, by show d = _; rw [HS.out]; omega, hbr2⟩
          case measure => simp [intOf]; omega
      · have hke : k = ks.length := by omega
        have HX : Hid (r = d + 1) := by
          show r = _
          rw [← HD.out, HK.out, hke, List.take_length]
        go_wp2_with fail
        go_ret
        exact ⟨ret_int (by rw [HX.out]; rfl), boxed_to hbr⟩

mutual
theorem left_low {w : World} : ∀ (e : ET) (A : Option Addr) (i : Nat) (l : Int), KdE w A i e → 0 ≤ l → -576460752303423489 ≤ ET.left e l
  | .mk _ _ s ks, A, i, l, h, h0 => by
    simp only [KdE] at h
    obtain ⟨h1, g, f, A', c, _, _, _, _, _, _, _, _, hk⟩ := h
    simp only [ET.left]
    refine leftL_low ks A' 0 _ hk ?_
    unfold maxLen at h1
    omega
theorem leftL_low {w : World} : ∀ (ks : List ET) (A : Option Addr) (i : Nat) (l : Int), Kd w A i ks → -576460752303423489 ≤ l → -576460752303423489 ≤ ET.leftL ks l
  | [], _, _, l, _, h => by simpa [ET.leftL] using h
  | k :: ks, A, i, l, h, h0 => by
    simp only [Kd] at h
    simp only [ET.leftL]
    split
    · rename_i hl
      exact leftL_low ks A (i + 1) _ h.2 (left_low k A i l h.1 hl)
    · exact h0
end
set_option maxHeartbeats 1000000 in
theorem left_any (m : Nat) : ∀ (o n : Int) (s : ByteArray) (ks : List ET) (A : Option Addr) (c : Nat) (l : Int) (w : World) (r : Int), ET.cnt (.mk o n s ks) ≤ m → EOk w s A c ks → 0 ≤ l → l ≤ 1000000 → Hid (ET.left (.mk o n s ks) l = r) →
    Calls Try.prog 52 #[.agg #[.int .i64 o, .int .i64 n, .string s, .slice A ks.length c], .int .i64 l] w fun e w' => e = .returned (.int .i64 r) ∧ Below w.heap.size w w' := by
  induction m with
  | zero => intro o n s ks A c l w r h _ _; simp [ET.cnt] at h
  | succ m ih =>
    intro o n s ks A c l w r hm hE hl0 hl1 HB
    have IH := Lib.hid ih
    clear ih
    have hlm : ks.length ≤ 9223372036854775807 := by have h1 := hE.2.1; have h2 := hE.2.2.1; unfold maxLen at h2; omega
    have hsz : s.size ≤ 9223372036854775807 := by have h1 := hE.1; unfold maxLen at h1; omega
    have HE := Lib.hid hE
    have HM := Lib.hid hm
    obtain ⟨z, hz⟩ : ∃ z : Int, z = ((s.size / 16 : Nat) : Int) := ⟨_, rfl⟩
    have HD : Hid (ET.leftL ks (l - 1 - z) = r) := by have := HB.out; simp only [ET.left] at this; rw [hz]; exact this
    have hz1 : 0 ≤ z ∧ z ≤ 576460752303423487 := by omega
    have HZ : Hid ((s.size : Int) / 16 = z) := by show _ = z; rw [hz]; omega
    obtain ⟨hz2, hz3⟩ := hz1
    clear hE hm HB hz
    go_enter Try.func52, Try.ntmps52
    go_wp2_with fail
    rw [HZ.out]
    go_loopw [1, 5] (fun u v wr => ∃ (k : Nat) (q : Int), k ≤ ks.length ∧ -576460752303423500 ≤ q ∧ q ≤ 1000000 ∧ u = .int .i64 q ∧ v = .int .i64 k ∧ Hid (ET.leftL (ks.drop k) q = r) ∧ Below (boxed w o n s A ks.length c).heap.size (boxed w o n s A ks.length c) wr) (fun _ v _ => ks.length - (intOf v).toNat)
    case atStart => exact ⟨0, l - 1 - z, by omega, by omega, by omega, rfl, rfl, HD, Below.refl _ _⟩
    case round =>
      obtain ⟨k, q, hk, hq0, hq1, rfl, rfl, HK, hbr⟩ := hrel
      obtain ⟨_, _, _, b3⟩ := boxed_cells hbr
      by_cases hlt : k < ks.length
      · by_cases hqn : 0 ≤ q
        · obtain ⟨o', n', s', ks', g, f, A', c', hkid, rfl, hg, hok, c0, c1, c2, c3⟩ := (HE.out.below (boxed_to hbr)).kid k hlt
          have HC1 : Hid (ET.cnt (.mk o' n' s' ks') ≤ m) := by
            have hkc := ET.cnt_kid o n s ks k hlt
            rw [hkid] at hkc
            have := HM.out
            show _ ≤ m
            omega
          have HO := Lib.hid hok
          obtain ⟨q', hq'⟩ : ∃ q', ET.left (.mk o' n' s' ks') q = q' := ⟨_, rfl⟩
          have HS : Hid (ET.leftL (ks.drop (k + 1)) q' = r) := by
            show _ = r
            rw [← HK.out, ET.dropL ks k hlt, hkid]
            simp only [ET.leftL]
            rw [if_pos hqn, hq']
          have hq'1 := ET.left_le (.mk o' n' s' ks') q
          rw [hq'] at hq'1
          have hq'2 : -576460752303423500 ≤ q' := by
            have h1 := left_low ks[k] _ _ q (Kd.get ks 0 k hlt HE.out.2.2.2) hqn
            rw [hkid, hq'] at h1
            omega
          have HQ := Lib.hid hq'
          clear hok hkid hq'
          go_wp2_with fail
          refine (IH.out o' n' s' ks' A' c' q _ q' HC1.out HO.out hqn hq1 HQ).mono ?_
          rintro e w2 ⟨rfl, hb2⟩
          have hbr2 := hbr.trans (hb2.mono hbr.size)
          clear hb2 c0 c1 c2 c3
          go_wp2_with fail
          go_roundw
          case rel => exact ⟨k + 1, q', by omega, hq'2, by omega, rfl, by go_num, HS, hbr2⟩
          case measure => simp [intOf]; omega
        · have HX : Hid (r = q) := by show r = q; rw [← HK.out, ET.leftL_neg _ q (by omega)]
          go_wp2_with fail
          go_ret
          exact ⟨ret_int HX.out.symm, boxed_to hbr⟩
      · have hke : k = ks.length := by omega
        have HX : Hid (r = q) := by show r = q; rw [← HK.out, hke, List.drop_length]; rfl
        go_wp2_with fail
        go_ret
        exact ⟨ret_int HX.out.symm, boxed_to hbr⟩

set_option maxHeartbeats 1000000 in
theorem numbers_any (m : Nat) : ∀ (o n : Int) (s : ByteArray) (ks : List ET) (A : Option Addr) (c : Nat) (w : World) (b : Bool), ET.cnt (.mk o n s ks) ≤ m → EOk w s A c ks → Hid (ET.numsB (.mk o n s ks) = b) →
    Calls Try.prog 65 #[.agg #[.int .i64 o, .int .i64 n, .string s, .slice A ks.length c]] w fun e w' => e = .returned (.bool b) ∧ Below w.heap.size w w' := by
  induction m with
  | zero => intro o n s ks A c w b h _ _; simp [ET.cnt] at h
  | succ m ih =>
    intro o n s ks A c w b hm hE HB
    have IH := Lib.hid ih
    clear ih
    have hlm : ks.length ≤ 9223372036854775807 := by have h1 := hE.2.1; have h2 := hE.2.2.1; unfold maxLen at h2; omega
    have HSZ := Lib.hid hE.1
    have HE := Lib.hid hE
    have HM := Lib.hid hm
    clear hE hm
    have H0 : Hid ((((!decide (o = 0)) || (decide (0 ≤ n) && decide (n ≤ 1048576))) && ET.numsL ks) = b) := by have := HB.out; simp only [ET.numsB] at this; exact this
    clear HB
    by_cases ho : o = 0
    · subst ho
      by_cases hn : 0 ≤ n ∧ n ≤ 1048576
      · obtain ⟨hn0, hn1⟩ := hn
        have HL : Hid (ET.numsL ks = b) := by show _ = b; rw [← H0.out]; simp [hn0, hn1]
        clear H0
        go_enter Try.func65, Try.ntmps65
        go_wp2_with fail
        go_loopw [3] (fun v wr => ∃ (k : Nat), k ≤ ks.length ∧ v = .int .i64 k ∧ Hid (ET.numsL (ks.drop k) = b) ∧ Below (boxed w 0 n s A ks.length c).heap.size (boxed w 0 n s A ks.length c) wr) (fun v _ => ks.length - (intOf v).toNat)
        case atStart => exact ⟨0, by omega, rfl, HL, Below.refl _ _⟩
        case round =>
          obtain ⟨k, hk, rfl, HK, hbr⟩ := hrel
          obtain ⟨_, _, _, b3⟩ := boxed_cells hbr
          by_cases hlt : k < ks.length
          · obtain ⟨o', n', s', ks', g, f, A', c', hkid, rfl, hg, hok, c0, c1, c2, c3⟩ := (HE.out.below (boxed_to hbr)).kid k hlt
            have HC1 : Hid (ET.cnt (.mk o' n' s' ks') ≤ m) := by
              have hkc := ET.cnt_kid 0 n s ks k hlt
              rw [hkid] at hkc
              have := HM.out
              show _ ≤ m
              omega
            have HO := Lib.hid hok
            have HS : Hid (ET.numsL (ks.drop k) = (ET.numsB (.mk o' n' s' ks') && ET.numsL (ks.drop (k + 1)))) := by
              show _ = _
              rw [ET.dropL ks k hlt, hkid]; rfl
            clear hok hkid
            rcases bool_cases (ET.numsB (.mk o' n' s' ks')) with HF | HF
            · go_wp2_with fail
              refine (IH.out o' n' s' ks' A' c' _ true HC1.out HO.out HF).mono ?_
              rintro e w2 ⟨rfl, hb2⟩
              have hbr2 := hbr.trans (hb2.mono hbr.size)
              clear hb2 c0 c1 c2 c3
              go_wp2_with fail
              go_roundw
              case rel => exact ⟨k + 1, by omega, by go_num, by show _ = _; rw [← HK.out, HS.out, HF.out, Bool.true_and], hbr2⟩
              case measure => simp [intOf]; omega
            · have HX : Hid (b = false) := by show b = _; rw [← HK.out, HS.out, HF.out, Bool.false_and]
              go_wp2_with fail
              refine (IH.out o' n' s' ks' A' c' _ false HC1.out HO.out HF).mono ?_
              rintro e w2 ⟨rfl, hb2⟩
              have hbr2 := hbr.trans (hb2.mono hbr.size)
              clear hb2 c0 c1 c2 c3
              go_wp2_with fail
              go_ret
              exact ⟨ret_bool HX.out.symm, boxed_to hbr2⟩
          · have hke : k = ks.length := by omega
            have HX : Hid (b = true) := by show b = _; rw [← HK.out, hke, List.drop_length]; rfl
            go_wp2_with fail
            go_ret
            exact ⟨ret_bool HX.out.symm, boxed_to hbr⟩
      · have HX : Hid (b = false) := by
          show b = _
          rw [← H0.out]
          by_cases h1 : 0 ≤ n
          · have h2 : ¬ n ≤ 1048576 := fun h => hn ⟨h1, h⟩
            simp [h2]
          · simp [h1]
        have hc : n < 0 ∨ (0 ≤ n ∧ 1048576 < n) := by omega
        clear hn H0
        rcases hc with hc | ⟨hc1, hc2⟩
        all_goals
          go_enter Try.func65, Try.ntmps65
          go_wp2_with fail
          go_ret
          exact ⟨ret_bool HX.out.symm, boxed_to (Below.refl _ _)⟩
    · have ho1 : (o == 0) = false := by rw [beq_eq_false_iff_ne]; exact ho
      have HL : Hid (ET.numsL ks = b) := by show _ = b; rw [← H0.out]; simp [ho]
      clear H0 ho
      go_enter Try.func65, Try.ntmps65
      go_wp2_with fail
      go_loopw [3] (fun v wr => ∃ (k : Nat), k ≤ ks.length ∧ v = .int .i64 k ∧ Hid (ET.numsL (ks.drop k) = b) ∧ Below (boxed w o n s A ks.length c).heap.size (boxed w o n s A ks.length c) wr) (fun v _ => ks.length - (intOf v).toNat)
      case atStart => exact ⟨0, by omega, rfl, HL, Below.refl _ _⟩
      case round =>
        obtain ⟨k, hk, rfl, HK, hbr⟩ := hrel
        obtain ⟨_, _, _, b3⟩ := boxed_cells hbr
        by_cases hlt : k < ks.length
        · obtain ⟨o', n', s', ks', g, f, A', c', hkid, rfl, hg, hok, c0, c1, c2, c3⟩ := (HE.out.below (boxed_to hbr)).kid k hlt
          have HC1 : Hid (ET.cnt (.mk o' n' s' ks') ≤ m) := by
            have hkc := ET.cnt_kid o n s ks k hlt
            rw [hkid] at hkc
            have := HM.out
            show _ ≤ m
            omega
          have HO := Lib.hid hok
          have HS : Hid (ET.numsL (ks.drop k) = (ET.numsB (.mk o' n' s' ks') && ET.numsL (ks.drop (k + 1)))) := by
            show _ = _
            rw [ET.dropL ks k hlt, hkid]; rfl
          clear hok hkid
          rcases bool_cases (ET.numsB (.mk o' n' s' ks')) with HF | HF
          · go_wp2_with fail
            refine (IH.out o' n' s' ks' A' c' _ true HC1.out HO.out HF).mono ?_
            rintro e w2 ⟨rfl, hb2⟩
            have hbr2 := hbr.trans (hb2.mono hbr.size)
            clear hb2 c0 c1 c2 c3
            go_wp2_with fail
            go_roundw
            case rel => exact ⟨k + 1, by omega, by go_num, by show _ = _; rw [← HK.out, HS.out, HF.out, Bool.true_and], hbr2⟩
            case measure => simp [intOf]; omega
          · have HX : Hid (b = false) := by show b = _; rw [← HK.out, HS.out, HF.out, Bool.false_and]
            go_wp2_with fail
            refine (IH.out o' n' s' ks' A' c' _ false HC1.out HO.out HF).mono ?_
            rintro e w2 ⟨rfl, hb2⟩
            have hbr2 := hbr.trans (hb2.mono hbr.size)
            clear hb2 c0 c1 c2 c3
            go_wp2_with fail
            go_ret
            exact ⟨ret_bool HX.out.symm, boxed_to hbr2⟩
        · have hke : k = ks.length := by omega
          have HX : Hid (b = true) := by show b = _; rw [← HK.out, hke, List.drop_length]; rfl
          go_wp2_with fail
          go_ret
          exact ⟨ret_bool HX.out.symm, boxed_to hbr⟩

set_option maxHeartbeats 1000000 in
theorem names_any (m : Nat) : ∀ (o n : Int) (s : ByteArray) (ks : List ET) (A : Option Addr) (c : Nat) (w : World) (b : Bool), ET.cnt (.mk o n s ks) ≤ m → EOk w s A c ks → Hid (ET.namesB (.mk o n s ks) = b) →
    Calls Try.prog 64 #[.agg #[.int .i64 o, .int .i64 n, .string s, .slice A ks.length c]] w fun e w' => e = .returned (.bool b) ∧ Below w.heap.size w w' := by
  induction m with
  | zero => intro o n s ks A c w b h _ _; simp [ET.cnt] at h
  | succ m ih =>
    intro o n s ks A c w b hm hE HB
    have IH := Lib.hid ih
    clear ih
    have hlm : ks.length ≤ 9223372036854775807 := by have h1 := hE.2.1; have h2 := hE.2.2.1; unfold maxLen at h2; omega
    have HSZ := Lib.hid hE.1
    have HE := Lib.hid hE
    have HM := Lib.hid hm
    clear hE hm
    have H0 : Hid ((((!(decide (o = 3) || decide (o = 4))) || Lx.isNameB s.data.toList) && ET.namesL ks) = b) := by have := HB.out; simp only [ET.namesB] at this; exact this
    clear HB
    by_cases ho3 : o = 3
    · subst ho3
      rcases bool_cases (Lx.isNameB s.data.toList) with HN | HN
      · have HL : Hid (ET.namesL ks = b) := by show _ = b; rw [← H0.out, HN.out]; simp
        clear H0
        go_enter Try.func64, Try.ntmps64
        go_wp2_with fail
        refine (rname_b s true HN _ HSZ.out).mono ?_
        rintro e w9 ⟨rfl, rfl⟩
        go_wp2_with fail
        go_loopw [3] (fun v wr => ∃ (k : Nat), k ≤ ks.length ∧ v = .int .i64 k ∧ Hid (ET.namesL (ks.drop k) = b) ∧ Below (boxed w 3 n s A ks.length c).heap.size (boxed w 3 n s A ks.length c) wr) (fun v _ => ks.length - (intOf v).toNat)
        case atStart => exact ⟨0, by omega, rfl, HL, Below.refl _ _⟩
        case round =>
          obtain ⟨k, hk, rfl, HK, hbr⟩ := hrel
          obtain ⟨_, _, _, b3⟩ := boxed_cells hbr
          by_cases hlt : k < ks.length
          · obtain ⟨o', n', s', ks', g, f, A', c', hkid, rfl, hg, hok, c0, c1, c2, c3⟩ := (HE.out.below (boxed_to hbr)).kid k hlt
            have HC1 : Hid (ET.cnt (.mk o' n' s' ks') ≤ m) := by
              have hkc := ET.cnt_kid 3 n s ks k hlt
              rw [hkid] at hkc
              have := HM.out
              show _ ≤ m
              omega
            have HO := Lib.hid hok
            have HS : Hid (ET.namesL (ks.drop k) = (ET.namesB (.mk o' n' s' ks') && ET.namesL (ks.drop (k + 1)))) := by
              show _ = _
              rw [ET.dropL ks k hlt, hkid]; rfl
            clear hok hkid
            rcases bool_cases (ET.namesB (.mk o' n' s' ks')) with HF | HF
            · go_wp2_with fail
              refine (IH.out o' n' s' ks' A' c' _ true HC1.out HO.out HF).mono ?_
              rintro e w2 ⟨rfl, hb2⟩
              have hbr2 := hbr.trans (hb2.mono hbr.size)
              clear hb2 c0 c1 c2 c3
              go_wp2_with fail
              go_roundw
              case rel => exact ⟨k + 1, by omega, by go_num, by show _ = _; rw [← HK.out, HS.out, HF.out, Bool.true_and], hbr2⟩
              case measure => simp [intOf]; omega
            · have HX : Hid (b = false) := by show b = _; rw [← HK.out, HS.out, HF.out, Bool.false_and]
              go_wp2_with fail
              refine (IH.out o' n' s' ks' A' c' _ false HC1.out HO.out HF).mono ?_
              rintro e w2 ⟨rfl, hb2⟩
              have hbr2 := hbr.trans (hb2.mono hbr.size)
              clear hb2 c0 c1 c2 c3
              go_wp2_with fail
              go_ret
              exact ⟨ret_bool HX.out.symm, boxed_to hbr2⟩
          · have hke : k = ks.length := by omega
            have HX : Hid (b = true) := by show b = _; rw [← HK.out, hke, List.drop_length]; rfl
            go_wp2_with fail
            go_ret
            exact ⟨ret_bool HX.out.symm, boxed_to hbr⟩
      · have HX : Hid (b = false) := by show b = _; rw [← H0.out, HN.out]; simp
        clear H0
        go_enter Try.func64, Try.ntmps64
        go_wp2_with fail
        refine (rname_b s false HN _ HSZ.out).mono ?_
        rintro e w9 ⟨rfl, rfl⟩
        go_wp2_with fail
        go_ret
        exact ⟨ret_bool HX.out.symm, boxed_to (Below.refl _ _)⟩
    by_cases ho4 : o = 4
    · subst ho4
      rcases bool_cases (Lx.isNameB s.data.toList) with HN | HN
      · have HL : Hid (ET.namesL ks = b) := by show _ = b; rw [← H0.out, HN.out]; simp
        clear H0
        go_enter Try.func64, Try.ntmps64
        go_wp2_with fail
        refine (rname_b s true HN _ HSZ.out).mono ?_
        rintro e w9 ⟨rfl, rfl⟩
        go_wp2_with fail
        go_loopw [3] (fun v wr => ∃ (k : Nat), k ≤ ks.length ∧ v = .int .i64 k ∧ Hid (ET.namesL (ks.drop k) = b) ∧ Below (boxed w 4 n s A ks.length c).heap.size (boxed w 4 n s A ks.length c) wr) (fun v _ => ks.length - (intOf v).toNat)
        case atStart => exact ⟨0, by omega, rfl, HL, Below.refl _ _⟩
        case round =>
          obtain ⟨k, hk, rfl, HK, hbr⟩ := hrel
          obtain ⟨_, _, _, b3⟩ := boxed_cells hbr
          by_cases hlt : k < ks.length
          · obtain ⟨o', n', s', ks', g, f, A', c', hkid, rfl, hg, hok, c0, c1, c2, c3⟩ := (HE.out.below (boxed_to hbr)).kid k hlt
            have HC1 : Hid (ET.cnt (.mk o' n' s' ks') ≤ m) := by
              have hkc := ET.cnt_kid 4 n s ks k hlt
              rw [hkid] at hkc
              have := HM.out
              show _ ≤ m
              omega
            have HO := Lib.hid hok
            have HS : Hid (ET.namesL (ks.drop k) = (ET.namesB (.mk o' n' s' ks') && ET.namesL (ks.drop (k + 1)))) := by
              show _ = _
              rw [ET.dropL ks k hlt, hkid]; rfl
            clear hok hkid
            rcases bool_cases (ET.namesB (.mk o' n' s' ks')) with HF | HF
            · go_wp2_with fail
              refine (IH.out o' n' s' ks' A' c' _ true HC1.out HO.out HF).mono ?_
              rintro e w2 ⟨rfl, hb2⟩
              have hbr2 := hbr.trans (hb2.mono hbr.size)
              clear hb2 c0 c1 c2 c3
              go_wp2_with fail
              go_roundw
              case rel => exact ⟨k + 1, by omega, by go_num, by show _ = _; rw [← HK.out, HS.out, HF.out, Bool.true_and], hbr2⟩
              case measure => simp [intOf]; omega
            · have HX : Hid (b = false) := by show b = _; rw [← HK.out, HS.out, HF.out, Bool.false_and]
              go_wp2_with fail
              refine (IH.out o' n' s' ks' A' c' _ false HC1.out HO.out HF).mono ?_
              rintro e w2 ⟨rfl, hb2⟩
              have hbr2 := hbr.trans (hb2.mono hbr.size)
              clear hb2 c0 c1 c2 c3
              go_wp2_with fail
              go_ret
              exact ⟨ret_bool HX.out.symm, boxed_to hbr2⟩
          · have hke : k = ks.length := by omega
            have HX : Hid (b = true) := by show b = _; rw [← HK.out, hke, List.drop_length]; rfl
            go_wp2_with fail
            go_ret
            exact ⟨ret_bool HX.out.symm, boxed_to hbr⟩
      · have HX : Hid (b = false) := by show b = _; rw [← H0.out, HN.out]; simp
        clear H0
        go_enter Try.func64, Try.ntmps64
        go_wp2_with fail
        refine (rname_b s false HN _ HSZ.out).mono ?_
        rintro e w9 ⟨rfl, rfl⟩
        go_wp2_with fail
        go_ret
        exact ⟨ret_bool HX.out.symm, boxed_to (Below.refl _ _)⟩
    have q3 : (o == 3) = false := by rw [beq_eq_false_iff_ne]; exact ho3
    have q4 : (o == 4) = false := by rw [beq_eq_false_iff_ne]; exact ho4
    have HL : Hid (ET.namesL ks = b) := by show _ = b; rw [← H0.out]; simp [ho3, ho4]
    clear H0 ho3 ho4
    go_enter Try.func64, Try.ntmps64
    go_wp2_with fail
    go_loopw [3] (fun v wr => ∃ (k : Nat), k ≤ ks.length ∧ v = .int .i64 k ∧ Hid (ET.namesL (ks.drop k) = b) ∧ Below (boxed w o n s A ks.length c).heap.size (boxed w o n s A ks.length c) wr) (fun v _ => ks.length - (intOf v).toNat)
    case atStart => exact ⟨0, by omega, rfl, HL, Below.refl _ _⟩
    case round =>
      obtain ⟨k, hk, rfl, HK, hbr⟩ := hrel
      obtain ⟨_, _, _, b3⟩ := boxed_cells hbr
      by_cases hlt : k < ks.length
      · obtain ⟨o', n', s', ks', g, f, A', c', hkid, rfl, hg, hok, c0, c1, c2, c3⟩ := (HE.out.below (boxed_to hbr)).kid k hlt
        have HC1 : Hid (ET.cnt (.mk o' n' s' ks') ≤ m) := by
          have hkc := ET.cnt_kid o n s ks k hlt
          rw [hkid] at hkc
          have := HM.out
          show _ ≤ m
          omega
        have HO := Lib.hid hok
        have HS : Hid (ET.namesL (ks.drop k) = (ET.namesB (.mk o' n' s' ks') && ET.namesL (ks.drop (k + 1)))) := by
          show _ = _
          rw [ET.dropL ks k hlt, hkid]; rfl
        clear hok hkid
        rcases bool_cases (ET.namesB (.mk o' n' s' ks')) with HF | HF
        · go_wp2_with fail
          refine (IH.out o' n' s' ks' A' c' _ true HC1.out HO.out HF).mono ?_
          rintro e w2 ⟨rfl, hb2⟩
          have hbr2 := hbr.trans (hb2.mono hbr.size)
          clear hb2 c0 c1 c2 c3
          go_wp2_with fail
          go_roundw
          case rel => exact ⟨k + 1, by omega, by go_num, by show _ = _; rw [← HK.out, HS.out, HF.out, Bool.true_and], hbr2⟩
          case measure => simp [intOf]; omega
        · have HX : Hid (b = false) := by show b = _; rw [← HK.out, HS.out, HF.out, Bool.false_and]
          go_wp2_with fail
          refine (IH.out o' n' s' ks' A' c' _ false HC1.out HO.out HF).mono ?_
          rintro e w2 ⟨rfl, hb2⟩
          have hbr2 := hbr.trans (hb2.mono hbr.size)
          clear hb2 c0 c1 c2 c3
          go_wp2_with fail
          go_ret
          exact ⟨ret_bool HX.out.symm, boxed_to hbr2⟩
      · have hke : k = ks.length := by omega
        have HX : Hid (b = true) := by show b = _; rw [← HK.out, hke, List.drop_length]; rfl
        go_wp2_with fail
        go_ret
        exact ⟨ret_bool HX.out.symm, boxed_to hbr⟩
end Go.Proofs.Ythlhicegchkjjaa
