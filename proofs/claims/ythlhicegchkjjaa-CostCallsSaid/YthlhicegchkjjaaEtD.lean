/-
  The walk over the reference's exprForm.
-/
import Derived.Test.YthlhicegchkjjaaEtC
namespace Go.Proofs.Ythlhicegchkjjaa
open Go.RowKit

theorem bytes_nil (s : ByteArray) (h : s.size = 0) : s = ⟨#[]⟩ := by
  obtain ⟨d⟩ := s
  have : d = #[] := Array.eq_empty_of_size_eq_zero h
  rw [this]
theorem nodeForm_true (o n : Int) (s : ByteArray) (ks : List ET) (h1 : ET.arity o = (ks.length : Int)) (h2 : o = 0 ∨ n = 0) (h3 : o = 3 ∨ o = 4 ∨ s.size = 0) (h4 : (o = 4 ∨ o = 5) → ET.placeB (.mk o n s ks) = true) : ET.nodeForm (.mk o n s ks) = true := by
  simp only [ET.nodeForm, h1, decide_true, Bool.true_and, Bool.and_eq_true, Bool.or_eq_true, decide_eq_true_eq, Bool.not_eq_true']
  refine ⟨h2, h3, ?_⟩
  by_cases h : o = 4 ∨ o = 5
  · exact .inr (h4 h)
  · left
    simp only [Bool.or_eq_false_iff, decide_eq_false_iff_not]
    exact ⟨fun h' => h (.inl h'), fun h' => h (.inr h')⟩
theorem form_false (o n : Int) (s : ByteArray) (ks : List ET) (h : ¬ (ET.arity o = (ks.length : Int)) ∨ (¬ o = 0 ∧ ¬ n = 0) ∨ (¬ o = 3 ∧ ¬ o = 4 ∧ ¬ s.size = 0) ∨ ((o = 4 ∨ o = 5) ∧ ET.placeB (.mk o n s ks) = false)) : ET.formB (.mk o n s ks) = false := by
  simp only [ET.formB, ET.nodeForm]
  rcases h with h | ⟨h, h'⟩ | ⟨h, h', h''⟩ | ⟨h | h, h'⟩
  · simp [h]
  · simp [h, h']
  · simp [h, h', h'']
  all_goals
    have e : ((!(decide (o = 4) || decide (o = 5))) || ET.placeB (.mk o n s ks)) = false := by rw [h', h]; decide
    rw [e]; simp
theorem bytes_some (s : ByteArray) (h : ¬ s.size = 0) : s.toList.isEmpty = false := by
  rw [Lib.toList_data, List.isEmpty_eq_false_iff]
  intro hd
  have hl := congrArg List.length hd
  rw [Array.length_toList] at hl
  exact h hl
theorem form_true (o n : Int) (s : ByteArray) (ks : List ET) (h : ET.nodeForm (.mk o n s ks) = true) : ET.formB (.mk o n s ks) = ET.formL ks := by
  simp only [ET.formB, h, Bool.true_and]

set_option maxHeartbeats 4000000 in
theorem form_any (m : Nat) : ∀ (o n : Int) (s : ByteArray) (ks : List ET) (A : Option Addr) (c : Nat) (w : World) (b : Bool) (l : Nat), ks.length = l → ET.cnt (.mk o n s ks) ≤ m → EOk w s A c ks → Hid (ET.formB (.mk o n s ks) = b) →
    Calls Try.prog 63 #[.agg #[.int .i64 o, .int .i64 n, .string s, .slice A l c]] w fun e w' => e = .returned (.bool b) ∧ Below w.heap.size w w' := by
  induction m with
  | zero => intro o n s ks A c w b l _ h _ _; simp [ET.cnt] at h
  | succ m ih =>
    intro o n s ks A c w b l hl hm hE HB
    have IH := Lib.hid ih
    clear ih
    have hlm : l ≤ 9223372036854775807 := by have h1 := hE.2.1; have h2 := hE.2.2.1; unfold maxLen at h2; omega
    have HE := Lib.hid hE
    have HM := Lib.hid hm
    have HLN := Lib.hid hl
    clear hE hm
    obtain ⟨r, hr⟩ : ∃ r, ET.arity o = r := ⟨_, rfl⟩
    by_cases ha : r = (l : Int)
    case neg =>
      have hb : b = false := by rw [← HB.out]; exact form_false _ _ _ _ (.inl (by rw [hr, hl]; exact ha))
      have HK := Lib.hid hr
      have qa : (r != (l : Int)) = true := by simpa using ha
      clear ha hr hl
      subst hb
      clear HB
      go_enter Try.func63, Try.ntmps63
      go_wp2_with (fail)
      go_quiet ((go_at_call 77; exact Calls.quiet_of_same ((kids_b o r HK _).mono fun _ _ h => ⟨h.1, h.2.symm⟩)))
      go_wp2_with fail
      go_ret
      exact ⟨rfl, boxed_to (below_drewN (Below.refl _ _) _)⟩
    subst ha
    have HK := Lib.hid hr
    by_cases ho0 : o = 0
    · subst ho0
      by_cases hs : s.size = 0
      case neg =>
        have hb : b = false := by rw [← HB.out]; exact form_false _ _ _ _ (.inr (.inr (.inl ⟨by omega, by omega, hs⟩)))
        have qs : s.toList.isEmpty = false := bytes_some s hs
        clear hs hr hl
        subst hb
        clear HB
        go_enter Try.func63, Try.ntmps63
        go_wp2_with (fail)
        go_quiet ((go_at_call 77; exact Calls.quiet_of_same ((kids_b 0 l HK _).mono fun _ _ h => ⟨h.1, h.2.symm⟩)))
        go_wp2_with fail
        go_ret
        exact ⟨rfl, boxed_to (below_drewN (Below.refl _ _) _)⟩
      obtain rfl := bytes_nil s hs
      have HL : Hid (ET.formL ks = b) := by
        show _ = b
        rw [← HB.out]
        exact (form_true _ _ _ _ (nodeForm_true _ _ _ _ (by rw [hr, hl]) (.inl rfl) (.inr (.inr hs)) (by omega))).symm
      clear HB hs hr hl
      go_enter Try.func63, Try.ntmps63
      go_wp2_with (fail)
      go_quiet ((go_at_call 77; exact Calls.quiet_of_same ((kids_b 0 l HK _).mono fun _ _ h => ⟨h.1, h.2.symm⟩)))
      go_wp2_with fail
      go_loopw [3] (fun v wr => ∃ (k : Nat), k ≤ l ∧ v = .int .i64 k ∧ Hid (ET.formL (ks.drop k) = b) ∧ Below (boxed w 0 n ⟨#[]⟩ A l c).heap.size (boxed w 0 n ⟨#[]⟩ A l c) wr) (fun v _ => l - (intOf v).toNat)
      case atStart => exact ⟨0, by omega, rfl, HL, below_drewN (Below.refl _ _) _⟩
      case round =>
        obtain ⟨k, hk, rfl, HK, hbr⟩ := hrel
        obtain ⟨_, _, _, b3⟩ := boxed_cells hbr
        by_cases hlt : k < l
        · obtain ⟨o', n', s', ks', g, f, A', c', hkid, rfl, hg, hok, c0, c1, c2, c3⟩ := (HE.out.below (boxed_to hbr)).kid k (by rw [HLN.out]; exact hlt)
          have HC1 : Hid (ET.cnt (.mk o' n' s' ks') ≤ m) := by
            have hkc := ET.cnt_kid 0 n ⟨#[]⟩ ks k (by rw [HLN.out]; exact hlt)
            rw [hkid] at hkc
            have := HM.out
            show _ ≤ m
            omega
          have HO := Lib.hid hok
          have HS : Hid (ET.formL (ks.drop k) = (ET.formB (.mk o' n' s' ks') && ET.formL (ks.drop (k + 1)))) := by
            show _ = _
            rw [ET.dropL ks k (by rw [HLN.out]; exact hlt), hkid]; rfl
          clear hok hkid
          rcases bool_cases (ET.formB (.mk o' n' s' ks')) with HF | HF
          · go_wp2_with fail
            refine (IH.out o' n' s' ks' A' c' _ true _ rfl HC1.out HO.out HF).mono ?_
            rintro e w2 ⟨rfl, hb2⟩
            have hbr2 := hbr.trans (hb2.mono hbr.size)
            clear hb2 c0 c1 c2 c3
            go_wp2_with fail
            go_roundw
            case rel => exact ⟨k + 1, by omega, by go_num, by show _ = _; rw [← HK.out, HS.out, HF.out, Bool.true_and], hbr2⟩
            case measure => simp [intOf]; omega
          · have HX : Hid (b = false) := by show b = _; rw [← HK.out, HS.out, HF.out, Bool.false_and]
            go_wp2_with fail
            refine (IH.out o' n' s' ks' A' c' _ false _ rfl HC1.out HO.out HF).mono ?_
            rintro e w2 ⟨rfl, hb2⟩
            have hbr2 := hbr.trans (hb2.mono hbr.size)
            clear hb2 c0 c1 c2 c3
            go_wp2_with fail
            go_ret
            exact ⟨ret_bool HX.out.symm, boxed_to hbr2⟩
        · have hke : k = l := by omega
          have HX : Hid (b = true) := by show b = _; rw [← HK.out, hke, ← HLN.out, List.drop_length]; rfl
          go_wp2_with fail
          go_ret
          exact ⟨ret_bool HX.out.symm, boxed_to hbr⟩
    have q0 : (o != 0) = true := by rw [bne_iff_ne]; exact ho0
    by_cases hn : n = 0
    case neg =>
      have hb : b = false := by rw [← HB.out]; exact form_false _ _ _ _ (.inr (.inl ⟨ho0, hn⟩))
      have qn : (n != 0) = true := by rw [bne_iff_ne]; exact hn
      clear hn ho0 hr hl
      subst hb
      clear HB
      go_enter Try.func63, Try.ntmps63
      go_wp2_with (fail)
      go_quiet ((go_at_call 77; exact Calls.quiet_of_same ((kids_b o l HK _).mono fun _ _ h => ⟨h.1, h.2.symm⟩)))
      go_wp2_with fail
      go_ret
      exact ⟨rfl, boxed_to (below_drewN (Below.refl _ _) _)⟩
    subst hn
    by_cases ho3 : o = 3
    · subst ho3
      have HL : Hid (ET.formL ks = b) := by
        show _ = b
        rw [← HB.out]
        exact (form_true _ _ _ _ (nodeForm_true _ _ _ _ (by rw [hr, hl]) (.inr rfl) (.inl rfl) (by omega))).symm
      clear HB hr hl ho0
      go_enter Try.func63, Try.ntmps63
      go_wp2_with (fail)
      go_quiet ((go_at_call 77; exact Calls.quiet_of_same ((kids_b 3 l HK _).mono fun _ _ h => ⟨h.1, h.2.symm⟩)))
      go_wp2_with fail
      go_loopw [3] (fun v wr => ∃ (k : Nat), k ≤ l ∧ v = .int .i64 k ∧ Hid (ET.formL (ks.drop k) = b) ∧ Below (boxed w 3 0 s A l c).heap.size (boxed w 3 0 s A l c) wr) (fun v _ => l - (intOf v).toNat)
      case atStart => exact ⟨0, by omega, rfl, HL, below_drewN (Below.refl _ _) _⟩
      case round =>
        obtain ⟨k, hk, rfl, HK, hbr⟩ := hrel
        obtain ⟨_, _, _, b3⟩ := boxed_cells hbr
        by_cases hlt : k < l
        · obtain ⟨o', n', s', ks', g, f, A', c', hkid, rfl, hg, hok, c0, c1, c2, c3⟩ := (HE.out.below (boxed_to hbr)).kid k (by rw [HLN.out]; exact hlt)
          have HC1 : Hid (ET.cnt (.mk o' n' s' ks') ≤ m) := by
            have hkc := ET.cnt_kid 3 0 s ks k (by rw [HLN.out]; exact hlt)
            rw [hkid] at hkc
            have := HM.out
            show _ ≤ m
            omega
          have HO := Lib.hid hok
          have HS : Hid (ET.formL (ks.drop k) = (ET.formB (.mk o' n' s' ks') && ET.formL (ks.drop (k + 1)))) := by
            show _ = _
            rw [ET.dropL ks k (by rw [HLN.out]; exact hlt), hkid]; rfl
          clear hok hkid
          rcases bool_cases (ET.formB (.mk o' n' s' ks')) with HF | HF
          · go_wp2_with fail
            refine (IH.out o' n' s' ks' A' c' _ true _ rfl HC1.out HO.out HF).mono ?_
            rintro e w2 ⟨rfl, hb2⟩
            have hbr2 := hbr.trans (hb2.mono hbr.size)
            clear hb2 c0 c1 c2 c3
            go_wp2_with fail
            go_roundw
            case rel => exact ⟨k + 1, by omega, by go_num, by show _ = _; rw [← HK.out, HS.out, HF.out, Bool.true_and], hbr2⟩
            case measure => simp [intOf]; omega
          · have HX : Hid (b = false) := by show b = _; rw [← HK.out, HS.out, HF.out, Bool.false_and]
            go_wp2_with fail
            refine (IH.out o' n' s' ks' A' c' _ false _ rfl HC1.out HO.out HF).mono ?_
            rintro e w2 ⟨rfl, hb2⟩
            have hbr2 := hbr.trans (hb2.mono hbr.size)
            clear hb2 c0 c1 c2 c3
            go_wp2_with fail
            go_ret
            exact ⟨ret_bool HX.out.symm, boxed_to hbr2⟩
        · have hke : k = l := by omega
          have HX : Hid (b = true) := by show b = _; rw [← HK.out, hke, ← HLN.out, List.drop_length]; rfl
          go_wp2_with fail
          go_ret
          exact ⟨ret_bool HX.out.symm, boxed_to hbr⟩
    by_cases ho4 : o = 4
    · subst ho4
      clear ho3
      rcases bool_cases (ET.placeB (.mk 4 0 s ks)) with HP | HP
      · have HL : Hid (ET.formL ks = b) := by
          show _ = b
          rw [← HB.out]
          exact (form_true _ _ _ _ (nodeForm_true _ _ _ _ (by rw [hr, hl]) (.inr rfl) (.inr (.inl rfl)) (fun _ => HP.out))).symm
        clear HB hr hl ho0
        go_enter Try.func63, Try.ntmps63
        go_wp2_with (fail)
        go_quiet ((go_at_call 77; exact Calls.quiet_of_same ((kids_b 4 l HK _).mono fun _ _ h => ⟨h.1, h.2.symm⟩)))
        go_wp2_with fail
        refine (isPlace_any (m + 1) 4 0 s ks A c _ true _ HLN.out HM.out (HE.out.below (boxed_to (below_drewN (Below.refl _ _) _))) HP).mono ?_
        rintro e w2 ⟨rfl, hb2⟩
        have hbx : Below (boxed w 4 0 s A l c).heap.size (boxed w 4 0 s A l c) w2 := (below_drewN (Below.refl _ _) _).trans hb2
        clear hb2
        go_wp2_with fail
        go_loopw [3] (fun v wr => ∃ (k : Nat), k ≤ l ∧ v = .int .i64 k ∧ Hid (ET.formL (ks.drop k) = b) ∧ Below (boxed w 4 0 s A l c).heap.size (boxed w 4 0 s A l c) wr) (fun v _ => l - (intOf v).toNat)
        case atStart => exact ⟨0, by omega, rfl, HL, hbx⟩
        case round =>
          obtain ⟨k, hk, rfl, HK, hbr⟩ := hrel
          obtain ⟨_, _, _, b3⟩ := boxed_cells hbr
          by_cases hlt : k < l
          · obtain ⟨o', n', s', ks', g, f, A', c', hkid, rfl, hg, hok, c0, c1, c2, c3⟩ := (HE.out.below (boxed_to hbr)).kid k (by rw [HLN.out]; exact hlt)
            have HC1 : Hid (ET.cnt (.mk o' n' s' ks') ≤ m) := by
              have hkc := ET.cnt_kid 4 0 s ks k (by rw [HLN.out]; exact hlt)
              rw [hkid] at hkc
              have := HM.out
              show _ ≤ m
              omega
            have HO := Lib.hid hok
            have HS : Hid (ET.formL (ks.drop k) = (ET.formB (.mk o' n' s' ks') && ET.formL (ks.drop (k + 1)))) := by
              show _ = _
              rw [ET.dropL ks k (by rw [HLN.out]; exact hlt), hkid]; rfl
            clear hok hkid
            rcases bool_cases (ET.formB (.mk o' n' s' ks')) with HF | HF
            · go_wp2_with fail
              refine (IH.out o' n' s' ks' A' c' _ true _ rfl HC1.out HO.out HF).mono ?_
              rintro e w2 ⟨rfl, hb2⟩
              have hbr2 := hbr.trans (hb2.mono hbr.size)
              clear hb2 c0 c1 c2 c3
              go_wp2_with fail
              go_roundw
              case rel => exact ⟨k + 1, by omega, by go_num, by show _ = _; rw [← HK.out, HS.out, HF.out, Bool.true_and], hbr2⟩
              case measure => simp [intOf]; omega
            · have HX : Hid (b = false) := by show b = _; rw [← HK.out, HS.out, HF.out, Bool.false_and]
              go_wp2_with fail
              refine (IH.out o' n' s' ks' A' c' _ false _ rfl HC1.out HO.out HF).mono ?_
              rintro e w2 ⟨rfl, hb2⟩
              have hbr2 := hbr.trans (hb2.mono hbr.size)
              clear hb2 c0 c1 c2 c3
              go_wp2_with fail
              go_ret
              exact ⟨ret_bool HX.out.symm, boxed_to hbr2⟩
          · have hke : k = l := by omega
            have HX : Hid (b = true) := by show b = _; rw [← HK.out, hke, ← HLN.out, List.drop_length]; rfl
            go_wp2_with fail
            go_ret
            exact ⟨ret_bool HX.out.symm, boxed_to hbr⟩
      · have hb : b = false := by rw [← HB.out]; exact form_false _ _ _ _ (.inr (.inr (.inr ⟨by omega, HP.out⟩)))
        subst hb
        clear HB hr hl ho0
        go_enter Try.func63, Try.ntmps63
        go_wp2_with (fail)
        go_quiet ((go_at_call 77; exact Calls.quiet_of_same ((kids_b 4 l HK _).mono fun _ _ h => ⟨h.1, h.2.symm⟩)))
        go_wp2_with fail
        refine (isPlace_any (m + 1) 4 0 s ks A c _ false _ HLN.out HM.out (HE.out.below (boxed_to (below_drewN (Below.refl _ _) _))) HP).mono ?_
        rintro e w2 ⟨rfl, hb2⟩
        have hbx : Below (boxed w 4 0 s A l c).heap.size (boxed w 4 0 s A l c) w2 := (below_drewN (Below.refl _ _) _).trans hb2
        clear hb2
        go_wp2_with fail
        go_ret
        exact ⟨rfl, boxed_to hbx⟩
    have q3 : (o != 3) = true := by rw [bne_iff_ne]; exact ho3
    have q4 : (o != 4) = true := by rw [bne_iff_ne]; exact ho4
    have q4' : (o == 4) = false := by rw [beq_eq_false_iff_ne]; exact ho4
    by_cases hs : s.size = 0
    case neg =>
      have hb : b = false := by rw [← HB.out]; exact form_false _ _ _ _ (.inr (.inr (.inl ⟨ho3, ho4, hs⟩)))
      have qs : s.toList.isEmpty = false := bytes_some s hs
      clear hs ho0 ho3 ho4 hr hl
      subst hb
      clear HB
      go_enter Try.func63, Try.ntmps63
      go_wp2_with (fail)
      go_quiet ((go_at_call 77; exact Calls.quiet_of_same ((kids_b o l HK _).mono fun _ _ h => ⟨h.1, h.2.symm⟩)))
      go_wp2_with fail
      go_ret
      exact ⟨rfl, boxed_to (below_drewN (Below.refl _ _) _)⟩
    obtain rfl := bytes_nil s hs
    by_cases ho5 : o = 5
    · subst ho5
      clear ho3 ho4 q0 q3 q4 q4'
      rcases bool_cases (ET.placeB (.mk 5 0 ⟨#[]⟩ ks)) with HP | HP
      · have HL : Hid (ET.formL ks = b) := by
          show _ = b
          rw [← HB.out]
          exact (form_true _ _ _ _ (nodeForm_true _ _ _ _ (by rw [hr, hl]) (.inr rfl) (.inr (.inr hs)) (fun _ => HP.out))).symm
        clear HB hr hl ho0
        go_enter Try.func63, Try.ntmps63
        go_wp2_with (fail)
        go_quiet ((go_at_call 77; exact Calls.quiet_of_same ((kids_b 5 l HK _).mono fun _ _ h => ⟨h.1, h.2.symm⟩)))
        go_wp2_with fail
        refine (isPlace_any (m + 1) 5 0 ⟨#[]⟩ ks A c _ true _ HLN.out HM.out (HE.out.below (boxed_to (below_drewN (Below.refl _ _) _))) HP).mono ?_
        rintro e w2 ⟨rfl, hb2⟩
        have hbx : Below (boxed w 5 0 ⟨#[]⟩ A l c).heap.size (boxed w 5 0 ⟨#[]⟩ A l c) w2 := (below_drewN (Below.refl _ _) _).trans hb2
        clear hb2
        go_wp2_with fail
        go_loopw [3] (fun v wr => ∃ (k : Nat), k ≤ l ∧ v = .int .i64 k ∧ Hid (ET.formL (ks.drop k) = b) ∧ Below (boxed w 5 0 ⟨#[]⟩ A l c).heap.size (boxed w 5 0 ⟨#[]⟩ A l c) wr) (fun v _ => l - (intOf v).toNat)
        case atStart => exact ⟨0, by omega, rfl, HL, hbx⟩
        case round =>
          obtain ⟨k, hk, rfl, HK, hbr⟩ := hrel
          obtain ⟨_, _, _, b3⟩ := boxed_cells hbr
          by_cases hlt : k < l
          · obtain ⟨o', n', s', ks', g, f, A', c', hkid, rfl, hg, hok, c0, c1, c2, c3⟩ := (HE.out.below (boxed_to hbr)).kid k (by rw [HLN.out]; exact hlt)
            have HC1 : Hid (ET.cnt (.mk o' n' s' ks') ≤ m) := by
              have hkc := ET.cnt_kid 5 0 ⟨#[]⟩ ks k (by rw [HLN.out]; exact hlt)
              rw [hkid] at hkc
              have := HM.out
              show _ ≤ m
              omega
            have HO := Lib.hid hok
            have HS : Hid (ET.formL (ks.drop k) = (ET.formB (.mk o' n' s' ks') && ET.formL (ks.drop (k + 1)))) := by
              show _ = _
              rw [ET.dropL ks k (by rw [HLN.out]; exact hlt), hkid]; rfl
            clear hok hkid
            rcases bool_cases (ET.formB (.mk o' n' s' ks')) with HF | HF
            · go_wp2_with fail
              refine (IH.out o' n' s' ks' A' c' _ true _ rfl HC1.out HO.out HF).mono ?_
              rintro e w2 ⟨rfl, hb2⟩
              have hbr2 := hbr.trans (hb2.mono hbr.size)
              clear hb2 c0 c1 c2 c3
              go_wp2_with fail
              go_roundw
              case rel => exact ⟨k + 1, by omega, by go_num, by show _ = _; rw [← HK.out, HS.out, HF.out, Bool.true_and], hbr2⟩
              case measure => simp [intOf]; omega
            · have HX : Hid (b = false) := by show b = _; rw [← HK.out, HS.out, HF.out, Bool.false_and]
              go_wp2_with fail
              refine (IH.out o' n' s' ks' A' c' _ false _ rfl HC1.out HO.out HF).mono ?_
              rintro e w2 ⟨rfl, hb2⟩
              have hbr2 := hbr.trans (hb2.mono hbr.size)
              clear hb2 c0 c1 c2 c3
              go_wp2_with fail
              go_ret
              exact ⟨ret_bool HX.out.symm, boxed_to hbr2⟩
          · have hke : k = l := by omega
            have HX : Hid (b = true) := by show b = _; rw [← HK.out, hke, ← HLN.out, List.drop_length]; rfl
            go_wp2_with fail
            go_ret
            exact ⟨ret_bool HX.out.symm, boxed_to hbr⟩
      · have hb : b = false := by rw [← HB.out]; exact form_false _ _ _ _ (.inr (.inr (.inr ⟨by omega, HP.out⟩)))
        subst hb
        clear HB hr hl ho0
        go_enter Try.func63, Try.ntmps63
        go_wp2_with (fail)
        go_quiet ((go_at_call 77; exact Calls.quiet_of_same ((kids_b 5 l HK _).mono fun _ _ h => ⟨h.1, h.2.symm⟩)))
        go_wp2_with fail
        refine (isPlace_any (m + 1) 5 0 ⟨#[]⟩ ks A c _ false _ HLN.out HM.out (HE.out.below (boxed_to (below_drewN (Below.refl _ _) _))) HP).mono ?_
        rintro e w2 ⟨rfl, hb2⟩
        have hbx : Below (boxed w 5 0 ⟨#[]⟩ A l c).heap.size (boxed w 5 0 ⟨#[]⟩ A l c) w2 := (below_drewN (Below.refl _ _) _).trans hb2
        clear hb2
        go_wp2_with fail
        go_ret
        exact ⟨rfl, boxed_to hbx⟩
    have q5 : (o == 5) = false := by rw [beq_eq_false_iff_ne]; exact ho5
    have HL : Hid (ET.formL ks = b) := by
      show _ = b
      rw [← HB.out]
      exact (form_true _ _ _ _ (nodeForm_true _ _ _ _ (by rw [hr, hl]) (.inr rfl) (.inr (.inr hs)) (by omega))).symm
    clear HB hr hl ho0 ho3 ho4 ho5 hs
    go_enter Try.func63, Try.ntmps63
    go_wp2_with (fail)
    go_quiet ((go_at_call 77; exact Calls.quiet_of_same ((kids_b o l HK _).mono fun _ _ h => ⟨h.1, h.2.symm⟩)))
    go_wp2_with fail
    go_loopw [3] (fun v wr => ∃ (k : Nat), k ≤ l ∧ v = .int .i64 k ∧ Hid (ET.formL (ks.drop k) = b) ∧ Below (boxed w o 0 ⟨#[]⟩ A l c).heap.size (boxed w o 0 ⟨#[]⟩ A l c) wr) (fun v _ => l - (intOf v).toNat)
    case atStart => exact ⟨0, by omega, rfl, HL, below_drewN (Below.refl _ _) _⟩
    case round =>
      obtain ⟨k, hk, rfl, HK, hbr⟩ := hrel
      obtain ⟨_, _, _, b3⟩ := boxed_cells hbr
      by_cases hlt : k < l
      · obtain ⟨o', n', s', ks', g, f, A', c', hkid, rfl, hg, hok, c0, c1, c2, c3⟩ := (HE.out.below (boxed_to hbr)).kid k (by rw [HLN.out]; exact hlt)
        have HC1 : Hid (ET.cnt (.mk o' n' s' ks') ≤ m) := by
          have hkc := ET.cnt_kid o 0 ⟨#[]⟩ ks k (by rw [HLN.out]; exact hlt)
          rw [hkid] at hkc
          have := HM.out
          show _ ≤ m
          omega
        have HO := Lib.hid hok
        have HS : Hid (ET.formL (ks.drop k) = (ET.formB (.mk o' n' s' ks') && ET.formL (ks.drop (k + 1)))) := by
          show _ = _
          rw [ET.dropL ks k (by rw [HLN.out]; exact hlt), hkid]; rfl
        clear hok hkid
        rcases bool_cases (ET.formB (.mk o' n' s' ks')) with HF | HF
        · go_wp2_with fail
          refine (IH.out o' n' s' ks' A' c' _ true _ rfl HC1.out HO.out HF).mono ?_
          rintro e w2 ⟨rfl, hb2⟩
          have hbr2 := hbr.trans (hb2.mono hbr.size)
          clear hb2 c0 c1 c2 c3
          go_wp2_with fail
          go_roundw
          case rel => exact ⟨k + 1, by omega, by go_num, by show _ = _; rw [← HK.out, HS.out, HF.out, Bool.true_and], hbr2⟩
          case measure => simp [intOf]; omega
        · have HX : Hid (b = false) := by show b = _; rw [← HK.out, HS.out, HF.out, Bool.false_and]
          go_wp2_with fail
          refine (IH.out o' n' s' ks' A' c' _ false _ rfl HC1.out HO.out HF).mono ?_
          rintro e w2 ⟨rfl, hb2⟩
          have hbr2 := hbr.trans (hb2.mono hbr.size)
          clear hb2 c0 c1 c2 c3
          go_wp2_with fail
          go_ret
          exact ⟨ret_bool HX.out.symm, boxed_to hbr2⟩
      · have hke : k = l := by omega
        have HX : Hid (b = true) := by show b = _; rw [← HK.out, hke, ← HLN.out, List.drop_length]; rfl
        go_wp2_with fail
        go_ret
        exact ⟨ret_bool HX.out.symm, boxed_to hbr⟩
end Go.Proofs.Ythlhicegchkjjaa
