/-
  The walk over the reference's Parse.
  The walk over PolicyTexts.
-/
import Derived.Test.YtnipigninbeplaaDoorPS
import Derived.Test.YtnipigninbeplaaDoorPO
import Derived.Test.YtnipigninbeplaaDoorPI
import Derived.Test.YtnipigninbeplaaDoorQoV
namespace Go.Proofs.YtnipigninbeplaaDoor
open Go.RowKit

def stVs (V : Nat → Value) (s : Rd) : List Value := [V 0, V 1, V 2, V 3, .int .i64 s.p.obs, .bool s.p.timed, .int .i64 (bI s.sorted), .int .i64 (bI s.seen)]
/-- Parse's memory between two lines: the result's block p0, the state's p0 + 1. -/
structure Sm (p0 : Nat) (w W : World) (V : Nat → Value) (s : Rd) : Prop where
  bel : Below p0 w W
  cz : Cs W p0 [.slice none 0 0, .slice none 0 0, .slice none 0 0, .slice none 0 0, .int .i64 0, .bool false]
  cs : Cs W (p0 + 1) (stVs V s)
  ro : Ro (p0 + 2) W V s
theorem Sm.next {p0 : Nat} {w W W' : World} {V : Nat → Value} {s : Rd} (h : Sm p0 w W V s) (hb : Below W.heap.size W W') : Sm p0 w W' V s :=
  ⟨h.bel.trans (hb.mono (Nat.le_of_lt h.cz.lt)), h.cz.next hb, h.cs.next hb, h.ro.next hb⟩
theorem Sm.lt {p0 : Nat} {w W : World} {V : Nat → Value} {s : Rd} (h : Sm p0 w W V s) : p0 + 2 ≤ W.heap.size := h.cs.lt
/-- Behind a call that leaves what lies below p0 + 2. -/
theorem Sm.czb {p0 : Nat} {w W W' : World} {V : Nat → Value} {s : Rd} (h : Sm p0 w W V s) (hb : Below (p0 + 2) W W') : Below p0 w W' ∧ Cs W' p0 [.slice none 0 0, .slice none 0 0, .slice none 0 0, .slice none 0 0, .int .i64 0, .bool false] ∧ Cs W' (p0 + 1) (stVs V s) :=
  ⟨h.bel.trans (hb.mono (by omega)), h.cz.kept (hb.block p0 (by omega)), h.cs.kept (hb.block (p0 + 1) (by omega))⟩
/-- The state is replaced by what read handed back. -/
theorem Sm.put {p0 : Nat} {w W : World} {V V' : Nat → Value} {s s' : Rd} (hb : Below p0 w W) (hz : Cs W p0 [.slice none 0 0, .slice none 0 0, .slice none 0 0, .slice none 0 0, .int .i64 0, .bool false]) (hc : Cs W (p0 + 1) (stVs V s)) (hr : Ro (p0 + 2) W V' s') :
    Sm p0 w (eightW W (p0 + 1) (V' 0) (V' 1) (V' 2) (V' 3) (.int .i64 s'.p.obs) (.bool s'.p.timed) (.int .i64 (bI s'.sorted)) (.int .i64 (bI s'.seen))) V' s' := by
  have hf : Fr (· = p0 + 1) W (eightW W (p0 + 1) (V' 0) (V' 1) (V' 2) (V' 3) (.int .i64 s'.p.obs) (.bool s'.p.timed) (.int .i64 (bI s'.sorted)) (.int .i64 (bI s'.seen))) := eight_fr (Fr.refl _ _) _ _ _ _ _ _ _ _
  have hlt := hz.lt
  refine ⟨hf.below hb (fun k hk => by omega) (by omega), hz.fr hf (by omega), ?_, ⟨fun k hk => own_frS (hr.row k hk) hf (fun y hy hs => by have := (hr.own hk hy).1; omega), hr.ap⟩⟩
  exact (((((((hc.set 0 (V' 0) (by simp [stVs])).set 1 (V' 1) (by simp [stVs])).set 2 (V' 2) (by simp [stVs])).set 3 (V' 3) (by simp [stVs])).set 4 (.int .i64 s'.p.obs) (by simp [stVs])).set 5 (.bool s'.p.timed) (by simp [stVs])).set 6 (.int .i64 (bI s'.sorted)) (by simp [stVs])).set 7 (.int .i64 (bI s'.seen)) (by simp [stVs])
theorem sm_start (w : World) : Sm w.heap.size w ((w.alloc (.cells #[.slice none 0 0, .slice none 0 0, .slice none 0 0, .slice none 0 0, .int .i64 0, .bool false] 26)).alloc stZ) (fun _ => .slice none 0 0) Rd.zero := by
  obtain ⟨o1, ho1⟩ : ∃ z, Obj.cells #[.slice none 0 0, .slice none 0 0, .slice none 0 0, .slice none 0 0, .int .i64 0, .bool false] 26 = z := ⟨_, rfl⟩
  have e1 : (w.alloc o1).heap.size = w.heap.size + 1 := by simp
  rw [ho1]
  refine ⟨((Below.refl _ _).alloc (Nat.le_refl _) _).alloc (by omega) _, ?_, ?_, ⟨fun k hk => ?_, fun j k _ _ _ => .inl rfl⟩⟩
  · rw [← ho1]
    exact (Cs.new w #[.slice none 0 0, .slice none 0 0, .slice none 0 0, .slice none 0 0, .int .i64 0, .bool false] 26).alloc stZ
  · have h := Cs.new (w.alloc o1) #[.slice none 0 0, .slice none 0 0, .slice none 0 0, .slice none 0 0, .int .i64 0, .bool false, .int .i64 0, .int .i64 0] 81
    rw [e1] at h
    exact h
  · match k, hk with
    | 0, _ => exact nil_row _ _ _ _
    | 1, _ => exact nil_row _ _ _ _
    | 2, _ => exact nil_row _ _ _ _
    | 3, _ => exact nil_row _ _ _ _
/-- What has been read, as a policy in memory. -/
theorem Ro.py {B : Nat} {W : World} {V : Nat → Value} {s : Rd} (h : Ro B W V s) (hz : Szs 8192 s) :
    ∃ (An : Option Addr) (cn : Nat) (Ao : Option Addr) (co : Nat) (Ai : Option Addr) (ci : Nat) (Ah : Option Addr) (ch : Nat), (V 0 = .slice An s.p.levels.length cn ∧ V 1 = .slice Ao s.p.order.length co ∧ V 2 = .slice Ai s.p.inputs.length ci ∧ V 3 = .slice Ah s.p.hatches.length ch) ∧
      PyOk W An s.p.levels.length cn Ao s.p.order.length co Ai s.p.inputs.length ci Ah s.p.hatches.length ch s.p := by
  have h0 := h.row 0 (by omega)
  have h1 := h.row 1 (by omega)
  have h2 := h.row 2 (by omega)
  have h3 := h.row 3 (by omega)
  obtain ⟨A0, c0, e0⟩ := own_shape h0
  obtain ⟨A1, c1, e1⟩ := own_shape h1
  obtain ⟨A2, c2, e2⟩ := own_shape h2
  obtain ⟨A3, c3, e3⟩ := own_shape h3
  rw [e0] at h0
  rw [e1] at h1
  rw [e2] at h2
  rw [e3] at h3
  have hm : (8192 : Nat) ≤ maxLen := by unfold maxLen; omega
  exact ⟨A0, c0, A1, c1, A2, c2, A3, c3, ⟨e0, e1, e2, e3⟩, own_nok h0 (fun x hx => Nat.le_trans (hz.l x hx) hm), own_ook h1, own_lbok h2 (fun x hx => Nat.le_trans (hz.i x hx) hm), own_lbok h3 (fun x hx => Nat.le_trans (hz.h x hx) hm)⟩

set_option maxRecDepth 100000 in
set_option maxHeartbeats 8000000 in
theorem rparse_b (x : ByteArray) (hx : x.size ≤ maxLen) (r : (Int × Int) × Py) (H : Hid (parC x.data.toList = r)) (w : World) :
    Calls Tryd.prog 15 #[.string x] w fun e w' => ParRes w r e w' := by
  have hx9 : x.size ≤ 9223372036854775807 := by unfold maxLen at hx; omega
  have HSM := Lib.hid (sm_start w)
  have HC0 := Lib.hid (Cs.new w #[.slice none 0 0, .slice none 0 0, .slice none 0 0, .slice none 0 0, .int .i64 0, .bool false] 26)
  have HB0 := Lib.hid ((Below.refl w.heap.size w).alloc (Nat.le_refl _) (.cells #[.slice none 0 0, .slice none 0 0, .slice none 0 0, .slice none 0 0, .int .i64 0, .bool false] 26))
  clear hx
  by_cases hbig : 8192 < x.size
  · have hbi : (8192 : Int) < (x.size : Int) := by omega
    have hr : r = ((0, 5), Py.zero) := by
      rw [← H.out]
      unfold parC
      rw [if_pos (by rw [← bsize_len]; exact hbig)]
    have HRR := Lib.hid hr
    clear hr H hbig HSM
    go_enter Tryd.func15, Tryd.ntmps15
    go_upto_region 1 with fail
    obtain ⟨W0, hW0⟩ : ∃ z, w.alloc (.cells #[.slice none 0 0, .slice none 0 0, .slice none 0 0, .slice none 0 0, .int .i64 0, .bool false] 26) = z := ⟨_, rfl⟩
    obtain ⟨p0, hp0⟩ : ∃ z, w.heap.size = z := ⟨_, rfl⟩
    have HB1 : Hid (Below w.heap.size w W0) := hW0 ▸ HB0
    have HC1 : Hid (Cs W0 p0 [.slice none 0 0, .slice none 0 0, .slice none 0 0, .slice none 0 0, .int .i64 0, .bool false]) := hW0 ▸ hp0 ▸ HC0
    rw [hW0, hp0]
    have HPP := Lib.hid hp0
    clear hW0 HB0 HC0 hp0
    have c0 := HC1.out.at 0 _ rfl
    have f0 := HC1.out.free 0
    have c1 := HC1.out.at 1 _ rfl
    have f1 := HC1.out.free 1
    have c2 := HC1.out.at 2 _ rfl
    have f2 := HC1.out.free 2
    have c3 := HC1.out.at 3 _ rfl
    have f3 := HC1.out.free 3
    have c4 := HC1.out.at 4 _ rfl
    have f4 := HC1.out.free 4
    have c5 := HC1.out.at 5 _ rfl
    have f5 := HC1.out.free 5
    have hp7 := HC1.out.lt
    go_wp2_with fail
    obtain ⟨k0, k1, k2, k3, k4, k5⟩ := six_cells HC1.out (.slice none 0 0) (.slice none 0 0) (.slice none 0 0) (.slice none 0 0) (.int .i64 0) (.bool false)
    refine bodyPost_ret (v := .tuple #[.agg #[.slice none 0 0, .slice none 0 0, .slice none 0 0, .slice none 0 0, .int .i64 0, .bool false], .int .i64 0, .int .i64 5]) (by simp [results, Tryd.results15, go_sem, k0, k1, k2, k3, k4, k5]) rfl ?_
    rw [HRR.out]
    exact ParRes.bad (below_six HB1.out (by rw [HPP.out]; exact Nat.le_refl _) _ _ _ _ _ _) _ _

  have hbi : ¬ (8192 : Int) < (x.size : Int) := by omega
  have hx8 : x.size ≤ 8192 := by omega
  obtain ⟨R, hR⟩ : ∃ R, rdLines 0 Rd.zero (linS x.data.toList) = R := ⟨_, rfl⟩
  have HR0 : Hid (lineC R = r) := Lib.hid (by
    rw [← H.out]
    unfold parC
    rw [if_neg (by rw [← bsize_len]; omega), hR])
  have HLI0 : Hid (Li (linS x.data.toList) R 0 Rd.zero 0) := Lib.hid (by
    rw [← hR]
    exact Li.zero (by rw [← bsize_len]; omega))
  clear H hR hbig HC0 HB0
  go_enter Tryd.func15, Tryd.ntmps15
  go_wp2_with fail
  obtain ⟨w1, hw1⟩ : ∃ z, (w.alloc (.cells #[.slice none 0 0, .slice none 0 0, .slice none 0 0, .slice none 0 0, .int .i64 0, .bool false] 26)).alloc stZ = z := ⟨_, rfl⟩
  have hw1' : (w.alloc (.cells #[.slice none 0 0, .slice none 0 0, .slice none 0 0, .slice none 0 0, .int .i64 0, .bool false] 26)).alloc (.cells #[.slice none 0 0, .slice none 0 0, .slice none 0 0, .slice none 0 0, .int .i64 0, .bool false, .int .i64 0, .int .i64 0] 81) = w1 := hw1
  rw [hw1] at HSM
  rw [hw1']
  obtain ⟨p0, hp0⟩ : ∃ z, w.heap.size = z := ⟨_, rfl⟩
  rw [hp0] at HSM ⊢
  have HPP := Lib.hid hp0
  have HPB : Hid (∀ W, Below p0 w W → Below w.heap.size w W) := Lib.hid (fun W h => by rw [hp0]; exact h)
  clear hw1 hw1' hp0
  go_loopw [6, 7, 8] (fun u v y wr => ∃ (i fm j : Nat) (V : Nat → Value) (s : Rd) (n : Nat), i ≤ x.size + 1 ∧ j ≤ i ∧ u = .int .i64 j ∧ v = .int .i64 fm ∧ y = .int .i64 i ∧ Hid ((i ≤ x.size ∧ Pl x.data.toList i fm j) ∨ (i = x.size + 1 ∧ (linS x.data.toList).length ≤ j)) ∧ Hid (Sm p0 w wr V s) ∧ Hid (Li (linS x.data.toList) R j s n)) (fun _ _ y _ => x.size + 1 - (intOf y).toNat)
  case atStart => exact ⟨0, 0, 0, _, Rd.zero, 0, by omega, Nat.le_refl _, rfl, rfl, rfl, Lib.hid (.inl ⟨Nat.zero_le _, Pl.zero _⟩), HSM, HLI0⟩
  case round =>
    clear HSM HLI0
    obtain ⟨i, fm, j, V, s, n, hi, hji, rfl, rfl, rfl, HPL, HS, HLI⟩ := hrel
    by_cases hle : i ≤ x.size
    · have hle' : (i : Int) ≤ (x.size : Int) := by omega
      have HP : Hid (Pl x.data.toList i fm j) := Lib.hid (by rcases HPL.out with h | h; exact h.2; omega)
      have hfm : fm ≤ i := HP.out.lo
      by_cases hsk : ∃ h : i < x.size, x[i] ≠ 10
      · obtain ⟨hlt, hne⟩ := hsk
        have HGE : Hid (x.data.toList[i]? = some x[i]) := Lib.hid (by
          have hl : i < x.data.toList.length := by rw [← bsize_len]; exact hlt
          rw [List.getElem?_eq_getElem hl]; rfl)
        have HPN : Hid ((i + 1 ≤ x.size ∧ Pl x.data.toList (i + 1) fm j) ∨ (i + 1 = x.size + 1 ∧ (linS x.data.toList).length ≤ j)) := Lib.hid (.inl ⟨hlt, HP.out.skip HGE.out hne⟩)
        have hlt' : (i : Int) < (x.size : Int) := by omega
        have h10 : ¬ (x[i].toNat : Int) = 10 := by
          intro e
          exact hne (UInt8.toNat_inj.1 (by show x[i].toNat = 10; omega))
        have h10b : ((x[i].toNat : Int) == 10) = false := by rw [beq_eq_false_iff_ne]; exact h10
        clear hne
        go_wp2_with fail
        go_roundw
        case rel => exact ⟨i + 1, fm, j, V, s, n, by omega, by omega, rfl, rfl, by go_num, HPN, HS, HLI⟩
        case measure => simp [intOf]; omega
      have HEN : Hid (i = x.data.toList.length ∨ x.data.toList[i]? = some 10) := Lib.hid (by
        by_cases hlt : i < x.size
        · refine .inr ?_
          have hl : i < x.data.toList.length := by rw [← bsize_len]; exact hlt
          rw [List.getElem?_eq_getElem hl]
          have : x[i] = 10 := by
            by_cases e : x[i] = 10
            · exact e
            · exact absurd ⟨hlt, e⟩ hsk
          exact congrArg some this
        · refine .inl ?_
          rw [← bsize_len]
          omega)
      have HPN : Hid ((i + 1 ≤ x.size ∧ Pl x.data.toList (i + 1) (i + 1) (j + 1)) ∨ (i + 1 = x.size + 1 ∧ (linS x.data.toList).length ≤ j + 1)) := Lib.hid (by
        by_cases hlt : i < x.size
        · rcases HEN.out with h | h
          · rw [← bsize_len] at h; omega
          · exact .inl ⟨hlt, HP.out.cut h⟩
        · exact .inr ⟨by omega, HP.out.last (by rw [← bsize_len]; omega)⟩)
      obtain ⟨u, hu⟩ : ∃ u, x.extract fm i = u := ⟨_, rfl⟩
      have HUD : Hid (u.data.toList = (x.data.toList.drop fm).take (i - fm)) := Lib.hid (by rw [← hu, Lib.extract_data])
      have HUL : Hid ((linS x.data.toList)[j]? = some u.data.toList) := Lib.hid (by rw [HUD.out]; exact HP.out.line HEN.out)
      have HUS : Hid (u.size ≤ 9000) := Lib.hid (by have := HLI.out.len HUL.out; rw [← bsize_len] at this; omega)
      have hsl := slice_two x fm i hfm hle
      rw [hu] at hsl
      have HHK : Hid (¬ ∃ h : i < x.size, x[i] ≠ 10) := Lib.hid hsk
      clear hu hsk
      go_upto_region 8 with fail
      go_cut [35] (fun v wx => v = .bool false ∧ Hid (wx = wr))
      case first =>
        clear hsl
        by_cases hlt : i < x.size
        · have hlt' : (i : Int) < (x.size : Int) := by omega
          have h10 : (x[i].toNat : Int) = 10 := by
            by_cases e : x[i] = 10
            · rw [e]; rfl
            · exact absurd ⟨hlt, e⟩ HHK.out
          go_wp2_with fail
          go_meet
          case rel => exact ⟨rfl, Lib.hid rfl⟩
        · have hlt' : ¬ (i : Int) < (x.size : Int) := by omega
          go_wp2_with fail
          go_meet
          case rel => exact ⟨rfl, Lib.hid rfl⟩
      case rest =>
      obtain ⟨rfl, hwc⟩ := hcut
      rw [hwc.out]
      clear hwc
      obtain ⟨sb, hsb⟩ : ∃ z, skipS u.data.toList = z := ⟨_, rfl⟩
      have HSK := Lib.hid hsb
      clear hsb
      cases sb with
      | true =>
        have HL' : Hid (Li (linS x.data.toList) R (j + 1) s n) := Lib.hid (HLI.out.next HUL.out (s' := s) (by rw [rdLine_ok, if_pos HSK.out]) (by omega))
        go_wp2_with (first | (go_at_call 34; refine (skipped_b u HUS.out true HSK wr).mono ?_; rintro e wy ⟨rfl, rfl⟩) | fail)
        go_roundw
        case rel => exact ⟨i + 1, i + 1, j + 1, V, s, n, by omega, by omega, by go_num, by go_num, by go_num, HPN, HS, HL'⟩
        case measure => simp [intOf]; omega
      | false =>
        obtain ⟨o, ho⟩ : ∃ o, tokS [] u.data.toList = o := ⟨_, rfl⟩
        have HO := Lib.hid ho
        have HLN : Hid (rdLine s u.data.toList = lnS s o) := Lib.hid (by rw [rdLine_ok, if_neg (by rw [HSK.out]; decide), ho])
        clear ho
        cases o with
        | none =>
          have hr : r = (((j : Int) + 1, 6), Py.zero) := by
            rw [← HR0.out, HLI.out.bad HUL.out (c := 6) (s' := s) (by rw [HLN.out]; rfl) (by decide)]
            unfold lineC
            rw [if_pos (show (6 : Int) ≠ 0 by decide)]
          have HRR := Lib.hid hr
          clear hr HR0
          go_upto_region 13 with (first | (go_at_call 34; refine (skipped_b u HUS.out false HSK wr).mono ?_; rintro e wy ⟨rfl, rfl⟩) | (go_at_call 35; refine (rtokens_b u none HO HUS.out wr).mono ?_; rintro e w2 ⟨hb2, rfl⟩; have HS2 := Lib.hid (HS.out.next hb2); have HZ2 := Lib.hid HS2.out.cz; have HB2 := Lib.hid (HPB.out _ HS2.out.bel); clear hb2) | fail)
          have c0 := HZ2.out.at 0 _ rfl
          have f0 := HZ2.out.free 0
          have c1 := HZ2.out.at 1 _ rfl
          have f1 := HZ2.out.free 1
          have c2 := HZ2.out.at 2 _ rfl
          have f2 := HZ2.out.free 2
          have c3 := HZ2.out.at 3 _ rfl
          have f3 := HZ2.out.free 3
          have c4 := HZ2.out.at 4 _ rfl
          have f4 := HZ2.out.free 4
          have c5 := HZ2.out.at 5 _ rfl
          have f5 := HZ2.out.free 5
          have hp7 := HZ2.out.lt
          go_wp2_with fail
          obtain ⟨k0, k1, k2, k3, k4, k5⟩ := six_cells HZ2.out (.slice none 0 0) (.slice none 0 0) (.slice none 0 0) (.slice none 0 0) (.int .i64 0) (.bool false)
          refine bodyPost_ret (v := .tuple #[.agg #[.slice none 0 0, .slice none 0 0, .slice none 0 0, .slice none 0 0, .int .i64 0, .bool false], .int .i64 ((j : Int) + 1), .int .i64 6]) (by simp [results, Tryd.results15, go_sem, k0, k1, k2, k3, k4, k5]) rfl ?_
          rw [HRR.out]
          exact ParRes.bad (below_six HB2.out (by rw [HPP.out]; exact Nat.le_refl _) _ _ _ _ _ _) _ _

        | some q =>
          have hq0 : q ≠ [] := by
            intro e
            have h := HO.out
            have h2 := HSK.out
            rw [← tokS_trim] at h
            rw [skipS_trim] at h2
            cases htr : Lib.trimB u.data.toList 32 with
            | nil => rw [htr] at h2; cases h2
            | cons c l => rw [htr] at h; exact tokS_first _ _ _ (trim_head _ _ _ htr) h e
          obtain ⟨k, t, rfl⟩ : ∃ k t, q = k :: t := by
            cases q with
            | nil => exact absurd rfl hq0
            | cons k t => exact ⟨k, t, rfl⟩
          have HNL : Hid (t.length + 1 ≤ 9000) := Lib.hid (by
            have h1 := tokS_len _ _ _ HO.out
            have h2 := HLI.out.len HUL.out
            simp only [List.length_cons, if_true] at h1
            omega)
          obtain ⟨sh, hsh⟩ : ∃ z, shapeB k t = z := ⟨_, rfl⟩
          have HSH := Lib.hid hsh
          clear hq0 hsh
          cases sh with
          | false =>
            have hr : r = (((j : Int) + 1, 6), Py.zero) := by
              rw [← HR0.out, HLI.out.bad HUL.out (c := 6) (s' := s) (by rw [HLN.out]; exact shape_bad s k t HSH.out) (by decide)]
              unfold lineC
              rw [if_pos (show (6 : Int) ≠ 0 by decide)]
            have HRR := Lib.hid hr
            clear hr HR0
            go_upto_region 13 with (first | (go_at_call 34; refine (skipped_b u HUS.out false HSK wr).mono ?_; rintro e wy ⟨rfl, rfl⟩) | (go_at_call 35; refine (rtokens_b u (some (k :: t)) HO HUS.out wr).mono ?_; rintro e w2 ⟨hb2, A, cc, rfl, hnk, hab⟩; have HNK := Lib.hid hnk; have HS2 := Lib.hid (HS.out.next hb2); have HZ2 := Lib.hid HS2.out.cz; have HB2 := Lib.hid (HPB.out _ HS2.out.bel); clear hb2 hnk hab) | fail)
            have c0 := HZ2.out.at 0 _ rfl
            have f0 := HZ2.out.free 0
            have c1 := HZ2.out.at 1 _ rfl
            have f1 := HZ2.out.free 1
            have c2 := HZ2.out.at 2 _ rfl
            have f2 := HZ2.out.free 2
            have c3 := HZ2.out.at 3 _ rfl
            have f3 := HZ2.out.free 3
            have c4 := HZ2.out.at 4 _ rfl
            have f4 := HZ2.out.free 4
            have c5 := HZ2.out.at 5 _ rfl
            have f5 := HZ2.out.free 5
            have hp7 := HZ2.out.lt
            go_wp2_with (first | (go_at_call 36; refine (shaped_b k t A (t.length + 1) cc HNL.out false HSH w2 HNK.out).mono ?_; rintro e wy ⟨rfl, rfl⟩) | fail)
            obtain ⟨k0, k1, k2, k3, k4, k5⟩ := six_cells HZ2.out (.slice none 0 0) (.slice none 0 0) (.slice none 0 0) (.slice none 0 0) (.int .i64 0) (.bool false)
            refine bodyPost_ret (v := .tuple #[.agg #[.slice none 0 0, .slice none 0 0, .slice none 0 0, .slice none 0 0, .int .i64 0, .bool false], .int .i64 ((j : Int) + 1), .int .i64 6]) (by simp [results, Tryd.results15, go_sem, k0, k1, k2, k3, k4, k5]) rfl ?_
            rw [HRR.out]
            exact ParRes.bad (below_six HB2.out (by rw [HPP.out]; exact Nat.le_refl _) _ _ _ _ _ _) _ _

          | true =>
            obtain ⟨⟨c, s'⟩, hcs⟩ : ∃ y, rdToks s (k :: t) = y := ⟨_, rfl⟩
            have HRT := Lib.hid hcs
            have HLL : Hid (rdLine s u.data.toList = (c, s')) := Lib.hid (HLN.out.trans hcs)
            have HCN : Hid (s.p.order.length ≤ 20000 ∧ s.p.inputs.length ≤ 20000 ∧ s.p.hatches.length ≤ 20000) := Lib.hid (by have := HLI.out.o; have := HLI.out.ni; have := HLI.out.nh; omega)
            clear hcs
            go_upto_region 13 with (first | (go_at_call 34; refine (skipped_b u HUS.out false HSK wr).mono ?_; rintro e wy ⟨rfl, rfl⟩) | (go_at_call 35; refine (rtokens_b u (some (k :: t)) HO HUS.out wr).mono ?_; rintro e w2 ⟨hb2, A, cc, rfl, hnk, hab⟩; obtain ⟨k', g, f, _, _, hA, hgl, _⟩ := hnk.at 0 (by simp); subst hA; have HNK := Lib.hid hnk; have HGV : Hid (∀ z, z < 4 → (V z).ownBlock ≠ some g) := Lib.hid (fun z hz e => by have h1 := (HS.out.ro.own hz e).2; have h2 := hab _ rfl; simp only at h2; omega); have HS2 := Lib.hid (HS.out.next hb2); clear hb2 hnk hab hgl) | fail)
            have c0 := HS2.out.cs.at 0 _ rfl
            have c1 := HS2.out.cs.at 1 _ rfl
            have c2 := HS2.out.cs.at 2 _ rfl
            have c3 := HS2.out.cs.at 3 _ rfl
            have c4 := HS2.out.cs.at 4 _ rfl
            have c5 := HS2.out.cs.at 5 _ rfl
            have c6 := HS2.out.cs.at 6 _ rfl
            have c7 := HS2.out.cs.at 7 _ rfl
            go_upto_region 16 with (first | (go_at_call 36; refine (shaped_b k t (some ⟨g, f, none⟩) (t.length + 1) cc HNL.out true HSH w2 HNK.out).mono ?_; rintro e wy ⟨rfl, rfl⟩) | (go_at_call 37; refine (read_b (p0 + 2) w2 V s (bI s.sorted) (bI s.seen) k t g f (t.length + 1) cc HNL.out rfl rfl HSH.out (c, s') HRT HNK.out HS2.out.ro HGV.out HS2.out.lt HLI.out.z HCN.out HLI.out.v).mono ?_; rintro e w7 ⟨hb7, A0, A1, A2, A3, m0, q0, m1, q1, m2, q2, m3, q3, ob, tm, l1, l2, rfl, hok⟩; have HB7 := Lib.hid hb7; have HOK := Lib.hid hok; clear hb7 hok) | fail)
            clear c0 c1 c2 c3 c4 c5 c6 c7
            obtain ⟨hb7', hz7, hc7⟩ := HS2.out.czb HB7.out
            have hal : Below w7.heap.size w7 (w7.alloc (.cells #[.slice A0 m0 q0, .slice A1 m1 q1, .slice A2 m2 q2, .slice A3 m3 q3, .int .i64 ob, .bool tm, .int .i64 l1, .int .i64 l2] 81)) := (Below.refl _ _).alloc (Nat.le_refl _) _
            have HN8 := Lib.hid (Cs.new w7 #[.slice A0 m0 q0, .slice A1 m1 q1, .slice A2 m2 q2, .slice A3 m3 q3, .int .i64 ob, .bool tm, .int .i64 l1, .int .i64 l2] 81)
            have HAL := Lib.hid hal
            have HZ8 := Lib.hid (hz7.next hal)
            have HC8 := Lib.hid (hc7.next hal)
            have HP8 := Lib.hid (hb7'.trans (hal.mono (Nat.le_of_lt hz7.lt)))
            clear hb7' hz7 hc7 hal
            obtain ⟨w8, hw8⟩ : ∃ z, w7.alloc (.cells #[.slice A0 m0 q0, .slice A1 m1 q1, .slice A2 m2 q2, .slice A3 m3 q3, .int .i64 ob, .bool tm, .int .i64 l1, .int .i64 l2] 81) = z := ⟨_, rfl⟩
            rw [hw8] at HN8 HZ8 HC8 HP8 HAL ⊢
            obtain ⟨p8, hp8⟩ : ∃ z, w7.heap.size = z := ⟨_, rfl⟩
            rw [hp8] at HN8 HAL ⊢
            have HB8 := Lib.hid (HPB.out _ HP8.out)
            clear hw8
            by_cases hc0 : c = 0
            · subst hc0
              obtain ⟨V', hro, ⟨e0, e1, e2, e3⟩, h4, h5, h6, h7⟩ := HOK.out rfl
              have h4' : ob = s'.p.obs := h4
              have h5' : tm = s'.p.timed := h5
              have h6' : l1 = bI s'.sorted := h6
              have h7' : l2 = bI s'.seen := h7
              subst h4' h5' h6' h7'
              have hput := Sm.put HP8.out HZ8.out HC8.out (hro.next (by rw [hp8]; exact HAL.out))
              rw [e0, e1, e2, e3] at hput
              have HS' := Lib.hid hput
              have HL' : Hid (Li (linS x.data.toList) R (j + 1) s' n) := Lib.hid (HLI.out.next HUL.out HLL.out (by omega))
              have n0 := HN8.out.at 0 _ rfl
              have d0 := HC8.out.at 0 _ rfl
              have g0 := HC8.out.free 0
              have n1 := HN8.out.at 1 _ rfl
              have d1 := HC8.out.at 1 _ rfl
              have g1 := HC8.out.free 1
              have n2 := HN8.out.at 2 _ rfl
              have d2 := HC8.out.at 2 _ rfl
              have g2 := HC8.out.free 2
              have n3 := HN8.out.at 3 _ rfl
              have d3 := HC8.out.at 3 _ rfl
              have g3 := HC8.out.free 3
              have n4 := HN8.out.at 4 _ rfl
              have d4 := HC8.out.at 4 _ rfl
              have g4 := HC8.out.free 4
              have n5 := HN8.out.at 5 _ rfl
              have d5 := HC8.out.at 5 _ rfl
              have g5 := HC8.out.free 5
              have n6 := HN8.out.at 6 _ rfl
              have d6 := HC8.out.at 6 _ rfl
              have g6 := HC8.out.free 6
              have n7 := HN8.out.at 7 _ rfl
              have d7 := HC8.out.at 7 _ rfl
              have g7 := HC8.out.free 7
              have hp7 := HC8.out.lt
              have hn7 := HN8.out.lt
              clear hput hro e0 e1 e2 e3 h4 h5 h6 h7 hp8
              go_wp2_with fail
              go_roundw
              case rel => exact ⟨i + 1, i + 1, j + 1, V', s', n, by omega, by omega, by go_num, by go_num, by go_num, HPN, HS', HL'⟩
              case measure => simp [intOf]; omega
            · have hr : r = (((j : Int) + 1, c), Py.zero) := by
                rw [← HR0.out, HLI.out.bad HUL.out HLL.out hc0]
                unfold lineC
                rw [if_pos hc0]
              have HRR := Lib.hid hr
              clear hr HR0 hp8
              have c0 := HZ8.out.at 0 _ rfl
              have f0 := HZ8.out.free 0
              have c1 := HZ8.out.at 1 _ rfl
              have f1 := HZ8.out.free 1
              have c2 := HZ8.out.at 2 _ rfl
              have f2 := HZ8.out.free 2
              have c3 := HZ8.out.at 3 _ rfl
              have f3 := HZ8.out.free 3
              have c4 := HZ8.out.at 4 _ rfl
              have f4 := HZ8.out.free 4
              have c5 := HZ8.out.at 5 _ rfl
              have f5 := HZ8.out.free 5
              have hp7 := HZ8.out.lt
              go_wp2_with fail
              obtain ⟨k0, k1, k2, k3, k4, k5⟩ := six_cells HZ8.out (.slice none 0 0) (.slice none 0 0) (.slice none 0 0) (.slice none 0 0) (.int .i64 0) (.bool false)
              refine bodyPost_ret (v := .tuple #[.agg #[.slice none 0 0, .slice none 0 0, .slice none 0 0, .slice none 0 0, .int .i64 0, .bool false], .int .i64 ((j : Int) + 1), .int .i64 c]) (by simp [results, Tryd.results15, go_sem, k0, k1, k2, k3, k4, k5]) rfl ?_
              rw [HRR.out]
              exact ParRes.bad (below_six HB8.out (by rw [HPP.out]; exact Nat.le_refl _) _ _ _ _ _ _) _ _

    · have hge : ¬ (i : Int) ≤ (x.size : Int) := by omega
      have hlen : (linS x.data.toList).length ≤ j := by rcases HPL.out with h | h; omega; exact h.2
      have HE : Hid (endC s = r) := Lib.hid (by rw [← HR0.out, HLI.out.done hlen]; rfl)
      have HZ := Lib.hid HS.out.cz
      have HBW := Lib.hid (HPB.out _ HS.out.bel)
      obtain ⟨so, hso⟩ : ∃ z, s.sorted = z := ⟨_, rfl⟩
      obtain ⟨sn, hsn⟩ : ∃ z, s.seen = z := ⟨_, rfl⟩
      have HSO := Lib.hid hso
      have HSN := Lib.hid hsn
      have d6 := HS.out.cs.at 6 _ rfl
      have d7 := HS.out.cs.at 7 _ rfl
      rw [hso] at d6
      rw [hsn] at d7
      clear hso hsn hle hlen HR0
      cases so with
      | false =>
        have d6' : wr.cell? ⟨p0 + 1, 6, none⟩ = some (.int .i64 0) := d6
        have hr : r = ((0, 11), Py.zero) := by rw [← HE.out]; unfold endC; rw [if_pos (.inl HSO.out)]
        have HRR := Lib.hid hr
        clear hr HE d6 d7
        have c0 := HZ.out.at 0 _ rfl
        have f0 := HZ.out.free 0
        have c1 := HZ.out.at 1 _ rfl
        have f1 := HZ.out.free 1
        have c2 := HZ.out.at 2 _ rfl
        have f2 := HZ.out.free 2
        have c3 := HZ.out.at 3 _ rfl
        have f3 := HZ.out.free 3
        have c4 := HZ.out.at 4 _ rfl
        have f4 := HZ.out.free 4
        have c5 := HZ.out.at 5 _ rfl
        have f5 := HZ.out.free 5
        have hp7 := HZ.out.lt
        go_wp2_with fail
        obtain ⟨k0, k1, k2, k3, k4, k5⟩ := six_cells HZ.out (.slice none 0 0) (.slice none 0 0) (.slice none 0 0) (.slice none 0 0) (.int .i64 0) (.bool false)
        refine bodyPost_ret (v := .tuple #[.agg #[.slice none 0 0, .slice none 0 0, .slice none 0 0, .slice none 0 0, .int .i64 0, .bool false], .int .i64 0, .int .i64 11]) (by simp [results, Tryd.results15, go_sem, k0, k1, k2, k3, k4, k5]) rfl ?_
        rw [HRR.out]
        exact ParRes.bad (below_six HBW.out (by rw [HPP.out]; exact Nat.le_refl _) _ _ _ _ _ _) _ _

      | true =>
        have d6' : wr.cell? ⟨p0 + 1, 6, none⟩ = some (.int .i64 1) := d6
        clear d6
        cases sn with
        | false =>
          have d7' : wr.cell? ⟨p0 + 1, 7, none⟩ = some (.int .i64 0) := d7
          have hr : r = ((0, 11), Py.zero) := by rw [← HE.out]; unfold endC; rw [if_pos (.inr HSN.out)]
          have HRR := Lib.hid hr
          clear hr HE d7
          have c0 := HZ.out.at 0 _ rfl
          have f0 := HZ.out.free 0
          have c1 := HZ.out.at 1 _ rfl
          have f1 := HZ.out.free 1
          have c2 := HZ.out.at 2 _ rfl
          have f2 := HZ.out.free 2
          have c3 := HZ.out.at 3 _ rfl
          have f3 := HZ.out.free 3
          have c4 := HZ.out.at 4 _ rfl
          have f4 := HZ.out.free 4
          have c5 := HZ.out.at 5 _ rfl
          have f5 := HZ.out.free 5
          have hp7 := HZ.out.lt
          go_wp2_with fail
          obtain ⟨k0, k1, k2, k3, k4, k5⟩ := six_cells HZ.out (.slice none 0 0) (.slice none 0 0) (.slice none 0 0) (.slice none 0 0) (.int .i64 0) (.bool false)
          refine bodyPost_ret (v := .tuple #[.agg #[.slice none 0 0, .slice none 0 0, .slice none 0 0, .slice none 0 0, .int .i64 0, .bool false], .int .i64 0, .int .i64 11]) (by simp [results, Tryd.results15, go_sem, k0, k1, k2, k3, k4, k5]) rfl ?_
          rw [HRR.out]
          exact ParRes.bad (below_six HBW.out (by rw [HPP.out]; exact Nat.le_refl _) _ _ _ _ _ _) _ _

        | true =>
          have d7' : wr.cell? ⟨p0 + 1, 7, none⟩ = some (.int .i64 1) := d7
          clear d7
          obtain ⟨q, hq⟩ : ∃ z, polC s.p = z := ⟨_, rfl⟩
          have HQ := Lib.hid hq
          have HE2 : Hid ((if q ≠ 0 then (((0 : Int), q), Py.zero) else ((0, 0), s.p)) = r) := Lib.hid (by
            rw [← HE.out, ← hq]
            unfold endC
            rw [if_neg (show ¬ (s.sorted = false ∨ s.seen = false) by rw [HSO.out, HSN.out]; decide)])
          obtain ⟨An, cn, Ao, co, Ai, ci, Ah, ch, ⟨e0, e1, e2, e3⟩, hpy⟩ := HS.out.ro.py HLI.out.z
          have HPY := Lib.hid hpy
          have d0 := HS.out.cs.at 0 _ rfl
          have d1 := HS.out.cs.at 1 _ rfl
          have d2 := HS.out.cs.at 2 _ rfl
          have d3 := HS.out.cs.at 3 _ rfl
          have d4 := HS.out.cs.at 4 _ rfl
          have d5 := HS.out.cs.at 5 _ rfl
          rw [e0] at d0
          rw [e1] at d1
          rw [e2] at d2
          rw [e3] at d3
          have HVV := Lib.hid (And.intro e0 (And.intro e1 (And.intro e2 e3)))
          clear hq HE e0 e1 e2 e3 hpy
          go_upto_region 22 with (first | (go_at_call 11; refine (rcheck_b s.p An s.p.levels.length cn Ao s.p.order.length co Ai s.p.inputs.length ci Ah s.p.hatches.length ch q HQ wr HPY.out).mono ?_; rintro e w7 ⟨rfl, hb7⟩; have HS7 := Lib.hid (HS.out.next hb7); have HP7 := Lib.hid (HPY.out.below hb7); have HZ7 := Lib.hid HS7.out.cz; have HB7 := Lib.hid (HPB.out _ HS7.out.bel); clear hb7) | fail)
          clear d0 d1 d2 d3 d4 d5 d6' d7'
          by_cases hq0 : q = 0
          · subst hq0
            have hr : r = ((0, 0), s.p) := HE2.out.symm
            have HRR := Lib.hid hr
            clear hr HE2
            obtain ⟨e0, e1, e2, e3⟩ := HVV.out
            have d0 := HS7.out.cs.at 0 _ rfl
            have d1 := HS7.out.cs.at 1 _ rfl
            have d2 := HS7.out.cs.at 2 _ rfl
            have d3 := HS7.out.cs.at 3 _ rfl
            have d4 := HS7.out.cs.at 4 _ rfl
            have d5 := HS7.out.cs.at 5 _ rfl
            rw [e0] at d0
            rw [e1] at d1
            rw [e2] at d2
            rw [e3] at d3
            have HOB : Hid (∀ a : Addr, (An = some a ∨ Ao = some a ∨ Ai = some a ∨ Ah = some a) → ¬ a.block = p0) := Lib.hid (fun a ha hb => by
              have h0 : ∀ j, j < 4 → (V j).ownBlock = some a.block → False := fun j hj h => by have := (HS7.out.ro.own hj h).1; omega
              rcases ha with h | h | h | h
              · exact h0 0 (by omega) (by rw [e0, h]; rfl)
              · exact h0 1 (by omega) (by rw [e1, h]; rfl)
              · exact h0 2 (by omega) (by rw [e2, h]; rfl)
              · exact h0 3 (by omega) (by rw [e3, h]; rfl))
            clear e0 e1 e2 e3
            have c0 := HZ7.out.at 0 _ rfl
            have f0 := HZ7.out.free 0
            have c1 := HZ7.out.at 1 _ rfl
            have f1 := HZ7.out.free 1
            have c2 := HZ7.out.at 2 _ rfl
            have f2 := HZ7.out.free 2
            have c3 := HZ7.out.at 3 _ rfl
            have f3 := HZ7.out.free 3
            have c4 := HZ7.out.at 4 _ rfl
            have f4 := HZ7.out.free 4
            have c5 := HZ7.out.at 5 _ rfl
            have f5 := HZ7.out.free 5
            have hp7 := HZ7.out.lt
            go_wp2_with fail
            obtain ⟨k0, k1, k2, k3, k4, k5⟩ := six_cells HZ7.out (.slice An s.p.levels.length cn) (.slice Ao s.p.order.length co) (.slice Ai s.p.inputs.length ci) (.slice Ah s.p.hatches.length ch) (.int .i64 s.p.obs) (.bool s.p.timed)
            refine bodyPost_ret (v := .tuple #[.agg #[.slice An s.p.levels.length cn, .slice Ao s.p.order.length co, .slice Ai s.p.inputs.length ci, .slice Ah s.p.hatches.length ch, .int .i64 s.p.obs, .bool s.p.timed], .int .i64 0, .int .i64 0]) (by simp [results, Tryd.results15, go_sem, k0, k1, k2, k3, k4, k5]) rfl ?_
            rw [HRR.out]
            exact ⟨below_six HB7.out (by rw [HPP.out]; exact Nat.le_refl _) _ _ _ _ _ _, An, _, cn, Ao, _, co, Ai, _, ci, Ah, _, ch, rfl, HP7.out.fr (six_fr (Fr.refl _ _) _ _ _ _ _ _) HOB.out⟩
          · have hr : r = ((0, q), Py.zero) := by rw [← HE2.out, if_pos hq0]
            have HRR := Lib.hid hr
            clear hr HE2
            have c0 := HZ7.out.at 0 _ rfl
            have f0 := HZ7.out.free 0
            have c1 := HZ7.out.at 1 _ rfl
            have f1 := HZ7.out.free 1
            have c2 := HZ7.out.at 2 _ rfl
            have f2 := HZ7.out.free 2
            have c3 := HZ7.out.at 3 _ rfl
            have f3 := HZ7.out.free 3
            have c4 := HZ7.out.at 4 _ rfl
            have f4 := HZ7.out.free 4
            have c5 := HZ7.out.at 5 _ rfl
            have f5 := HZ7.out.free 5
            have hp7 := HZ7.out.lt
            go_wp2_with fail
            obtain ⟨k0, k1, k2, k3, k4, k5⟩ := six_cells HZ7.out (.slice none 0 0) (.slice none 0 0) (.slice none 0 0) (.slice none 0 0) (.int .i64 0) (.bool false)
            refine bodyPost_ret (v := .tuple #[.agg #[.slice none 0 0, .slice none 0 0, .slice none 0 0, .slice none 0 0, .int .i64 0, .bool false], .int .i64 0, .int .i64 q]) (by simp [results, Tryd.results15, go_sem, k0, k1, k2, k3, k4, k5]) rfl ?_
            rw [HRR.out]
            exact ParRes.bad (below_six HB7.out (by rw [HPP.out]; exact Nat.le_refl _) _ _ _ _ _ _) _ _

set_option maxRecDepth 100000 in
set_option maxHeartbeats 4000000 in
theorem texts_b (p : Py) (An : Option Addr) (ln cn : Nat) (Ao : Option Addr) (lo co : Nat) (Ai : Option Addr) (li ci : Nat) (Ah : Option Addr) (lh ch : Nat) (s : ByteArray) (hs : s.size ≤ maxLen) (m : Int) (w : World) (hm : w.cell? ⟨0, 0, none⟩ = some (.int .i64 m)) (hp : PyOk w An ln cn Ao lo co Ai li ci Ah lh ch p) :
    Calls Tryd.prog 4 #[.agg (pyV An ln cn Ao lo co Ai li ci Ah lh ch p.obs p.timed), .string s] w fun e w' => e = .returned (.bool true) ∧ Below w.heap.size w w' := by
  have HMB : Hid (∀ W, Below w.heap.size w W → W.cell? ⟨0, 0, none⟩ = some (.int .i64 m)) := Lib.hid (fun W hb => (hb.cell (p := ⟨0, 0, none⟩) (World.block_lt_of_cell? _ _ hm)).trans hm)
  have HP := Lib.hid hp
  have hs9 : s.size ≤ 9223372036854775807 := by unfold maxLen at hs; omega
  have HC0 := Lib.hid (Cs.new w (pyV An ln cn Ao lo co Ai li ci Ah lh ch p.obs p.timed) 26)
  have HB0 := Lib.hid ((Below.refl w.heap.size w).alloc (Nat.le_refl _) (.cells (pyV An ln cn Ao lo co Ai li ci Ah lh ch p.obs p.timed) 26))
  obtain ⟨fb, hfb⟩ : ∃ b, fewB 70 ln lo li lh = b := ⟨_, rfl⟩
  have HFB := Lib.hid hfb
  have HLQ : Hid (fb = true → lo ≤ 1000) := Lib.hid (fun h => by
    rw [← hfb] at h
    unfold fewB at h
    simp only [Bool.and_eq_true, decide_eq_true_eq] at h
    omega)
  have HSZ := Lib.hid hs
  unfold pyV at HC0 HB0 ⊢
  clear hm hp hfb hs
  go_enter Tryd.func4, Tryd.ntmps4
  go_upto_region 1 with fail
  obtain ⟨w1, hw1⟩ : ∃ z, w.alloc (.cells #[.slice An ln cn, .slice Ao lo co, .slice Ai li ci, .slice Ah lh ch, .int .i64 p.obs, .bool p.timed] 26) = z := ⟨_, rfl⟩
  obtain ⟨bq, hbq⟩ : ∃ z, w.heap.size = z := ⟨_, rfl⟩
  have HB1 : Hid (Below w.heap.size w w1) := hw1 ▸ HB0
  have HC1 : Hid (Cs w1 bq [.slice An ln cn, .slice Ao lo co, .slice Ai li ci, .slice Ah lh ch, .int .i64 p.obs, .bool p.timed]) := hw1 ▸ hbq ▸ HC0
  rw [hw1, hbq]
  clear hw1 HB0 HC0 hbq
  go_upto_region 3 with (first | (go_at_call 8; refine (known_b m _ (HMB.out _ HB1.out)).mono ?_; rintro e w2 ⟨rfl, hb2⟩; have HB2 := Lib.hid (HB1.out.trans (hb2.mono HB1.out.size)); have HC2 := Lib.hid (HC1.out.next hb2); clear hb2) | fail)
  obtain ⟨c0, c1, c2, c3, c4, c5⟩ := HC2.out.six
  cases fb with
  | false =>
    go_wp2_with (first | (go_at_call 9; refine (few_b p An ln cn Ao lo co Ai li ci Ah lh ch 70 (by omega) (by omega) false HFB _ (HP.out.below HB2.out)).mono ?_; rintro e w3 ⟨rfl, hb3⟩; have HB3 := Lib.hid (HB2.out.trans (hb3.mono HB2.out.size)); have HC3 := Lib.hid (HC2.out.next hb3); clear hb3; skip) | fail)
    go_ret
    exact ⟨rfl, HB3.out⟩
  | true =>
    have HLO : Hid (lo ≤ 1000) := Lib.hid (HLQ.out rfl)
    by_cases hbig : 2000 < s.size
    · have hbi : (2000 : Int) < (s.size : Int) := by omega
      go_wp2_with (first | (go_at_call 9; refine (few_b p An ln cn Ao lo co Ai li ci Ah lh ch 70 (by omega) (by omega) true HFB _ (HP.out.below HB2.out)).mono ?_; rintro e w3 ⟨rfl, hb3⟩; have HB3 := Lib.hid (HB2.out.trans (hb3.mono HB2.out.size)); have HC3 := Lib.hid (HC2.out.next hb3); clear hb3; skip) | fail)
      go_ret
      exact ⟨rfl, HB3.out⟩
    have hbi : ¬ (2000 : Int) < (s.size : Int) := by omega
    obtain ⟨kx, hkx⟩ := mk_bytes (printC p).1
    obtain ⟨kc, hkc⟩ : ∃ z, (printC p).2 = z := ⟨_, rfl⟩
    have HPR : Hid (printC p = (kx.data.toList, kc)) := Lib.hid (by rw [hkx, ← hkc])
    obtain ⟨⟨⟨nn, ee⟩, q⟩, hq⟩ : ∃ r, parC s.data.toList = r := ⟨_, rfl⟩
    have HQ := Lib.hid hq
    have HWF : Hid (∀ x ∈ q.order, (Lit.int .i64 x.1).wf = true ∧ (Lit.int .i64 x.2).wf = true) := Lib.hid (fun x hx => by
      have h := parC_od s.data.toList x (by rw [hq]; exact hx)
      exact ⟨wf_of h.1.1 h.1.2, wf_of h.2.1 h.2.2⟩)
    clear hbig hkx hkc hq
    go_upto_region 8 with (first | (go_at_call 9; refine (few_b p An ln cn Ao lo co Ai li ci Ah lh ch 70 (by omega) (by omega) true HFB _ (HP.out.below HB2.out)).mono ?_; rintro e w3 ⟨rfl, hb3⟩; have HB3 := Lib.hid (HB2.out.trans (hb3.mono HB2.out.size)); have HC3 := Lib.hid (HC2.out.next hb3); clear hb3; clear c0 c1 c2 c3 c4 c5; obtain ⟨c0, c1, c2, c3, c4, c5⟩ := HC3.out.six) | (go_at_call 12; refine (print_b p An ln cn Ao lo co Ai li ci Ah lh ch HLO.out kx kc HPR _ (HP.out.below HB3.out)).mono ?_; rintro e w4 ⟨rfl, hb4⟩; have HB4 := Lib.hid (HB3.out.trans (hb4.mono HB3.out.size)); have HC4 := Lib.hid (HC3.out.next hb4); clear hb4; clear c0 c1 c2 c3 c4 c5; obtain ⟨c0, c1, c2, c3, c4, c5⟩ := HC4.out.six) | (go_at_call 13; refine (rprint_b p An ln cn Ao lo co Ai li ci Ah lh ch HLO.out kx kc HPR _ (HP.out.below HB4.out)).mono ?_; rintro e w5 ⟨rfl, hb5⟩; have HB5 := Lib.hid (HB4.out.trans (hb5.mono HB4.out.size)); clear hb5; clear c0 c1 c2 c3 c4 c5) | (go_at_call 14; refine (parse_b s HSZ.out ((nn, ee), q) HQ m _ (HMB.out _ HB5.out)).mono ?_; rintro e wa ⟨hba, An3, ln3, cn3, Ao3, lo3, co3, Ai3, li3, ci3, Ah3, lh3, ch3, he, hp3⟩; have he' : e = .returned (.tuple #[.agg #[.slice An3 ln3 cn3, .slice Ao3 lo3 co3, .slice Ai3 li3 ci3, .slice Ah3 lh3 ch3, .int .i64 q.obs, .bool q.timed], .int .i64 nn, .int .i64 ee]) := he; subst he'; have HE3 := Lib.hid hp3; have HBA := Lib.hid (HB5.out.trans (hba.mono HB5.out.size)); clear hba hp3 he) | fail)
    have HC4 := Lib.hid (Cs.new wa #[.slice An3 ln3 cn3, .slice Ao3 lo3 co3, .slice Ai3 li3 ci3, .slice Ah3 lh3 ch3, .int .i64 q.obs, .bool q.timed] 26)
    have HB4b := Lib.hid (HBA.out.alloc HBA.out.size (.cells #[.slice An3 ln3 cn3, .slice Ao3 lo3 co3, .slice Ai3 li3 ci3, .slice Ah3 lh3 ch3, .int .i64 q.obs, .bool q.timed] 26))
    have HE4 := Lib.hid (HE3.out.below ((Below.refl _ _).alloc (Nat.le_refl _) (.cells #[.slice An3 ln3 cn3, .slice Ao3 lo3 co3, .slice Ai3 li3 ci3, .slice Ah3 lh3 ch3, .int .i64 q.obs, .bool q.timed] 26)))
    obtain ⟨wb, hwb⟩ : ∃ z, wa.alloc (.cells #[.slice An3 ln3 cn3, .slice Ao3 lo3 co3, .slice Ai3 li3 ci3, .slice Ah3 lh3 ch3, .int .i64 q.obs, .bool q.timed] 26) = z := ⟨_, rfl⟩
    obtain ⟨q4, hq4⟩ : ∃ z, wa.heap.size = z := ⟨_, rfl⟩
    rw [hwb, hq4] at HC4
    rw [hwb] at HB4b HE4
    rw [hwb, hq4]
    have HC4b := HC4
    clear hwb hq4 HE3 HBA
    go_upto_region 9 with (first | (go_at_call 15; refine (rparse_b s HSZ.out ((nn, ee), q) HQ _).mono ?_; rintro e wc ⟨hbc, An5, ln5, cn5, Ao5, lo5, co5, Ai5, li5, ci5, Ah5, lh5, ch5, he, hp5⟩; obtain rfl : ln3 = ln5 := HE4.out.n.len.symm.trans hp5.n.len; obtain rfl : lo3 = lo5 := HE4.out.o.len.symm.trans hp5.o.len; obtain rfl : li3 = li5 := HE4.out.i.len.symm.trans hp5.i.len; obtain rfl : lh3 = lh5 := HE4.out.h.len.symm.trans hp5.h.len; have he' : e = .returned (.tuple #[.agg #[.slice An5 ln3 cn5, .slice Ao5 lo3 co5, .slice Ai5 li3 ci5, .slice Ah5 lh3 ch5, .int .i64 q.obs, .bool q.timed], .int .i64 nn, .int .i64 ee]) := he; subst he'; have HE5 := Lib.hid hp5; have HX5 := Lib.hid (HE4.out.below hbc); have HC5 := Lib.hid (HC4b.out.next hbc); have HBC := Lib.hid (HB4b.out.trans (hbc.mono HB4b.out.size)); clear hbc hp5 he) | fail)
    have HC6 := Lib.hid (HC5.out.alloc (.cells #[.slice An5 ln3 cn5, .slice Ao5 lo3 co5, .slice Ai5 li3 ci5, .slice Ah5 lh3 ch5, .int .i64 q.obs, .bool q.timed] 26))
    have HD6 := Lib.hid (Cs.new wc #[.slice An5 ln3 cn5, .slice Ao5 lo3 co5, .slice Ai5 li3 ci5, .slice Ah5 lh3 ch5, .int .i64 q.obs, .bool q.timed] 26)
    have HB6 := Lib.hid (HBC.out.alloc HBC.out.size (.cells #[.slice An5 ln3 cn5, .slice Ao5 lo3 co5, .slice Ai5 li3 ci5, .slice Ah5 lh3 ch5, .int .i64 q.obs, .bool q.timed] 26))
    have HE6 := Lib.hid (HE5.out.below ((Below.refl _ _).alloc (Nat.le_refl _) (.cells #[.slice An5 ln3 cn5, .slice Ao5 lo3 co5, .slice Ai5 li3 ci5, .slice Ah5 lh3 ch5, .int .i64 q.obs, .bool q.timed] 26)))
    have HX6 := Lib.hid (HX5.out.below ((Below.refl _ _).alloc (Nat.le_refl _) (.cells #[.slice An5 ln3 cn5, .slice Ao5 lo3 co5, .slice Ai5 li3 ci5, .slice Ah5 lh3 ch5, .int .i64 q.obs, .bool q.timed] 26)))
    obtain ⟨wd, hwd⟩ : ∃ z, wc.alloc (.cells #[.slice An5 ln3 cn5, .slice Ao5 lo3 co5, .slice Ai5 li3 ci5, .slice Ah5 lh3 ch5, .int .i64 q.obs, .bool q.timed] 26) = z := ⟨_, rfl⟩
    obtain ⟨q6, hq6⟩ : ∃ z, wc.heap.size = z := ⟨_, rfl⟩
    rw [hwd] at HC6 HB6 HE6 HX6
    rw [hwd, hq6] at HD6
    rw [hwd, hq6]
    clear hwd hq6 HC5 HBC HE5 HX5
    obtain ⟨c0, c1, c2, c3, c4, c5⟩ := HC6.out.six
    obtain ⟨d0, d1, d2, d3, d4, d5⟩ := HD6.out.six
    go_wp2_with (first | (go_at_call 16; refine (same_b q ln3 lo3 li3 lh3 An3 cn3 Ao3 co3 Ai3 ci3 Ah3 ch3 An5 cn5 Ao5 co5 Ai5 ci5 Ah5 ch5 _ HX6.out HE6.out HWF.out).mono ?_; rintro e w8 ⟨rfl, hb8⟩; have HB9 := Lib.hid (HB6.out.trans (hb8.mono HB6.out.size)); clear hb8) | fail)
    go_ret
    exact ⟨rfl, HB9.out⟩
end Go.Proofs.YtnipigninbeplaaDoor
