/-
  The walk over the program's report on an expression.
-/
import Derived.Test.YthlhicegchkjjaaGreatDoorEtH
import Derived.Deep.DeepCutAuto
import Derived.Deep.Cut
namespace Go.Proofs.YthlhicegchkjjaaGreatDoor
open Go.RowKit
namespace ET
theorem nodeForm_parts (o n : Int) (s : ByteArray) (ks : List ET) : nodeForm (mk o n s ks) = (decide (arity o = (ks.length : Int)) && ((decide (o = 0) || decide (n = 0)) && ((decide (o = 3) || (decide (o = 4) || decide (s.size = 0))) && ((!(decide (o = 4) || decide (o = 5))) || placeB (mk o n s ks))))) := rfl
end ET
/-- Inside expr: the parameter's own block, and the report. -/
structure St (w W : World) (R : Nat) (o n : Int) (s : ByteArray) (A : Option Addr) (l c : Nat) (n0 d : Int) (bf bn bm : Bool) : Prop where
  rep : Rep W R n0 d bf bn bm
  only : Only R (boxed w o n s A l c) W
  ne : R < w.heap.size
theorem St.next {w W W' : World} {R : Nat} {o n : Int} {s : ByteArray} {A : Option Addr} {l c : Nat} {n0 d n1 d1 : Int} {bf bn bm bf1 bn1 bm1 : Bool} (h : St w W R o n s A l c n0 d bf bn bm) (ho : Only R W W') (hr : Rep W' R n1 d1 bf1 bn1 bm1) : St w W' R o n s A l c n1 d1 bf1 bn1 bm1 := ⟨hr, h.only.trans ho, h.ne⟩
theorem St.grow {w W W' : World} {R : Nat} {o n : Int} {s : ByteArray} {A : Option Addr} {l c : Nat} {n0 d : Int} {bf bn bm : Bool} (h : St w W R o n s A l c n0 d bf bn bm) (hb : Below W.heap.size W W') : St w W' R o n s A l c n0 d bf bn bm := h.next (Only.of_below hb) (h.rep.next hb)
theorem St.drew {w W : World} {R : Nat} {o n : Int} {s : ByteArray} {A : Option Addr} {l c : Nat} {n0 d : Int} {bf bn bm : Bool} (h : St w W R o n s A l c n0 d bf bn bm) : St w W.drew R o n s A l c n0 d bf bn bm := h.grow (Below.refl _ _).drew
theorem St.cells {w W : World} {R : Nat} {o n : Int} {s : ByteArray} {A : Option Addr} {l c : Nat} {n0 d : Int} {bf bn bm : Bool} (h : St w W R o n s A l c n0 d bf bn bm) :
    W.cell? ⟨w.heap.size, 0, none⟩ = some (.int .i64 o) ∧ W.cell? ⟨w.heap.size, 1, none⟩ = some (.int .i64 n) ∧ W.cell? ⟨w.heap.size, 2, none⟩ = some (.string s) ∧ W.cell? ⟨w.heap.size, 3, none⟩ = some (.slice A l c) := by
  have hne := h.ne
  have hc : ∀ i, W.cell? ⟨w.heap.size, i, none⟩ = (boxed w o n s A l c).cell? ⟨w.heap.size, i, none⟩ := fun i => h.only.cell (p := ⟨w.heap.size, i, none⟩) (by simp [boxed]) (by show w.heap.size ≠ R; omega)
  rw [hc, hc, hc, hc]
  exact boxed_cells (Below.refl _ _)
theorem St.out {w W : World} {R : Nat} {o n : Int} {s : ByteArray} {A : Option Addr} {l c : Nat} {n0 d : Int} {bf bn bm : Bool} (h : St w W R o n s A l c n0 d bf bn bm) : Only R w W := (Only.of_below (boxed_below w o n s A l c)).trans h.only
theorem St.ml {w0 w W : World} {R : Nat} {o n : Int} {s : ByteArray} {A : Option Addr} {l c : Nat} {n0 d : Int} {bf bn bm : Bool} (h : St w W R o n s A l c n0 d bf bn bm) (hm : ML w0) (hb : Below w0.heap.size w0 w) (hR : w0.heap.size ≤ R) : ML W :=
  hm.below hm.pos (hb.trans (h.out.below hR hb.size))
theorem place_l (o n : Int) (s : ByteArray) (ks : List ET) (A : Option Addr) (c l : Nat) (b : Bool) (hl : ks.length = l) (H : Hid (ET.placeB (.mk o n s ks) = b)) (w : World) (hE : EOk w s A c ks) :
    Calls Tryz.prog 95 #[.agg #[.int .i64 o, .int .i64 n, .string s, .slice A l c]] w fun e w' => e = .returned (.bool b) ∧ Below w.heap.size w w' := by
  subst hl
  exact place_b _ o n s ks A c w b (Nat.le_refl _) hE H
set_option maxRecDepth 100000 in
set_option maxHeartbeats 4000000 in
theorem expr_any (m : Nat) : ∀ (o n : Int) (s : ByteArray) (ks : List ET) (A : Option Addr) (c l : Nat) (w0 w : World) (R : Nat) (n0 d0 x n1 d1 : Int) (bf bn bm bf1 bn1 bm1 : Bool), ks.length = l → ET.cnt (.mk o n s ks) ≤ m → EOk w0 s A c ks → ML w0 → Below w0.heap.size w0 w → w0.heap.size ≤ R →
    0 ≤ n0 → n1 ≤ 1000000 → 1 ≤ x → d1 ≤ 1000000 → 0 ≤ d0 → Hid (n0 + ET.cnt (.mk o n s ks) = n1) → Hid (max d0 (x - 1 + ET.dep (.mk o n s ks)) = d1) → Hid ((bf || !ET.formB (.mk o n s ks)) = bf1) → Hid ((bn || !ET.namesB (.mk o n s ks)) = bn1) → Hid ((bm || !ET.numsB (.mk o n s ks)) = bm1) → Rep w R n0 d0 bf bn bm →
    Calls Tryz.prog 73 #[.pointer (some ⟨R, 0, none⟩), .agg #[.int .i64 o, .int .i64 n, .string s, .slice A l c], .int .i64 x] w fun e w' => e = .returned (.tuple #[]) ∧ Only R w w' ∧ Rep w' R n1 d1 bf1 bn1 bm1 := by
  induction m with
  | zero => intro o n s ks A c l w0 w R n0 d0 x n1 d1 bf bn bm bf1 bn1 bm1 _ h; simp [ET.cnt] at h
  | succ m ih =>
    intro o n s ks A c l w0 w R n0 d0 x n1 d1 bf bn bm bf1 bn1 bm1 hl hm hE hML hB hR hn0 hn1 hx hd1 hd0 HN HD HF HNm HNu hrep
    have IH := Lib.hid ih
    clear ih
    have hlm : l ≤ 9223372036854775807 := by have h1 := hE.2.1; have h2 := hE.2.2.1; unfold maxLen at h2; omega
    have HSZ := Lib.hid hE.1
    have HE := Lib.hid hE
    have HM := Lib.hid hm
    have HLN := Lib.hid hl
    have HML := Lib.hid hML
    have HB := Lib.hid hB
    have KR := Lib.hid hrep
    have HN' : Hid (n0 + 1 + (ET.cntL ks : Nat) = n1) := by
      show _ = _
      rw [← HN.out]; simp only [ET.cnt]; omega
    have HD' : Hid (max (max d0 x) (x + (ET.depL ks : Nat)) = d1) := by
      show _ = _
      rw [← HD.out]; simp only [ET.dep]; omega
    have hn0' : n0 + 1 ≤ 1000000 := by have := HN'.out; omega
    have hx1 : x ≤ 1000000 := by have := HD'.out; omega
    clear hE hm hl hML hB HN HD
    obtain ⟨r, hr⟩ : ∃ r, ET.arity o = r := ⟨_, rfl⟩
    have HK := Lib.hid hr
    obtain ⟨ba, qa⟩ : ∃ ba, (r == (l : Int)) = ba := ⟨_, rfl⟩
    have hRw := hrep.room
    obtain ⟨-, c0, c1, c2, c3, c4, f0, f1, f2, f3, f4⟩ := hrep
    clear hr
    obtain ⟨dq, hdq⟩ : ∃ dq, max d0 x = dq := ⟨_, rfl⟩
    have HDQ := Lib.hid hdq
    clear hdq
    obtain ⟨b3', hb3'⟩ : ∃ b, (bf || !ba) = b := ⟨_, rfl⟩
    have HB3 := Lib.hid hb3'
    clear hb3'
    go_enter Tryz.func73, Tryz.ntmps73
    go_wp2_with fail
    have hcm : (w.setCell ⟨R, 0, none⟩ (.int .i64 (n0 + 1))).alloc (.cells #[.int .i64 o, .int .i64 n, .string s, .slice A l c] 44) = (boxed w o n s A l c).setCell ⟨R, 0, none⟩ (.int .i64 (n0 + 1)) := by unfold boxed; go_simp
    rw [hcm]
    clear hcm
    refine (deep_b R (n0 + 1) d0 bf bn bm x dq HDQ _ (((KR.out.next (boxed_below w o n s A l c)).set0 (n0 + 1)))).mono ?_
    rintro e w1 ⟨rfl, ho, -, hrp⟩
    have S1 := Lib.hid (St.next ⟨(KR.out.next (boxed_below w o n s A l c)).set0 (n0 + 1), Only.set R 0 _ _, hRw⟩ ho hrp)
    clear ho hrp c0 c1 c2 c3 c4 f0 f1 f2 f3 f4
    obtain ⟨e0, e1, e2, e3⟩ := S1.out.cells
    go_wp2_with fail
    go_region_held3 (fun W => W.cell? ⟨w.heap.size, 0, none⟩ = some (.int .i64 o) ∧ W.cell? ⟨w.heap.size, 3, none⟩ = some (.slice A l c)) (first | exact ⟨S1.out.drew.cells.1, S1.out.drew.cells.2.2.2⟩ | exact ⟨S2.out.cells.1, S2.out.cells.2.2.2⟩) (first
      | (go_at_call 94; refine (arity_b o r HK _).mono ?_; rintro e w' ⟨rfl, rfl⟩)
      | (go_at_call 93; refine (formb R (n0 + 1) dq bf bn bm ba b3' HB3 _ S1.out.drew.rep).mono ?_; rintro e w2 ⟨rfl, ho, -, hrp⟩; have S2 := Lib.hid (S1.out.drew.next ho hrp); clear ho hrp))
    have HQA := Lib.hid qa
    clear e0 e1 e2 e3 S1 qa
    obtain ⟨e0, e1, e2, e3⟩ := S2.out.cells
    obtain ⟨b4, hb4⟩ : ∃ b, (b3' || !((n == 0) || (o == 0))) = b := ⟨_, rfl⟩
    have HB4 := Lib.hid hb4
    clear hb4
    go_upto_region 4 with fail
    go_cut [] (fun wc => Hid (St w wc R o n s A l c (n0 + 1) dq b4 bn bm))
    case first =>
      rcases hq : (n == 0) with _ | _
      · rcases hp : (o == 0) with _ | _
        · go_wp2_with fail
          refine (formb R (n0 + 1) dq b3' bn bm false b4 (by have := HB4.out; rw [hq, hp] at this; exact this) _ S2.out.rep).mono ?_
          rintro e w3 ⟨rfl, ho, -, hrp⟩
          go_wp2_with fail
          go_meet
          case rel => exact S2.out.next ho hrp
        · go_wp2_with fail
          refine (formb R (n0 + 1) dq b3' bn bm true b4 (by have := HB4.out; rw [hq, hp] at this; exact this) _ S2.out.rep).mono ?_
          rintro e w3 ⟨rfl, ho, -, hrp⟩
          go_wp2_with fail
          go_meet
          case rel => exact S2.out.next ho hrp
      · go_wp2_with fail
        refine (formb R (n0 + 1) dq b3' bn bm true b4 (by have := HB4.out; rw [hq] at this; exact this) _ S2.out.rep).mono ?_
        rintro e w3 ⟨rfl, ho, -, hrp⟩
        go_wp2_with fail
        go_meet
        case rel => exact S2.out.next ho hrp
    case rest =>
      obtain ⟨nb, hnb⟩ : ∃ b, ((o == 3) || (o == 4)) = b := ⟨_, rfl⟩
      have HNB := Lib.hid hnb
      obtain ⟨b5, hb5⟩ : ∃ b, (b4 || !(s.toList.isEmpty || nb)) = b := ⟨_, rfl⟩
      have HB5 := Lib.hid hb5
      clear e0 e1 e2 e3 hnb hb5
      have S4 := hcut
      clear hcut
      obtain ⟨e0, e1, e2, e3⟩ := S4.out.cells
      go_upto_region 5 with fail
      go_cut [6] (fun s6 wx => wc = wx ∧ s6 = .bool nb)
      case first =>
        rcases hq : (o == 3) with _ | _
        · rcases hp : (o == 4) with _ | _
          all_goals
            have hz := HNB.out
            rw [hq, hp] at hz
            simp only [Bool.or_false, Bool.or_true] at hz
            subst hz
            go_wp2_with fail
            go_meet
            case rel => exact ⟨rfl, rfl⟩
        · have hz := HNB.out
          rw [hq] at hz
          simp only [Bool.true_or] at hz
          subst hz
          go_wp2_with fail
          go_meet
          case rel => exact ⟨rfl, rfl⟩
      case rest =>
        obtain ⟨rfl, rfl⟩ := hcut
        go_upto_region 6 with fail
        go_cut [] (fun wx => Hid (St w wx R o n s A l c (n0 + 1) dq b5 bn bm))
        case first =>
          rcases hq : s.toList.isEmpty with _ | _
          · go_wp2_with fail
            refine (formb R (n0 + 1) dq b4 bn bm nb b5 (by have := HB5.out; rw [hq, Bool.false_or] at this; exact this) _ S4.out.rep).mono ?_
            rintro e w3 ⟨rfl, ho, -, hrp⟩
            go_wp2_with fail
            go_meet
            case rel => exact S4.out.next ho hrp
          · go_wp2_with fail
            refine (formb R (n0 + 1) dq b4 bn bm true b5 (by have := HB5.out; rw [hq, Bool.true_or] at this; exact this) _ S4.out.rep).mono ?_
            rintro e w3 ⟨rfl, ho, -, hrp⟩
            go_wp2_with fail
            go_meet
            case rel => exact S4.out.next ho hrp
        case rest =>
          obtain ⟨pb, hpb⟩ : ∃ b, ET.placeB (.mk o n s ks) = b := ⟨_, rfl⟩
          have HPB := Lib.hid hpb
          obtain ⟨b6, hb6⟩ : ∃ b, (b5 || !(!((o == 4) || (o == 5)) || pb)) = b := ⟨_, rfl⟩
          have HB6 := Lib.hid hb6
          clear e0 e1 e2 e3 hpb hb6
          have S5 := hcut
          clear hcut
          obtain ⟨e0, e1, e2, e3⟩ := S5.out.cells
          obtain ⟨fb, hfb⟩ : ∃ b, ((o == 4) || (o == 5)) = b := ⟨_, rfl⟩
          have HFB := Lib.hid hfb
          clear hfb
          go_upto_region 7 with fail
          go_cut [61] (fun s61 wx => wc = wx ∧ s61 = .bool fb)
          case first =>
            rcases hq : (o == 4) with _ | _
            · rcases hp : (o == 5) with _ | _
              all_goals
                have hz := HFB.out
                rw [hq, hp] at hz
                simp only [Bool.or_false, Bool.or_true] at hz
                subst hz
                go_wp2_with fail
                go_meet
                case rel => exact ⟨rfl, rfl⟩
            · have hz := HFB.out
              rw [hq] at hz
              simp only [Bool.true_or] at hz
              subst hz
              go_wp2_with fail
              go_meet
              case rel => exact ⟨rfl, rfl⟩
          case rest =>
           obtain ⟨rfl, rfl⟩ := hcut
           have HB6' : Hid ((b5 || !(!fb || pb)) = b6) := by have h := HB6.out; rw [HFB.out] at h; exact h
           clear HB6
           go_upto_if 61 with fail
           go_cut [] (fun wx => Hid (St w wx R o n s A l c (n0 + 1) dq b6 bn bm))
           case first =>
            cases fb
            · have hz : b5 = b6 := by have := HB6'.out; simpa using this
              go_wp2_with fail
              go_meet
              case rel => rw [← hz]; exact S5.out
            · go_wp2_with fail
              refine (place_l o n s ks A c l pb HLN.out HPB _ (HE.out.below (HB.out.trans (S5.out.out.below hR HB.out.size)))).mono ?_
              rintro e w3 ⟨rfl, hb⟩
              have S5' := Lib.hid (S5.out.grow hb)
              clear hb
              go_wp2_with fail
              refine (formb R (n0 + 1) dq b5 bn bm pb b6 (by have := HB6'.out; rw [Bool.not_true, Bool.false_or] at this; exact this) _ S5'.out.rep).mono ?_
              rintro e w4 ⟨rfl, ho, -, hrp⟩
              go_wp2_with fail
              go_meet
              case rel => exact S5'.out.next ho hrp
           case rest =>
            obtain ⟨nm, hnm⟩ : ∃ b, Lx.isNameB s.data.toList = b := ⟨_, rfl⟩
            have HNM := Lib.hid hnm
            obtain ⟨b7, hb7⟩ : ∃ b, (bn || !(!nb || nm)) = b := ⟨_, rfl⟩
            have HB7 := Lib.hid hb7
            clear e0 e1 e2 e3 hnm hb7
            have S6 := hcut
            clear hcut
            obtain ⟨e0, e1, e2, e3⟩ := S6.out.cells
            go_upto_if 66 with fail
            go_cut [] (fun wx => Hid (St w wx R o n s A l c (n0 + 1) dq b6 b7 bm))
            case first =>
              cases nb
              · have hz : bn = b7 := by have := HB7.out; simpa using this
                go_wp2_with fail
                go_meet
                case rel => rw [← hz]; exact S6.out
              · go_wp2_with fail
                refine (nameb R (n0 + 1) dq b6 bn bm nm b7 s HNM HSZ.out (by have := HB7.out; rw [Bool.not_true, Bool.false_or] at this; exact this) _ (S6.out.ml HML.out HB.out hR) S6.out.rep).mono ?_
                rintro e w4 ⟨rfl, ho, -, hrp⟩
                go_wp2_with fail
                go_meet
                case rel => exact S6.out.next ho hrp
            case rest =>
              obtain ⟨ib, hib⟩ : ∃ b, (decide ((0 : Int) ≤ n) && decide (n ≤ 1048576)) = b := ⟨_, rfl⟩
              have HIB := Lib.hid hib
              obtain ⟨b8, hb8⟩ : ∃ b, (bm || !(!(o == 0) || ib)) = b := ⟨_, rfl⟩
              have HB8 := Lib.hid hb8
              clear e0 e1 e2 e3 hib hb8
              have S7 := hcut
              clear hcut
              obtain ⟨e0, e1, e2, e3⟩ := S7.out.cells
              go_upto_if 73 with fail
              go_cut [] (fun wx => Hid (St w wx R o n s A l c (n0 + 1) dq b6 b7 b8))
              case first =>
                rcases hq : (o == 0) with _ | _
                · have hz : bm = b8 := by have := HB8.out; rw [hq] at this; simpa using this
                  go_wp2_with fail
                  go_meet
                  case rel => rw [← hz]; exact S7.out
                · go_wp2_with fail
                  refine (inside_b n 0 1048576 ib HIB _).mono ?_
                  rintro e w3 ⟨rfl, rfl⟩
                  go_wp2_with fail
                  refine (numberb R (n0 + 1) dq b6 b7 bm ib b8 (by have := HB8.out; rw [hq, Bool.not_true, Bool.false_or] at this; exact this) _ S7.out.rep).mono ?_
                  rintro e w4 ⟨rfl, ho, -, hrp⟩
                  go_wp2_with fail
                  go_meet
                  case rel => exact S7.out.next ho hrp
              case rest =>
                have S8 := hcut
                clear hcut
                have hsz : s.toList.isEmpty = decide (s.size = 0) := by
                  by_cases h : s.size = 0
                  · rw [bytes_nil s h, Lib.toList_data]; rfl
                  · rw [bytes_some s h]; simp [h]
                have HFk : Hid ((b6 || !ET.formL ks) = bf1) := by
                  show _ = _
                  have h2 : ((n == 0) || (o == 0)) = (decide (o = 0) || decide (n = 0)) := Bool.or_comm _ _
                  have h3 : (s.toList.isEmpty || nb) = (decide (o = 3) || (decide (o = 4) || decide (s.size = 0))) := by
                    rw [← HNB.out, hsz]
                    show (_ || (decide (o = 3) || decide (o = 4))) = _
                    cases decide (o = 3) <;> cases decide (o = 4) <;> cases decide (s.size = 0) <;> rfl
                  have h1 : ba = decide (ET.arity o = (ks.length : Int)) := by rw [← HQA.out, HK.out, HLN.out]; rfl
                  have h4 : (!fb || pb) = ((!(decide (o = 4) || decide (o = 5))) || ET.placeB (.mk o n s ks)) := by rw [HPB.out, ← HFB.out]; rfl
                  have h5 := HF.out
                  simp only [ET.formB] at h5
                  rw [ET.nodeForm_parts, ← h1, ← h2, ← h3, ← h4] at h5
                  rw [← h5, ← HB6'.out, ← HB5.out, ← HB4.out, ← HB3.out]
                  generalize ((n == 0) || (o == 0)) = X2
                  generalize (s.toList.isEmpty || nb) = X3
                  generalize (!fb || pb) = X4
                  cases bf <;> cases ba <;> cases X2 <;> cases X3 <;> cases X4 <;> cases ET.formL ks <;> rfl
                have HNk : Hid ((b7 || !ET.namesL ks) = bn1) := by
                  show _ = _
                  have h5 := HNm.out
                  simp only [ET.namesB] at h5
                  have h1 : (decide (o = 3) || decide (o = 4)) = nb := HNB.out
                  rw [h1, HNM.out] at h5
                  rw [← h5, ← HB7.out]
                  cases bn <;> cases nb <;> cases nm <;> cases ET.namesL ks <;> rfl
                have HUk : Hid ((b8 || !ET.numsL ks) = bm1) := by
                  show _ = _
                  have h5 := HNu.out
                  simp only [ET.numsB] at h5
                  rw [HIB.out] at h5
                  rw [← h5, ← HB8.out]
                  show (_ || !(!(decide (o = 0)) || ib) || _) = _
                  cases bm <;> cases decide (o = 0) <;> cases ib <;> cases ET.numsL ks <;> rfl
                clear HB3 HB4 HB5 HB6' HB7 HB8 HPB HIB HNM HNB HFB HQA hsz S2 S4 S5 S6 S7
                have HDk : Hid (max dq (x + (ET.depL ks : Nat)) = d1) := by show _ = _; rw [← HDQ.out]; exact HD'.out
                have hdq : x ≤ dq := by have := HDQ.out; omega
                obtain ⟨e0, e1, e2, e3⟩ := S8.out.cells
                go_wp2_with fail
                go_loopw [82] (fun v wr => ∃ (k : Nat) (nk dk : Int) (fk uk mk : Bool), k ≤ l ∧ v = .int .i64 k ∧ 0 ≤ nk ∧ x ≤ dk ∧ Hid (nk + (ET.cntL (ks.drop k) : Nat) = n1) ∧ Hid (max dk (x + (ET.depL (ks.drop k) : Nat)) = d1) ∧ Hid ((fk || !ET.formL (ks.drop k)) = bf1) ∧ Hid ((uk || !ET.namesL (ks.drop k)) = bn1) ∧ Hid ((mk || !ET.numsL (ks.drop k)) = bm1) ∧ Hid (St w wr R o n s A l c nk dk fk uk mk)) (fun v _ => l - (intOf v).toNat)
                case atStart => exact ⟨0, n0 + 1, dq, b6, b7, b8, by omega, rfl, by omega, hdq, HN', HDk, HFk, HNk, HUk, S8⟩
                case round =>
                  obtain ⟨k, nk, dk, fk, uk, mk, hk, rfl, hnk, hdk, H1, H2, H3, H4, H5, SK⟩ := hrel
                  by_cases hlt : k < l
                  · have hlt' : k < ks.length := by rw [HLN.out]; exact hlt
                    have hbw : Below w0.heap.size w0 wr := HB.out.trans (SK.out.out.below hR HB.out.size)
                    obtain ⟨o', n', s', ks', g, f, A', c', hkid, rfl, hg, hok, c0, c1, c2, c3⟩ := HE.out.kid k hlt'
                    replace c0 := (hbw.cell (p := ⟨g, _, none⟩) hg).trans c0
                    replace c1 := (hbw.cell (p := ⟨g, _, none⟩) hg).trans c1
                    replace c2 := (hbw.cell (p := ⟨g, _, none⟩) hg).trans c2
                    replace c3 := (hbw.cell (p := ⟨g, _, none⟩) hg).trans c3
                    have HC1 : Hid (ET.cnt (.mk o' n' s' ks') ≤ m) := by
                      have hkc := ET.cnt_kid o n s ks k hlt'
                      rw [hkid] at hkc
                      have := HM.out
                      show _ ≤ m
                      omega
                    have HO := Lib.hid hok
                    have HBW := Lib.hid hbw
                    have hdr := ET.dropL ks k hlt'
                    rw [hkid] at hdr
                    obtain ⟨n2, hn2⟩ : ∃ z : Int, nk + (ET.cnt (.mk o' n' s' ks') : Nat) = z := ⟨_, rfl⟩
                    obtain ⟨d2, hd2⟩ : ∃ z : Int, max dk (x + 1 - 1 + (ET.dep (.mk o' n' s' ks') : Nat)) = z := ⟨_, rfl⟩
                    obtain ⟨f2, hf2⟩ : ∃ z, (fk || !ET.formB (.mk o' n' s' ks')) = z := ⟨_, rfl⟩
                    obtain ⟨u2, hu2⟩ : ∃ z, (uk || !ET.namesB (.mk o' n' s' ks')) = z := ⟨_, rfl⟩
                    obtain ⟨m2, hm2⟩ : ∃ z, (mk || !ET.numsB (.mk o' n' s' ks')) = z := ⟨_, rfl⟩
                    have G1 : Hid (n2 + (ET.cntL (ks.drop (k + 1)) : Nat) = n1) := by
                      have h := H1.out; rw [hdr] at h; simp only [ET.cntL] at h; show _ = _; omega
                    have G2 : Hid (max d2 (x + (ET.depL (ks.drop (k + 1)) : Nat)) = d1) := by
                      have h := H2.out; rw [hdr] at h; simp only [ET.depL] at h; show _ = _; omega
                    have G3 : Hid ((f2 || !ET.formL (ks.drop (k + 1))) = bf1) := by
                      have h := H3.out; rw [hdr] at h; simp only [ET.formL] at h; show _ = _; rw [← h, ← hf2, Bool.not_and, Bool.or_assoc]
                    have G4 : Hid ((u2 || !ET.namesL (ks.drop (k + 1))) = bn1) := by
                      have h := H4.out; rw [hdr] at h; simp only [ET.namesL] at h; show _ = _; rw [← h, ← hu2, Bool.not_and, Bool.or_assoc]
                    have G5 : Hid ((m2 || !ET.numsL (ks.drop (k + 1))) = bm1) := by
                      have h := H5.out; rw [hdr] at h; simp only [ET.numsL] at h; show _ = _; rw [← h, ← hm2, Bool.not_and, Bool.or_assoc]
                    have hn2a : n2 ≤ 1000000 := by have := G1.out; omega
                    have hd2a : d2 ≤ 1000000 := by have := G2.out; omega
                    have hn2b : 0 ≤ n2 := by omega
                    have hd2b : x ≤ d2 := by omega
                    have J1 := Lib.hid hn2
                    have J2 := Lib.hid hd2
                    have J3 := Lib.hid hf2
                    have J4 := Lib.hid hu2
                    have J5 := Lib.hid hm2
                    clear hok hbw hdr hkid hn2 hd2 hf2 hu2 hm2 H1 H2 H3 H4 H5
                    go_wp2_with fail
                    refine (IH.out o' n' s' ks' A' c' _ w0 _ R nk dk (x + 1) n2 d2 fk uk mk f2 u2 m2 rfl HC1.out HO.out HML.out (HBW.out.trans ((Below.refl _ _).alloc HBW.out.size _)) hR hnk hn2a (by omega) hd2a (by omega) J1 J2 J3 J4 J5 (SK.out.rep.next ((Below.refl _ _).alloc (Nat.le_refl _) _))).mono ?_
                    rintro e w9 ⟨rfl, ho, hrp⟩
                    have SN := Lib.hid ((SK.out.grow ((Below.refl _ _).alloc (Nat.le_refl _) _)).next ho hrp)
                    clear ho hrp c0 c1 c2 c3
                    go_wp2_with fail
                    go_roundw
                    case rel => exact ⟨k + 1, n2, d2, f2, u2, m2, by omega, by go_num, hn2b, hd2b, G1, G2, G3, G4, G5, SN⟩
                    case measure => simp [intOf]; omega
                  · have hke : k = l := by omega
                    have hd : ks.drop k = [] := by rw [hke, ← HLN.out, List.drop_length]
                    have z1 : nk = n1 := by have := H1.out; rw [hd] at this; simpa [ET.cntL] using this
                    have z2 : dk = d1 := by have := H2.out; rw [hd] at this; simp only [ET.depL] at this; omega
                    have z3 : fk = bf1 := by have := H3.out; rw [hd] at this; simpa [ET.formL] using this
                    have z4 : uk = bn1 := by have := H4.out; rw [hd] at this; simpa [ET.namesL] using this
                    have z5 : mk = bm1 := by have := H5.out; rw [hd] at this; simpa [ET.numsL] using this
                    have HQ := Lib.hid (And.intro SK.out.out (z1 ▸ z2 ▸ z3 ▸ z4 ▸ z5 ▸ SK.out.rep))
                    clear hd z1 z2 z3 z4 z5 H1 H2 H3 H4 H5
                    go_wp2_with fail
                    go_returns
                    exact ⟨rfl, HQ.out⟩
end Go.Proofs.YthlhicegchkjjaaGreatDoor
