/-
  The walk over readLevels.
-/
import Derived.Test.YtnipigninbeplaaDoorPG
import Derived.Test.YtnipigninbeplaaDoorQoB
import Derived.BigQuiet
import Derived.StillTailTactics
namespace Go.Proofs.YtnipigninbeplaaDoor
open Go.RowKit Go.Maps

theorem evens_at : ∀ (t : List ByteArray) (j : Nat), (evens t)[j]? = t[2 * j]?
  | [], j => by simp [evens]
  | [a], 0 => rfl
  | [a], j + 1 => by
    have e : 2 * (j + 1) = (2 * j + 1) + 1 := by omega
    rw [e]
    simp [evens]
  | a :: c :: l, 0 => rfl
  | a :: c :: l, j + 1 => by
    have e : 2 * (j + 1) = (2 * j + 1) + 1 := by omega
    rw [e]
    simp only [evens, List.getElem?_cons_succ]
    exact evens_at l j
theorem evens_len : ∀ t : List ByteArray, (evens t).length * 2 = t.length ∨ (evens t).length * 2 = t.length + 1
  | [] => .inl rfl
  | [_] => .inr rfl
  | _ :: _ :: l => by
    have := evens_len l
    simp only [evens, List.length_cons]
    omega
set_option maxRecDepth 100000 in
/-- 'v, ok := m[k]' of the reader's map, in a world with the same heap but for draws. -/
theorem IxIn.look {W : World} {b n : Nat} {ls : List ByteArray} {D : DataW Unit} (h : IxIn W b n ls D) (s : ByteArray) (hs : s.size ≤ maxLen) :
    (Instr.lookup 75 (.map (some b)) (.string s) true).run Tryd.prog W = .ok (.tuple #[.int .i64 (if 0 ≤ findS ls s then findS ls s else 0), .bool (amongB ls s)]) W := by
  have hkey : keyOf Tryd.prog 9 (.string s) = some (.string s.data.toList) := Go.WideMaps.keyOf_string_mk tString hs
  obtain ⟨v, ps, hrun, hv⟩ := h.1.look_ok lawS tMapI (zInt W) (zd := .lit (.int .i64 0)) (zp := []) (plainElem_int tInt (by decide)) hkey
  obtain ⟨a, rfl, hz, _⟩ := plainElem_int_inv tInt hv
  have h1 : D.atKey (.string s.data.toList) (.lit (.int .i64 0)) = .lit (.int .i64 a) := congrArg Prod.fst hz
  rw [h.2 s (.lit (.int .i64 0))] at h1
  have h2 : a = if 0 ≤ findS ls s then findS ls s else 0 := by
    by_cases e : 0 ≤ findS ls s
    · rw [if_pos e] at h1 ⊢
      injection h1 with h1
      injection h1 with _ h1
      exact h1.symm
    · rw [if_neg e] at h1 ⊢
      injection h1 with h1
      injection h1 with _ h1
      exact h1.symm
  rw [hrun, h.has s, h2]
theorem rdLevels_ok (s : Rd) (t : List ByteArray) : rdLevels s t = match items1 t with | none => (6, s) | some l => if s.sorted then (8, s) else (0, ⟨{ s.p with levels := l }, true, s.seen⟩) := rfl
theorem Rm.reix {K : Nat × Obj} {w W : World} {V : Nat → Value} {s : Rd} {ls ls2 : List ByteArray} {n n2 : Nat} {D D2 : DataW Unit} (h : Rm K w W V s ls n D) (hi : IxIn W w.heap.size n2 ls2 D2) : Rm K w W V s ls2 n2 D2 := ⟨h.bel, h.cs, hi, h.row, h.ap, h.lt, h.kp⟩
theorem Rm.mapped {K : Nat × Obj} {w W W2 : World} {V : Nat → Value} {s : Rd} {ls ls2 : List ByteArray} {n n2 : Nat} {D D2 : DataW Unit} (h : Rm K w W V s ls n D) (hg : W.grownBy W2 (some w.heap.size)) (hi : IxIn W2 w.heap.size n2 ls2 D2) : Rm K w W2 V s ls2 n2 D2 :=
  ⟨h.bel.grown hg h.bel.size (fun j hj => by cases hj; exact Nat.le_refl _), cs_grown h.cs hg (by intro e; injection e with e; omega), hi, fun k hk => own_frS (h.row k hk) (Fr.grew hg) (fun x hx hs => by have := (h.own hk hx).1; injection hs with hs; omega), h.ap, Nat.le_trans h.lt hg.size, kp_fr h.kp.1 (Fr.grew hg) (fun e => by have := h.kp.2.1; injection e with e; omega), h.kp.2⟩
/-- What a reading line may change of what was there. -/
def RdS (w : World) (V : Nat → Value) (a x : Nat) : Prop := x = w.heap.size ∨ x = w.heap.size + 1 ∨ (V a).ownBlock = some x
theorem RdS.step {w w1 wr W6 : World} {V V' : Nat → Value} {a k : Nat} {o : Obj} (h : Fr (RdS w V a) w1 wr) (hv : (V' a).ownBlock = (V a).ownBlock ∨ ∀ y, (V' a).ownBlock = some y → w1.heap.size ≤ y) (hg : (wr.drew.alloc o).grownBy W6 (V' a).ownBlock) (u : Value) : Fr (RdS w V a) w1 (W6.setCell ⟨w.heap.size + 1, k, none⟩ u) := by
  refine ((h.drew.alloc o).comp (Fr.grew hg) (fun i hi hs => ?_)).setCell (p := ⟨w.heap.size + 1, k, none⟩) (.inr (.inl rfl)) u
  rcases hv with hv | hv
  · exact .inr (.inr (by rw [← hv]; exact hs))
  · have := hv i hs; omega
theorem RdS.mapped {w w1 wr W6 : World} {V : Nat → Value} {a : Nat} (h : Fr (RdS w V a) w1 wr) (hg : wr.grownBy W6 (some w.heap.size)) : Fr (RdS w V a) w1 W6 := h.comp (Fr.grew hg) (fun i _ hs => .inl (by injection hs with hs; exact hs.symm))
/-- What readLevels hands back. -/
def RlRes (K : Nat × Obj) (w : World) (m : Nat) (x : Int × Rd) (e : Ending) (W' : World) : Prop := e = .returned (.int .i64 x.1) ∧ ∃ (V' : Nat → Value) (n' : Nat) (D' : DataW Unit), n' ≤ m ∧ Rm K w W' V' x.2 x.2.p.levels n' D'

set_option maxRecDepth 100000 in
set_option maxHeartbeats 8000000 in
theorem readLevels_b {K : Nat × Obj} (w W : World) (V : Nat → Value) (s : Rd) (n : Nat) (D : DataW Unit) (t : List ByteArray) (A : Option Addr) (l c : Nat) (hl : l ≤ 9000) (hn : n ≤ 10000) (ht : NOk W A l c t) (x : Int × Rd) (H : Hid (rdLevels s t = x)) (h : Rm K w W V s s.p.levels n D) (hinv : s.sorted = false → s.p.levels = []) (hap : ∀ a, A = some a → ¬ RdS w V 0 a.block) :
    Calls Tryd.prog 58 #[.pointer (some ⟨w.heap.size + 1, 0, none⟩), .slice A l c] W fun e W' => RlRes K w (n + l) x e W' := by
  have HR := Lib.hid h
  have HT := Lib.hid ht
  have HL := Lib.hid ht.len
  have HINV := Lib.hid hinv
  have HAP := Lib.hid hap
  clear h ht hinv hap
  go_enter Tryd.func58, Tryd.ntmps58
  go_upto_region 2 with (first | (go_at_call 84; refine (list1_b t A l c hl _ HT.out).mono ?_; rintro e w1 ⟨hb1, hcase⟩; have HR1 := Lib.hid (HR.out.next hb1); have HT1 := Lib.hid (HT.out.below hb1); clear hb1; rcases hcase with ⟨hns, rfl⟩ | ⟨hsh, g, f, gi, k, ci, hA, hkl, rfl, hgi, hgi2, hcells⟩) | fail)
  · have hx : x = (6, s) := by
      rw [← H.out, rdLevels_ok, (items1_shp t).2 (fun h => hns h.1)]
    have HXX := Lib.hid hx
    clear H hns hx
    go_wp2_with fail
    go_loopw [6, 20] (fun u v wr => u = .bool false ∧ v = .int .i64 0 ∧ wr = w1) (fun _ _ _ => 0)
    case atStart => exact ⟨rfl, rfl, rfl⟩
    case round =>
      obtain ⟨rfl, rfl, hwr⟩ := hrel
      subst hwr
      go_wp2_with fail
      go_ret
      rw [HXX.out]
      exact ⟨rfl, V, n, D, by omega, HR1.out⟩
  · obtain ⟨ev, hev⟩ : ∃ ev, evens t = ev := ⟨_, rfl⟩
    have HEV := Lib.hid hev
    have hel : ev.length = k := by
      have h1 := evens_len t
      have h2 := hsh.1
      rw [hev] at h1
      omega
    have HEL := Lib.hid hel
    have HSH := Lib.hid hsh
    have HCE := Lib.hid hcells
    have HKL := Lib.hid hkl
    have hk9 : k ≤ 9000 := by have := HL.out; omega
    subst hA
    have HAT : Hid (∀ (j : Nat) (W' : World), Fr (RdS w V 0) w1 W' → j < k → ∃ (s1 : ByteArray), ev[j]? = some s1 ∧ s1.size ≤ maxLen ∧ W'.cell? ⟨g, f + j * 2, none⟩ = some (.string s1) ∧ W'.cell? ⟨gi, j, none⟩ = some (.slice (some ⟨g, f + j * 2, none⟩) 1 (c - j * 2)) ∧ (0 : Int) < ((c - j * 2 : Nat) : Int)) := by
      refine Lib.hid fun j W' hb hj => ?_
      have hlt : 2 * j < l := by have := HKL.out; have := HL.out; omega
      obtain ⟨s1, g1, f1, h1, h2, h3, h4, h5⟩ := HT1.out.at (2 * j) hlt
      injection h3 with h3
      injection h3 with e1 e2
      subst e1 e2
      refine ⟨s1, ?_, h2, ?_, ?_, ?_⟩
      · rw [← HEV.out, evens_at]; exact h1
      · rw [show j * 2 = 2 * j by omega]; exact (hb.cell (p := ⟨g, f + 2 * j, none⟩) h4 (fun hs => HAP.out ⟨g, f, none⟩ rfl hs)).trans h5
      · refine (hb.cell (p := ⟨gi, j, none⟩) hgi ?_).trans (HCE.out j hj)
        intro hs
        have hlt := HR.out.lt
        rcases hs with hs | hs | hs
        · simp only at hs; omega
        · simp only at hs; omega
        · have := (HR.out.own (by omega) hs).2; simp only at this; omega
      · have := HT1.out.cap; omega
    clear hev hel hsh hcells hkl
    go_wp2_with fail
    go_loopw [6, 20] (fun u v wr => ∃ (j : Nat) (b : Bool), j ≤ k ∧ u = .bool b ∧ v = .int .i64 j ∧ wr = w1 ∧ Hid ((ev.take j).all isW = b)) (fun _ v _ => k - (intOf v).toNat)
    case atStart => exact ⟨0, true, Nat.zero_le _, rfl, rfl, rfl, Lib.hid rfl⟩
    case round =>
      obtain ⟨j, b, hj, rfl, rfl, hwr, HA⟩ := hrel
      subst hwr
      rename World => w1
      by_cases hjt : j < k
      · have hjt' : (j : Int) < (k : Int) := by omega
        have hj0 : (0 : Int) ≤ (j : Int) := by omega
        obtain ⟨s1, e1, hs1, k0, k1, hcp⟩ := HAT.out j w1 (Fr.refl _ _) hjt
        obtain ⟨b1, hb1⟩ : ∃ z, isW s1 = z := ⟨_, rfl⟩
        have HW1 := Lib.hid hb1
        have HA2 : Hid ((ev.take (j + 1)).all isW = (b && b1)) := Lib.hid (by rw [List.take_add_one, e1, Option.toList_some, List.all_append, HA.out]; simp [hb1])
        clear hb1 e1 hs1 HA
        cases b with
        | false =>
          go_wp2_with fail
          go_roundw
          case rel => exact ⟨j + 1, false, by omega, rfl, by go_num, trivial, HA2⟩
          case measure => simp [intOf]; omega
        | true =>
          go_wp2_with (first | (go_at_call 85; refine (isWord_b s1 b1 HW1 _).mono ?_; rintro e wy ⟨rfl, rfl⟩) | fail)
          go_roundw
          case rel => exact ⟨j + 1, b1, by omega, rfl, by go_num, trivial, HA2⟩
          case measure => simp [intOf]; omega
      · have hge : ¬ ((j : Int) < (k : Int)) := by omega
        obtain rfl : k = j := by omega
        have HALL : Hid (ev.all isW = b) := Lib.hid (by have h := HA.out; rw [List.take_of_length_le (by rw [HEL.out]; exact Nat.le_refl _)] at h; exact h)
        clear HA hjt
        cases b with
        | false =>
          have hx : x = (6, s) := by
            rw [← H.out, rdLevels_ok, (items1_shp t).2 (fun h => by rw [HEV.out, HALL.out] at h; cases h.2)]
          have HXX := Lib.hid hx
          clear H hx
          go_wp2_with fail
          go_ret
          rw [HXX.out]
          exact ⟨rfl, V, n, D, by omega, HR1.out⟩
        | true =>
          have c7 := HR1.out.cs.at 7 _ rfl
          have f7 := HR1.out.cs.free 7
          obtain ⟨so, hso⟩ : ∃ z, s.sorted = z := ⟨_, rfl⟩
          have HSO := Lib.hid hso
          rw [hso] at c7
          clear hso
          have HIT : Hid (items1 t = some ev) := Lib.hid (by rw [(items1_shp t).1 ⟨HSH.out, by rw [HEV.out]; exact HALL.out⟩, HEV.out])
          cases so with
          | true =>
            have hx : x = (8, s) := by
              rw [← H.out, rdLevels_ok, HIT.out]
              show (if s.sorted then (8, s) else _) = _
              rw [if_pos HSO.out]
            have HXX := Lib.hid hx
            clear H hx
            go_wp2_with fail
            go_ret
            rw [HXX.out]
            exact ⟨rfl, V, n, D, by omega, HR1.out⟩
          | false =>
            have hx : x = (0, ⟨{ s.p with levels := ev }, true, s.seen⟩) := by
              rw [← H.out, rdLevels_ok, HIT.out]
              show (if s.sorted then (8, s) else _) = _
              rw [if_neg (by rw [HSO.out]; decide)]
            have HXX := Lib.hid hx
            have hlv : s.p.levels = [] := HINV.out HSO.out
            have HR2 : Hid (Rm K w (w1.setCell ⟨w.heap.size + 1, 7, none⟩ (.bool true)) V ⟨{ s.p with levels := ev.take 0 }, true, s.seen⟩ (ev.take 0) n D) := Lib.hid (by
              have h := HR1.out.field 7 (.bool true) ⟨s.p, true, s.seen⟩ (fun k _ => ⟨rfl, rfl⟩) rfl (by omega)
              rw [hlv] at h
              have e : (⟨s.p, true, s.seen⟩ : Rd) = ⟨{ s.p with levels := ev.take 0 }, true, s.seen⟩ := by
                have : s.p = { s.p with levels := ev.take 0 } := by
                  have e2 : ev.take 0 = s.p.levels := by rw [hlv]; rfl
                  rw [e2]
                rw [← this]
              rw [e] at h
              exact h)
            have HFR0 : Hid (Fr (RdS w V 0) w1 (w1.setCell ⟨w.heap.size + 1, 7, none⟩ (.bool true))) := Lib.hid (Fr.setCell (S := RdS w V 0) (Fr.refl _ _) (p := ⟨w.heap.size + 1, 7, none⟩) (.inr (.inl rfl)) _)
            obtain ⟨i0, hi0, hz0, hz1, hz2⟩ := info_parts (P := Tryd.prog) (e := 9) (z := .string ⟨#[]⟩) (size := 1) (bytes := 16) (by kernel_rfl)
            have HIN := Lib.hid (And.intro hi0 (And.intro hz0 (And.intro hz1 hz2)))
            clear H hx hlv hi0 hz0 hz1 hz2
            rename World => w1
            go_wp2_with fail
            go_loopw [43] (fun v wr => ∃ (j : Nat) (V' : Nat → Value) (n' : Nat) (D' : DataW Unit), j ≤ k ∧ v = .int .i64 j ∧ Hid (Rm K w wr V' ⟨{ s.p with levels := ev.take j }, true, s.seen⟩ (ev.take j) n' D') ∧ Hid (n' ≤ n + j ∧ Fr (RdS w V 0) w1 wr ∧ ((V' 0).ownBlock = (V 0).ownBlock ∨ ∀ y, (V' 0).ownBlock = some y → w1.heap.size ≤ y))) (fun v _ => k - (intOf v).toNat)
            case atStart => exact ⟨0, V, n, D, Nat.zero_le _, rfl, HR2, Lib.hid ⟨by omega, HFR0.out, .inl rfl⟩⟩
            case round =>
              obtain ⟨j, V', n', D', hj, rfl, HS, HF⟩ := hrel
              clear HR2 HFR0 c7 f7
              by_cases hjt : j < k
              · have hjt' : (j : Int) < (k : Int) := by omega
                have hj0 : (0 : Int) ≤ (j : Int) := by omega
                obtain ⟨s1, e1, hs1, k0, k1, hcp⟩ := HAT.out j wr HF.out.2.1 hjt
                have HE1 := Lib.hid e1
                have HS1 := Lib.hid hs1
                have c0 := HS.out.cs.at 0 _ rfl
                have hl5 : w.heap.size + 1 < wr.heap.size := by have := HS.out.lt; omega
                have hgl : g < wr.heap.size := by
                  exact World.block_lt_of_cell? _ _ k0
                have HR5 := Lib.hid (HS.out.next (Below.refl _ _).drew)
                have HOWN : Hid (∀ y, (V' 0).ownBlock = some y → w.heap.size + 2 ≤ y) := Lib.hid (fun y hy => (HR5.out.own (by omega) hy).1)
                have HS5 : Hid (w.heap.size + 2 ≤ (wr.drew.alloc (.cells #[.string s1] 9)).heap.size) := Lib.hid (by have := HS.out.lt; simp; omega)
                have HTL : Hid ((ev.take j).length = j) := Lib.hid (by rw [List.length_take, HEL.out, Nat.min_eq_left hj])
                obtain ⟨tj, htj⟩ : ∃ z, ev.take j = z := ⟨_, rfl⟩
                have HTK : Hid (ev.take (j + 1) = tj ++ [s1]) := Lib.hid (by rw [← htj, List.take_add_one, HE1.out]; rfl)
                rw [htj] at HS HTL HR5
                clear htj
                have htl9 : (tj).length ≤ 9000 := by have := HTL.out; omega
                have HOW : Hid (wr.drew.ownsRow (w.heap.size + 2) 9 1 (V' 0) (tj).length (svals (tj))) := Lib.hid (HR5.out.row 0 (by omega))
                clear e1 hs1
                go_upto_region 15 with fail
                go_region_law (first
                  | (refine step_append_lies _ (by rfl) _ _ _ (by rfl) (w.heap.size + 2) 9 i0 _ 1 16 Tryd.underlying22 HIN.out.1 HIN.out.2.1 HIN.out.2.2.1 HIN.out.2.2.2 rfl (by omega) (V' 0) (tj).length (svals (tj)) (by rfl) (own_frS HOW.out (Fr.of (S := fun _ => False) ((Below.refl _ _).alloc (Nat.le_refl _) (.cells #[.string s1] 9))) (fun _ _ h => h)) ⟨wr.drew.heap.size, 0, none⟩ 1 1 [.string s1] (by rfl) (by rfl) (World.news_of_block (cs := #[.string s1]) (t := 9) (fr := (0, 0)) (heap_alloc_new wr.drew _)) (by simp [Value.oneCell']) (by omega) (by unfold maxLen; omega) (by omega) HS5.out (wr.drew.heap.size + 1) (by simp) ?_; intro gg cap w6 hown6 hgrow6 hat6 hlt6; have cs6 := cs_grown (HR5.out.cs.alloc (.cells #[.string s1] 9)) hgrow6 (fun e => by have := HOWN.out _ e; omega); have b6 := cs6.at 0 _ rfl; have bf6 := cs6.free 0; have hbl6 := cs6.lt; clear cs6))
                all_goals
                  obtain ⟨V7, HR6, HV6⟩ : ∃ V7 : Nat → Value, Hid (Rm K w (w6.setCell ⟨w.heap.size + 1, 0, none⟩ (.slice (some ⟨gg, 0, none⟩) (tj.length + 1) cap)) V7 ⟨{ s.p with levels := ev.take (j + 1) }, true, s.seen⟩ tj n' D') ∧ Hid ((V7 0).ownBlock = (V 0).ownBlock ∨ ∀ y, (V7 0).ownBlock = some y → w1.heap.size ≤ y) := by
                    refine ⟨_, Lib.hid (HR5.out.push (a := 0) (o := .cells #[.string s1] 9) (by omega) hgrow6 hown6 (by rcases hat6 with h | h; exact .inl h; exact .inr (by rw [h])) ⟨{ s.p with levels := ev.take (j + 1) }, true, s.seen⟩ (by show (ev.take (j + 1)).length = tj.length + 1; rw [HTK.out]; simp) (by show svals (ev.take (j + 1)) = svals tj ++ [.string s1]; rw [HTK.out]; exact svals_app _ _) (fun k hk hka => by match k, hk, hka with | 3, _, _ => exact ⟨rfl, rfl⟩ | 1, _, _ => exact ⟨rfl, rfl⟩ | 2, _, _ => exact ⟨rfl, rfl⟩ | 0, _, h => exact absurd rfl h) ⟨rfl, rfl, rfl, rfl⟩), Lib.hid ?_⟩
                    show (Value.slice (some ⟨gg, 0, none⟩) (tj.length + 1) cap).ownBlock = (V 0).ownBlock ∨ ∀ y, (Value.slice (some ⟨gg, 0, none⟩) (tj.length + 1) cap).ownBlock = some y → w1.heap.size ≤ y
                    have hsz := HF.out.2.1.size
                    rcases hat6 with h | h
                    · rcases HF.out.2.2 with h2 | h2
                      · exact .inl (by rw [← h2, h]; rfl)
                      · exact .inr (fun y hy => h2 y (by rw [h]; exact hy))
                    · exact .inr (fun y hy => by cases hy; show w1.heap.size ≤ gg; have e2 : wr.drew.heap.size = wr.heap.size := rfl; omega)
                  have HF6 := Lib.hid (RdS.step (k := 0) (u := .slice (some ⟨gg, 0, none⟩) (tj.length + 1) cap) HF.out.2.1 HF.out.2.2 hgrow6)
                  clear hown6 hgrow6 hat6 b6 bf6 hbl6 k0 k1 HR5 HOW HS5 HOWN hlt6 c0
                  go_upto_region 16 with fail
                  obtain ⟨w7, hw7⟩ : ∃ z, w6.setCell ⟨w.heap.size + 1, 0, none⟩ (.slice (some ⟨gg, 0, none⟩) ((tj).length + 1) cap) = z := ⟨_, rfl⟩
                  rw [hw7] at HR6 HF6 ⊢
                  clear hw7
                  have c0 := HR6.out.cs.at 0 _ rfl
                  have c6 := HR6.out.cs.at 6 _ rfl
                  obtain ⟨s2, e2, _, k0, k1, _⟩ := HAT.out j w7 HF6.out hjt
                  rw [HE1.out] at e2
                  cases e2
                  have hl7 : w.heap.size + 1 < w7.heap.size := by have := HR6.out.lt; omega
                  obtain ⟨i5, hi5⟩ : ∃ z, (if 0 ≤ findS (tj) s1 then findS (tj) s1 else 0) = z := ⟨_, rfl⟩
                  cases hkn : amongB (tj) s1 with
                  | true =>
                    have HLK : ∀ q, (Instr.lookup 75 (.map (some w.heap.size)) (.string s1) true).run Tryd.prog (w7.drewN q) = .ok (.tuple #[.int .i64 i5, .bool true]) (w7.drewN q) := fun q => by
                      rw [(HR6.out.ix.next (below_drewN (Below.refl _ _) q)).look s1 HS1.out, hi5, hkn]
                    have HKN := Lib.hid hkn
                    clear hi5 hkn
                    go_quiet (fail)
                    clear HLK
                    go_wp2_with fail
                    go_roundw
                    case rel =>
                      refine ⟨j + 1, _, n', D', by omega, by go_num, ?_, Lib.hid ⟨by have := HF.out.1; omega, HF6.out.next (below_drewN (Below.refl _ _) nq), HV6.out⟩⟩
                      refine Lib.hid ((HR6.out.next (below_drewN (Below.refl _ _) nq)).reix ?_)
                      rw [HTK.out]
                      exact (HR6.out.ix.next (below_drewN (Below.refl _ _) nq)).skip s1 HKN.out
                    case measure => simp [intOf]; omega
                  | false =>
                    have HLK : ∀ q, (Instr.lookup 75 (.map (some w.heap.size)) (.string s1) true).run Tryd.prog (w7.drewN q) = .ok (.tuple #[.int .i64 i5, .bool false]) (w7.drewN q) := fun q => by
                      rw [(HR6.out.ix.next (below_drewN (Below.refl _ _) q)).look s1 HS1.out, hi5, hkn]
                    have HKN := Lib.hid hkn
                    clear hi5 hkn
                    go_quiet (fail)
                    clear HLK
                    go_upto_region 18 with fail
                    obtain ⟨w8, hw8⟩ : ∃ z, w7.drewN nq = z := ⟨_, rfl⟩
                    have HR8 : Hid (Rm K w w8.drew V7 ⟨{ s.p with levels := ev.take (j + 1) }, true, s.seen⟩ tj n' D') := Lib.hid (by rw [← hw8]; exact HR6.out.next (below_drewN (Below.refl _ _) nq).drew)
                    have HF8 : Hid (Fr (RdS w V 0) w1 w8.drew) := Lib.hid (by rw [← hw8]; exact HF6.out.next (below_drewN (Below.refl _ _) nq).drew)
                    have k0 := k0
                    obtain ⟨s3, e3, _, m0, m1, _⟩ := HAT.out j w8 (by rw [← hw8]; exact HF6.out.next (below_drewN (Below.refl _ _) nq)) hjt
                    rw [HE1.out] at e3
                    cases e3
                    rw [hw8]
                    have c6 : w8.cell? ⟨w.heap.size + 1, 6, none⟩ = some (.map (some w.heap.size)) := by rw [← hw8]; exact c6
                    clear k0 k1 c0 hw8
                    have HKEY : Hid (keyOf Tryd.prog 9 (.string s1) = some (.string s1.data.toList)) := Lib.hid (Go.WideMaps.keyOf_string_mk tString HS1.out)
                    have HWF : Hid ((Lit.int .i64 (j : Int)).wf = true) := Lib.hid (wf_small (by omega))
                    have HIX : Hid (∀ W : World, W.ownsMap Tryd.prog 9 (plainElem Tryd.prog 3) w.heap.size (n' + 1) (D'.put (.string s1.data.toList) (.lit (.int .i64 j))) → IxIn W w.heap.size (n' + 1) (tj ++ [s1]) (D'.put (.string s1.data.toList) (.lit (.int .i64 j)))) := by
                      refine Lib.hid fun W hW => ?_
                      have e : (tj.length : Int) = (j : Int) := by rw [HTL.out]
                      have h := HR8.out.ix.put (w' := W) s1 HKN.out
                      rw [e] at h
                      exact h hW
                    have hn9 : n' ≤ 19000 := by have := HF.out.1; omega
                    go_still_tail 8, (by kernel_rfl)
                    refine wpList_mapUpdate_own _ rfl _ _ _ 75 rfl 9 3 lawS tMapI _ w.heap.size n' D' (by rfl) HR8.out.ix.1 (by unfold maxLen; omega) _ _ _ (by rfl) (by rfl) HKEY.out _ [] (plainElem_int tInt HWF.out) ?_
                    intro w9 hown9 hgrow9
                    have HR9 : Hid (Rm K w w9 V7 ⟨{ s.p with levels := ev.take (j + 1) }, true, s.seen⟩ (ev.take (j + 1)) (n' + 1) (D'.put (.string s1.data.toList) (.lit (.int .i64 j)))) := Lib.hid (HR8.out.mapped hgrow9 (by rw [HTK.out]; exact HIX.out w9 hown9))
                    have HF9 := Lib.hid (RdS.mapped HF8.out hgrow9)
                    clear hown9 hgrow9
                    go_wp2_with fail
                    go_roundw
                    case rel => exact ⟨j + 1, V7, n' + 1, _, by omega, by go_num, HR9, Lib.hid ⟨by have := HF.out.1; omega, HF9.out, HV6.out⟩⟩
                    case measure => simp [intOf]; omega
              · have hge2 : ¬ ((j : Int) < (k : Int)) := by omega
                obtain rfl : k = j := by omega
                go_wp2_with fail
                go_ret
                rw [HXX.out]
                refine ⟨rfl, V', n', D', by have := HF.out.1; have := HKL.out; have := HL.out; omega, ?_⟩
                have h := HS.out
                rw [List.take_of_length_le (by rw [HEL.out]; exact Nat.le_refl _)] at h
                exact h
end Go.Proofs.YtnipigninbeplaaDoor
