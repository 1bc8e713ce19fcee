/-
  The walk over list, with one token and with three tokens an item.
-/
import Derived.Test.YtnipigninbeplaaDoorPoT
import Derived.Test.YtnipigninbeplaaDoorPE
import Derived.Deep.AppendLies
namespace Go.Proofs.YtnipigninbeplaaDoor
open Go.RowKit

/-- The items: item j begins at token j * s, and has n tokens. -/
def itV (g f c n s : Nat) (k : Nat) : List Value := (List.range k).map fun j => Value.slice (some ⟨g, f + j * s, none⟩) n (c - j * s)
theorem itV_succ (g f c n s k : Nat) : itV g f c n s (k + 1) = itV g f c n s k ++ [Value.slice (some ⟨g, f + k * s, none⟩) n (c - k * s)] := by
  unfold itV
  rw [List.range_succ, List.map_append, List.map_cons, List.map_nil]
theorem itV_len (g f c n s k : Nat) : (itV g f c n s k).length = k := by simp [itV]
theorem slice_it (g f l c I n : Nat) (hn : I + n ≤ c) (hne : ¬ c = I) (wx : World) : (Instr.slice 22 (.slice (some ⟨g, f, none⟩) l c) (some (.int .i64 (I : Int))) (some (.int .i64 ((I : Int) + (n : Int)))) none).run Tryd.prog wx = .ok (.slice (some ⟨g, f + I, none⟩) n (c - I)) wx := by
  have h := run_slice_lh (P := Tryd.prog) wx 22 (some ⟨g, f, none⟩) l c (by kernel_rfl) .i64 .i64 (I : Int) ((I : Int) + (n : Int)) (by omega) (by omega) (by omega)
  have hs : (sizeOf (Tryd.prog.elem 22)).run Tryd.prog wx = .ok 1 wx := by kernel_rfl
  rw [h, hs]
  have e1 : ((I : Int) + (n : Int)).toNat = I + n := by omega
  have e2 : ((⟨g, f, none⟩ : Addr).add I) = ⟨g, f + I, none⟩ := by
    simp only [Addr.add]
    split
    · rename_i h; rw [h]; rfl
    · rfl
  show Result.ok (sliced (some ⟨g, f, none⟩) (I : Int).toNat ((I : Int) + (n : Int)).toNat c 1) wx = _
  rw [e1, Int.toNat_natCast, sliced, if_neg hne, Option.map_some, Nat.mul_one, e2, Nat.add_sub_cancel_left]
/-- What list hands back. -/
def LstRes (w : World) (n : Nat) (t : List ByteArray) (A : Option Addr) (c : Nat) (e : Ending) (w' : World) : Prop :=
  Below w.heap.size w w' ∧ ((¬ Shp n t ∧ e = .returned (.tuple #[.slice none 0 0, .bool false])) ∨
    (Shp n t ∧ ∃ (g f gi k ci : Nat), A = some ⟨g, f, none⟩ ∧ k * (n + 1) = t.length + 1 ∧ e = .returned (.tuple #[.slice (some ⟨gi, 0, none⟩) k ci, .bool true]) ∧ gi < w'.heap.size ∧ w.heap.size ≤ gi ∧ ∀ j, j < k → w'.cell? ⟨gi, j, none⟩ = some (.slice (some ⟨g, f + j * (n + 1), none⟩) n (c - j * (n + 1)))))

set_option maxRecDepth 100000 in
set_option maxHeartbeats 4000000 in
theorem list1_b (t : List ByteArray) (A : Option Addr) (l c : Nat) (hl : l ≤ 9000) (w : World) (hx : NOk w A l c t) :
    Calls Tryd.prog 84 #[.slice A l c, .int .i64 1] w fun e w' => LstRes w 1 t A c e w' := by
  have HX := Lib.hid hx
  have HL := Lib.hid hx.len
  have hlc := hx.cap
  have hcm : c ≤ 9223372036854775807 := by have := hx.big; unfold maxLen at this; omega
  clear hx
  by_cases hm : l % 2 = 1
  · obtain ⟨m, hlm⟩ : ∃ m, l = 2 * m + 1 := ⟨l / 2, by omega⟩
    obtain ⟨g, f, hA, hg, hmem⟩ := HX.out.mem (by omega)
    subst hA
    have HG := Lib.hid hg
    have hrem : Int.tmod (l : Int) 2 = 1 := by rw [Int.tmod_eq_emod_of_nonneg (by omega)]; omega
    have hrem2 : (l : Int) % 2 = 1 := by omega
    obtain ⟨i0, hi0, hz0, hz1, hz2⟩ := info_parts (P := Tryd.prog) (e := 22) (z := .slice none 0 0) (size := 1) (bytes := 24) (by kernel_rfl)
    have HIN := Lib.hid (And.intro hi0 (And.intro hz0 (And.intro hz1 hz2)))
    have HLM := Lib.hid hlm
    have hm9 : m ≤ 9000 := by omega
    clear hi0 hz0 hz1 hz2 hmem hg hlm
    go_enter Tryd.func84, Tryd.ntmps84
    go_wp2_with fail
    go_loopw [6, 7] (fun u v wr => ∃ j I : Nat, j ≤ m + 1 ∧ v = .int .i64 (I : Int) ∧ Hid (I = j * 2) ∧ Hid (Below w.heap.size w wr) ∧ Hid (wr.ownsRow w.heap.size 22 1 u j (itV g f c 1 2 j)) ∧ Hid (∀ j', j' + 1 < j → isC (t.getD ((j' + 1) * 2 - 1) ⟨#[]⟩) = true)) (fun _ v _ => l + 2 - (intOf v).toNat)
    case atStart => exact ⟨0, 0, Nat.zero_le _, rfl, Lib.hid rfl, Lib.hid (Below.refl _ _), Lib.hid (World.ownsRow_nil _ _ _ _), Lib.hid (fun j' h => absurd h (by omega))⟩
    case round =>
      obtain ⟨j, I, hj, rfl, HI, HB, HO, HC⟩ := hrel
      by_cases hjt : j < m + 1
      · have hjl : I + 1 ≤ l := by have := HI.out; have := HLM.out; omega
        have hIl : (I : Int) < (l : Int) := by omega
        have hI0 : (0 : Int) ≤ (I : Int) := by omega
        have hIn : (I : Int) + 1 ≤ (l : Int) := by omega
        have hIc : ¬ c = I := by omega
        have hIc2 : (I : Int) + 1 ≤ (c : Int) := by omega
        have hslc : ∀ wx, (Instr.slice 22 (.slice (some ⟨g, f, none⟩) l c) (some (.int .i64 (I : Int))) (some (.int .i64 ((I : Int) + 1))) none).run Tryd.prog wx = .ok (.slice (some ⟨g, f + I, none⟩) 1 (c - I)) wx := fun wx => slice_it g f l c I 1 (by omega) hIc wx
        by_cases hz : I = 0
        · have hz0 : ¬ ((0 : Int) < (I : Int)) := by omega
          have HC2 : Hid (∀ j', j' + 1 < j + 1 → isC (t.getD ((j' + 1) * 2 - 1) ⟨#[]⟩) = true) := Lib.hid (fun j' h => by have := HI.out; omega)
          clear hz
          go_wp2_with (at_builtin; (refine wpList_append_lies _ rfl _ _ 123 rfl w.heap.size 22 i0 (.slice none 0 0) 1 24 Tryd.underlying123 HIN.out.1 HIN.out.2.1 HIN.out.2.2.1 HIN.out.2.2.2 rfl (by decide) _ j (itV g f c 1 2 j) rfl (own_fr HO.out (Fr.of (S := fun _ => False) ((Below.refl _ _).alloc (Nat.le_refl _) _)) (fun _ _ h => h)) ⟨wr.heap.size, 0, none⟩ 1 1 [.slice (some ⟨g, f + I, none⟩) 1 (c - I)] rfl rfl ?q1 ?q2 (by decide) ?q3 ?q4 ?q5 (wr.heap.size + 1) ?q6 ?_))
          case q2 => rfl
          case q3 => unfold maxLen; omega
          case q4 => omega
          case q5 => have := HB.out.size; simp; omega
          intro gg cap w6 hown6 hgrow6 hat6 _
          have HB6 : Hid (Below w.heap.size w w6) := Lib.hid ((HB.out.alloc HB.out.size _).grown hgrow6 (by have := HB.out.size; simp; omega) (fun q hq => (HO.out.lt q hq).1))
          have HO6 : Hid (w6.ownsRow w.heap.size 22 1 (.slice (some ⟨gg, 0, none⟩) (j + 1) cap) (j + 1) (itV g f c 1 2 (j + 1))) := Lib.hid (by rw [itV_succ, ← HI.out]; exact hown6)
          have HI6 : Hid (I + 2 = (j + 1) * 2) := Lib.hid (by rw [HI.out]; omega)
          clear hown6 hgrow6 hat6
          go_wp2_with fail
          go_roundw
          case rel => exact ⟨j + 1, I + 2, by omega, by go_num, HI6, HB6, HO6, HC2⟩
          case measure => simp [intOf]; omega
        · have hz0 : (0 : Int) < (I : Int) := by omega
          obtain ⟨I1, hI1⟩ : ∃ I1, I = I1 + 1 := ⟨I - 1, by omega⟩
          have HI1 := Lib.hid hI1
          have hsub : (I : Int) - 1 = (I1 : Int) := by omega
          have hI1a : (0 : Int) ≤ (I1 : Int) := by omega
          have hI1b : (I1 : Int) < (l : Int) := by omega
          obtain ⟨s1, g1, f1, h1, _, hA1, _, k1⟩ := (HX.out.below HB.out).at I1 (by omega)
          injection hA1 with hA1
          injection hA1 with e1 e2
          subst e1 e2
          have HGD : Hid (t.getD I1 ⟨#[]⟩ = s1) := Lib.hid (by rw [List.getD_eq_getElem?_getD, h1]; rfl)
          clear hI1 h1 hz
          cases hcc : isC s1 with
          | true =>
            have hc1 : (s1.toList == [44]) = true := hcc
            have HC2 : Hid (∀ j', j' + 1 < j + 1 → isC (t.getD ((j' + 1) * 2 - 1) ⟨#[]⟩) = true) := Lib.hid (fun j' h => by
              by_cases e : j' + 1 = j
              · have : (j' + 1) * 2 - 1 = I1 := by have := HI.out; have := HI1.out; rw [e]; omega
                rw [this, HGD.out]
                exact hcc
              · exact HC.out j' (by omega))
            clear hcc
            go_wp2_with (at_builtin; (refine wpList_append_lies _ rfl _ _ 123 rfl w.heap.size 22 i0 (.slice none 0 0) 1 24 Tryd.underlying123 HIN.out.1 HIN.out.2.1 HIN.out.2.2.1 HIN.out.2.2.2 rfl (by decide) _ j (itV g f c 1 2 j) rfl (own_fr HO.out (Fr.of (S := fun _ => False) ((Below.refl _ _).alloc (Nat.le_refl _) _)) (fun _ _ h => h)) ⟨wr.heap.size, 0, none⟩ 1 1 [.slice (some ⟨g, f + I, none⟩) 1 (c - I)] rfl rfl ?p1 ?p2 (by decide) ?p3 ?p4 ?p5 (wr.heap.size + 1) ?p6 ?_))
            case p2 => rfl
            case p3 => unfold maxLen; omega
            case p4 => omega
            case p5 => have := HB.out.size; simp; omega
            intro gg cap w6 hown6 hgrow6 hat6 _
            have HB6 : Hid (Below w.heap.size w w6) := Lib.hid ((HB.out.alloc HB.out.size _).grown hgrow6 (by have := HB.out.size; simp; omega) (fun q hq => (HO.out.lt q hq).1))
            have HO6 : Hid (w6.ownsRow w.heap.size 22 1 (.slice (some ⟨gg, 0, none⟩) (j + 1) cap) (j + 1) (itV g f c 1 2 (j + 1))) := Lib.hid (by rw [itV_succ, ← HI.out]; exact hown6)
            have HI6 : Hid (I + 2 = (j + 1) * 2) := Lib.hid (by rw [HI.out]; omega)
            clear hown6 hgrow6 hat6
            go_wp2_with fail
            go_roundw
            case rel => exact ⟨j + 1, I + 2, by omega, by go_num, HI6, HB6, HO6, HC2⟩
            case measure => simp [intOf]; omega
          | false =>
            have hc1 : (s1.toList == [44]) = false := hcc
            have HNS : Hid (¬ Shp 1 t) := Lib.hid (fun h => by
              obtain ⟨j1, hj1⟩ : ∃ j1, j = j1 + 1 := ⟨j - 1, by have := HI.out; have := HI1.out; omega⟩
              have h2 := h.2 j1 (by have := HI.out; rw [HL.out]; rw [hj1] at this; omega)
              have e : (j1 + 1) * (1 + 1) - 1 = I1 := by have := HI.out; have := HI1.out; rw [hj1] at *; omega
              rw [e, HGD.out, hcc] at h2
              cases h2)
            clear hcc
            go_wp2_with fail
            go_returns
            exact ⟨HB.out, .inl ⟨HNS.out, rfl⟩⟩
      · obtain rfl : j = m + 1 := by omega
        have hIl : ¬ (I : Int) < (l : Int) := by have := HI.out; have := HLM.out; omega
        go_wp2_with fail
        go_returns
        rcases HO.out.2 with ⟨_, hz⟩ | ⟨gi, ci, _, hv, _⟩
        · omega
        subst hv
        refine ⟨HB.out, .inr ⟨⟨by rw [HL.out]; exact hm, fun j' hj' => HC.out j' (by rw [HL.out] at hj'; have := HLM.out; omega)⟩, g, f, gi, m + 1, ci, rfl, by rw [HL.out]; have := HLM.out; omega, rfl, (HO.out.lt gi rfl).2, (HO.out.lt gi rfl).1, fun j' hj' => ?_⟩⟩
        rw [HO.out.cellAt j' (by omega)]
        unfold itV
        simp [hj']
  · have hrem : ¬ Int.tmod (l : Int) 2 = 1 := by rw [Int.tmod_eq_emod_of_nonneg (by omega)]; omega
    have hrem2 : ¬ (l : Int) % 2 = 1 := by omega
    go_enter Tryd.func84, Tryd.ntmps84
    go_wp2_with fail
    go_returns
    exact ⟨Below.refl _ _, .inl ⟨fun h => hm (by have := h.1; rw [HL.out] at this; exact this), rfl⟩⟩

set_option maxRecDepth 100000 in
set_option maxHeartbeats 4000000 in
theorem list3_b (t : List ByteArray) (A : Option Addr) (l c : Nat) (hl : l ≤ 9000) (w : World) (hx : NOk w A l c t) :
    Calls Tryd.prog 84 #[.slice A l c, .int .i64 3] w fun e w' => LstRes w 3 t A c e w' := by
  have HX := Lib.hid hx
  have HL := Lib.hid hx.len
  have hlc := hx.cap
  have hcm : c ≤ 9223372036854775807 := by have := hx.big; unfold maxLen at this; omega
  clear hx
  by_cases hm : l % 4 = 3
  · obtain ⟨m, hlm⟩ : ∃ m, l = 4 * m + 3 := ⟨l / 4, by omega⟩
    obtain ⟨g, f, hA, hg, hmem⟩ := HX.out.mem (by omega)
    subst hA
    have HG := Lib.hid hg
    have hrem : Int.tmod (l : Int) 4 = 3 := by rw [Int.tmod_eq_emod_of_nonneg (by omega)]; omega
    have hrem2 : (l : Int) % 4 = 3 := by omega
    obtain ⟨i0, hi0, hz0, hz1, hz2⟩ := info_parts (P := Tryd.prog) (e := 22) (z := .slice none 0 0) (size := 1) (bytes := 24) (by kernel_rfl)
    have HIN := Lib.hid (And.intro hi0 (And.intro hz0 (And.intro hz1 hz2)))
    have HLM := Lib.hid hlm
    have hm9 : m ≤ 9000 := by omega
    clear hi0 hz0 hz1 hz2 hmem hg hlm
    go_enter Tryd.func84, Tryd.ntmps84
    go_wp2_with fail
    go_loopw [6, 7] (fun u v wr => ∃ j I : Nat, j ≤ m + 1 ∧ v = .int .i64 (I : Int) ∧ Hid (I = j * 4) ∧ Hid (Below w.heap.size w wr) ∧ Hid (wr.ownsRow w.heap.size 22 1 u j (itV g f c 3 4 j)) ∧ Hid (∀ j', j' + 1 < j → isC (t.getD ((j' + 1) * 4 - 1) ⟨#[]⟩) = true)) (fun _ v _ => l + 4 - (intOf v).toNat)
    case atStart => exact ⟨0, 0, Nat.zero_le _, rfl, Lib.hid rfl, Lib.hid (Below.refl _ _), Lib.hid (World.ownsRow_nil _ _ _ _), Lib.hid (fun j' h => absurd h (by omega))⟩
    case round =>
      obtain ⟨j, I, hj, rfl, HI, HB, HO, HC⟩ := hrel
      by_cases hjt : j < m + 1
      · have hjl : I + 3 ≤ l := by have := HI.out; have := HLM.out; omega
        have hIl : (I : Int) < (l : Int) := by omega
        have hI0 : (0 : Int) ≤ (I : Int) := by omega
        have hIn : (I : Int) + 3 ≤ (l : Int) := by omega
        have hIc : ¬ c = I := by omega
        have hIc2 : (I : Int) + 3 ≤ (c : Int) := by omega
        have hslc : ∀ wx, (Instr.slice 22 (.slice (some ⟨g, f, none⟩) l c) (some (.int .i64 (I : Int))) (some (.int .i64 ((I : Int) + 3))) none).run Tryd.prog wx = .ok (.slice (some ⟨g, f + I, none⟩) 3 (c - I)) wx := fun wx => slice_it g f l c I 3 (by omega) hIc wx
        by_cases hz : I = 0
        · have hz0 : ¬ ((0 : Int) < (I : Int)) := by omega
          have HC2 : Hid (∀ j', j' + 1 < j + 1 → isC (t.getD ((j' + 1) * 4 - 1) ⟨#[]⟩) = true) := Lib.hid (fun j' h => by have := HI.out; omega)
          clear hz
          go_wp2_with (at_builtin; (refine wpList_append_lies _ rfl _ _ 123 rfl w.heap.size 22 i0 (.slice none 0 0) 1 24 Tryd.underlying123 HIN.out.1 HIN.out.2.1 HIN.out.2.2.1 HIN.out.2.2.2 rfl (by decide) _ j (itV g f c 3 4 j) rfl (own_fr HO.out (Fr.of (S := fun _ => False) ((Below.refl _ _).alloc (Nat.le_refl _) _)) (fun _ _ h => h)) ⟨wr.heap.size, 0, none⟩ 1 1 [.slice (some ⟨g, f + I, none⟩) 3 (c - I)] rfl rfl ?q1 ?q2 (by decide) ?q3 ?q4 ?q5 (wr.heap.size + 1) ?q6 ?_))
          case q2 => rfl
          case q3 => unfold maxLen; omega
          case q4 => omega
          case q5 => have := HB.out.size; simp; omega
          intro gg cap w6 hown6 hgrow6 hat6 _
          have HB6 : Hid (Below w.heap.size w w6) := Lib.hid ((HB.out.alloc HB.out.size _).grown hgrow6 (by have := HB.out.size; simp; omega) (fun q hq => (HO.out.lt q hq).1))
          have HO6 : Hid (w6.ownsRow w.heap.size 22 1 (.slice (some ⟨gg, 0, none⟩) (j + 1) cap) (j + 1) (itV g f c 3 4 (j + 1))) := Lib.hid (by rw [itV_succ, ← HI.out]; exact hown6)
          have HI6 : Hid (I + 4 = (j + 1) * 4) := Lib.hid (by rw [HI.out]; omega)
          clear hown6 hgrow6 hat6
          go_wp2_with fail
          go_roundw
          case rel => exact ⟨j + 1, I + 4, by omega, by go_num, HI6, HB6, HO6, HC2⟩
          case measure => simp [intOf]; omega
        · have hz0 : (0 : Int) < (I : Int) := by omega
          obtain ⟨I1, hI1⟩ : ∃ I1, I = I1 + 1 := ⟨I - 1, by omega⟩
          have HI1 := Lib.hid hI1
          have hsub : (I : Int) - 1 = (I1 : Int) := by omega
          have hI1a : (0 : Int) ≤ (I1 : Int) := by omega
          have hI1b : (I1 : Int) < (l : Int) := by omega
          obtain ⟨s1, g1, f1, h1, _, hA1, _, k1⟩ := (HX.out.below HB.out).at I1 (by omega)
          injection hA1 with hA1
          injection hA1 with e1 e2
          subst e1 e2
          have HGD : Hid (t.getD I1 ⟨#[]⟩ = s1) := Lib.hid (by rw [List.getD_eq_getElem?_getD, h1]; rfl)
          clear hI1 h1 hz
          cases hcc : isC s1 with
          | true =>
            have hc1 : (s1.toList == [44]) = true := hcc
            have HC2 : Hid (∀ j', j' + 1 < j + 1 → isC (t.getD ((j' + 1) * 4 - 1) ⟨#[]⟩) = true) := Lib.hid (fun j' h => by
              by_cases e : j' + 1 = j
              · have : (j' + 1) * 4 - 1 = I1 := by have := HI.out; have := HI1.out; rw [e]; omega
                rw [this, HGD.out]
                exact hcc
              · exact HC.out j' (by omega))
            clear hcc
            go_wp2_with (at_builtin; (refine wpList_append_lies _ rfl _ _ 123 rfl w.heap.size 22 i0 (.slice none 0 0) 1 24 Tryd.underlying123 HIN.out.1 HIN.out.2.1 HIN.out.2.2.1 HIN.out.2.2.2 rfl (by decide) _ j (itV g f c 3 4 j) rfl (own_fr HO.out (Fr.of (S := fun _ => False) ((Below.refl _ _).alloc (Nat.le_refl _) _)) (fun _ _ h => h)) ⟨wr.heap.size, 0, none⟩ 1 1 [.slice (some ⟨g, f + I, none⟩) 3 (c - I)] rfl rfl ?p1 ?p2 (by decide) ?p3 ?p4 ?p5 (wr.heap.size + 1) ?p6 ?_))
            case p2 => rfl
            case p3 => unfold maxLen; omega
            case p4 => omega
            case p5 => have := HB.out.size; simp; omega
            intro gg cap w6 hown6 hgrow6 hat6 _
            have HB6 : Hid (Below w.heap.size w w6) := Lib.hid ((HB.out.alloc HB.out.size _).grown hgrow6 (by have := HB.out.size; simp; omega) (fun q hq => (HO.out.lt q hq).1))
            have HO6 : Hid (w6.ownsRow w.heap.size 22 1 (.slice (some ⟨gg, 0, none⟩) (j + 1) cap) (j + 1) (itV g f c 3 4 (j + 1))) := Lib.hid (by rw [itV_succ, ← HI.out]; exact hown6)
            have HI6 : Hid (I + 4 = (j + 1) * 4) := Lib.hid (by rw [HI.out]; omega)
            clear hown6 hgrow6 hat6
            go_wp2_with fail
            go_roundw
            case rel => exact ⟨j + 1, I + 4, by omega, by go_num, HI6, HB6, HO6, HC2⟩
            case measure => simp [intOf]; omega
          | false =>
            have hc1 : (s1.toList == [44]) = false := hcc
            have HNS : Hid (¬ Shp 3 t) := Lib.hid (fun h => by
              obtain ⟨j1, hj1⟩ : ∃ j1, j = j1 + 1 := ⟨j - 1, by have := HI.out; have := HI1.out; omega⟩
              have h2 := h.2 j1 (by have := HI.out; rw [HL.out]; rw [hj1] at this; omega)
              have e : (j1 + 1) * (3 + 1) - 1 = I1 := by have := HI.out; have := HI1.out; rw [hj1] at *; omega
              rw [e, HGD.out, hcc] at h2
              cases h2)
            clear hcc
            go_wp2_with fail
            go_returns
            exact ⟨HB.out, .inl ⟨HNS.out, rfl⟩⟩
      · obtain rfl : j = m + 1 := by omega
        have hIl : ¬ (I : Int) < (l : Int) := by have := HI.out; have := HLM.out; omega
        go_wp2_with fail
        go_returns
        rcases HO.out.2 with ⟨_, hz⟩ | ⟨gi, ci, _, hv, _⟩
        · omega
        subst hv
        refine ⟨HB.out, .inr ⟨⟨by rw [HL.out]; exact hm, fun j' hj' => HC.out j' (by rw [HL.out] at hj'; have := HLM.out; omega)⟩, g, f, gi, m + 1, ci, rfl, by rw [HL.out]; have := HLM.out; omega, rfl, (HO.out.lt gi rfl).2, (HO.out.lt gi rfl).1, fun j' hj' => ?_⟩⟩
        rw [HO.out.cellAt j' (by omega)]
        unfold itV
        simp [hj']
  · have hrem : ¬ Int.tmod (l : Int) 4 = 3 := by rw [Int.tmod_eq_emod_of_nonneg (by omega)]; omega
    have hrem2 : ¬ (l : Int) % 4 = 3 := by omega
    go_enter Tryd.func84, Tryd.ntmps84
    go_wp2_with fail
    go_returns
    exact ⟨Below.refl _ _, .inl ⟨fun h => hm (by have := h.1; rw [HL.out] at this; exact this), rfl⟩⟩
end Go.Proofs.YtnipigninbeplaaDoor
