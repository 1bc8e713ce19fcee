/-
  The walk over the reference's Lex.
-/
import Derived.Test.YthenhajgmbanjaaLxG
namespace Go.Proofs.Ythenhajgmbanjaa
open Go.RowKit

theorem blank_i (s : ByteArray) (i : Nat) (a : Int) (w : World) (ha : a = (i : Int)) (hs : s.size ≤ 9000) (hi : i ≤ s.size) :
    Calls Try.prog 23 #[.string s, .int .i64 a] w (BlankPost s i w) := by
  subst ha
  exact blank_any s i w hs hi
theorem token_err (s : ByteArray) (i c : Nat) (w : World) (hs : s.size ≤ 9000) (hi : i < s.size) (HC : Hid (c = (Lx.tokOf (s.data.toList.drop i)).1)) :
    Calls Try.prog 24 #[.string s, .int .i64 i] w fun e w' => (∃ (k : Int) (tx : ByteArray) (a : Int), e = .returned (.tuple #[.agg #[.int .i64 k, .string tx, .int .i64 a], .int .i64 c])) ∧ Below w.heap.size w w' := by
  have h : c = (Lx.tokOf (s.data.toList.drop i)).1 := HC
  rw [h]
  refine (token_any s i w hs hi).mono ?_
  rintro e w' ⟨⟨k, tx, a, he, _⟩, hb⟩
  exact ⟨⟨k, tx, a, he⟩, hb⟩
theorem token_ok (s : ByteArray) (i k m : Nat) (w : World) (hs : s.size ≤ 9000) (hi : i < s.size) (HC : Hid ((Lx.tokOf (s.data.toList.drop i)).1 = 0)) (HK : Hid (k = (Lx.tokOf (s.data.toList.drop i)).2.1)) (HM : Hid (m = (Lx.tokOf (s.data.toList.drop i)).2.2)) :
    Calls Try.prog 24 #[.string s, .int .i64 i] w fun e w' => (∃ (tx : ByteArray), e = .returned (.tuple #[.agg #[.int .i64 k, .string tx, .int .i64 i], .int .i64 0]) ∧ tx.data.toList = (s.data.toList.drop i).take m) ∧ Below w.heap.size w w' := by
  have h1 : k = (Lx.tokOf (s.data.toList.drop i)).2.1 := HK
  have h2 : m = (Lx.tokOf (s.data.toList.drop i)).2.2 := HM
  refine (token_any s i w hs hi).mono ?_
  rintro e w' ⟨⟨k', tx, a, he, hd⟩, hb⟩
  obtain ⟨e1, e2, e3⟩ := hd HC.out
  refine ⟨⟨tx, ?_, ?_⟩, hb⟩
  · rw [he, HC.out, e1, e3, h1]; rfl
  · rw [e2, h2]

set_option maxHeartbeats 1000000 in
theorem rlex_any (s : ByteArray) (w : World) (hs : s.size ≤ 8192) :
    Calls Try.prog 12 #[.string s] w (LexPost (Lx.lex 0 s.data.toList) w) := by
  obtain ⟨r, hr⟩ : ∃ r, r = Lx.lex 0 s.data.toList := ⟨_, rfl⟩
  rw [← hr]
  have HR := Lib.hid hr
  clear hr
  obtain ⟨i0, hi, hz0, hz1, hz2⟩ := info_parts tokInfo
  go_enter Try.func12, Try.ntmps12
  go_wp2_with fail
  refine (blank_any s 0 _ (by omega) (by omega)).mono ?_
  rintro e w1 ⟨⟨k0, rfl, hb0⟩, rfl⟩
  have HB0 := Lib.hid hb0
  have hk0 : k0 ≤ s.size := hb0.2.1
  clear hb0
  go_wp2_with fail
  go_loopw [5, 6] (fun u v wr => ∃ (k : Nat) (acc : List Lx.Tok) (n : Nat) (A : Option Addr) (c : Nat), k ≤ s.size ∧ n ≤ k ∧ Hid (n = acc.length) ∧ u = .slice A n c ∧ v = .int .i64 k ∧ wr.ownsRow w.heap.size 31 3 (.slice A n c) n (tvals acc) ∧ Below w.heap.size w wr ∧ Hid (r = pre acc (Lx.lex k (s.data.toList.drop k))) ∧ Hid (∀ h : k < s.size, Lx.white s[k] = false ∧ (s[k] == 35) = false))
    (fun _ v _ => s.size - (intOf v).toNat)
  case atStart => exact ⟨k0, [], 0, _, _, hk0, by omega, rfl, rfl, rfl, World.ownsRow_lit _ #[] 0 (Nat.le_refl _) (Nat.zero_le _) rfl, (Below.refl _ _).alloc (Nat.le_refl _) _, by show r = _; rw [HR.out, ← HB0.out.2.2.1]; simp [pre], HB0.out.2.2.2⟩
  case round =>
    obtain ⟨k, acc, n, A, c, hk, hnk, HNL, rfl, rfl, hown, hbel, H, HB⟩ := hrel
    clear HB0 hk0
    by_cases hlt : k < s.size
    · by_cases hcode : (Lx.tokOf (s.data.toList.drop k)).1 = 0
      · obtain ⟨m, hmm⟩ : ∃ m, m = (Lx.tokOf (s.data.toList.drop k)).2.2 := ⟨_, rfl⟩
        obtain ⟨kd, hkd⟩ : ∃ kd, kd = (Lx.tokOf (s.data.toList.drop k)).2.1 := ⟨_, rfl⟩
        have hpos : 0 < m := by rw [hmm]; exact Lx.tok_pos _ hcode
        have hle : k + m ≤ s.size := by
          have := Lx.tok_le (s.data.toList.drop k)
          rw [← hmm, List.length_drop, len_at] at this
          omega
        have HS := Lib.hid (lex_step s k m acc hlt (HB.out hlt).1 (HB.out hlt).2 hcode hmm)
        have HC := Lib.hid hcode
        have HM := Lib.hid hmm
        have HK := Lib.hid hkd
        clear hcode hmm hkd
        go_wp2_with fail
        refine (token_ok s k kd m wr (by omega) hlt HC HK HM).mono ?_
        rintro e w1 ⟨⟨tx, rfl, htx⟩, hb1⟩
        have HTX := Lib.hid htx
        have hts : tx.size = m := by
          rw [← len_at tx, htx, List.length_take, List.length_drop, len_at]; omega
        have HTS := Lib.hid hts
        have hown1 := own_below hown hb1
        have hsz1 := hb1.size
        have hbel1 : Below w.heap.size w w1 := hbel.trans (hb1.mono hbel.size)
        clear htx hts hb1 hown
        go_wp2_with (at_builtin; refine wpList_append_own _ rfl _ _ 23 rfl w.heap.size 31 i0 (.agg #[.int .i64 0, .string ⟨#[]⟩, .int .i64 0]) 3 32 Try.underlying23 hi hz0 hz1 hz2 rfl (by decide) _ n (tvals acc) rfl ((hown1.alloc _).alloc _) ⟨w1.heap.size + 1, 0, none⟩ 1 1 [.int .i64 kd, .string tx, .int .i64 k] rfl rfl ?c1 ?c2 ?c3 ?c4 ?c5 ?_)
        case c1 =>
          intro j u hj
          match j, hj with
          | 0, hj => simp at hj; subst hj; simp [Addr.add]
          | 1, hj => simp at hj; subst hj; simp [Addr.add]
          | 2, hj => simp at hj; subst hj; simp [Addr.add]
        case c2 => intro u hu; simp at hu; rcases hu with rfl | rfl | rfl <;> rfl
        case c3 => unfold maxLen; omega
        case c4 => omega
        case c5 => simp; have := hbel1.size; omega
        · intro v' w2 hown2 hgrow _
          have hcell := hgrow.cell (a := ⟨w1.heap.size, 1, none⟩) (v := .string tx) (by simp) (fun e => by have := (hown1.lt _ e.symm).2; exact absurd this (Nat.lt_irrefl _))
          have hbel2 : Below w.heap.size w w2 := ((hbel1.alloc hbel1.size _).alloc (by simp; have := hbel1.size; omega) _).grown hgrow (by simp; have := hbel1.size; omega) (fun q hq => (hown1.lt q hq).1)
          have HV := Lib.hid (own_form hown2)
          have hmz : (tx.size : Int) ≤ 8192 := by have := HTS.out; omega
          have hkz : k + tx.size ≤ s.size := by have := HTS.out; omega
          have hpz : 0 < tx.size := by have := HTS.out; omega
          clear hgrow hown1 hsz1 hbel hbel1 hle hpos
          go_wp2_with fail
          refine (blank_i s (k + tx.size) ((k : Int) + (tx.size : Int)) _ (by omega) (by omega) hkz).mono ?_
          rintro e w3 ⟨⟨k', rfl, hb0⟩, rfl⟩
          have hk1 : k + tx.size ≤ k' := hb0.1
          have hk2 : k' ≤ s.size := hb0.2.1
          have HBB := Lib.hid hb0
          clear hb0
          go_wp2_with fail
          go_roundw
          case rel =>
            obtain ⟨A', c', hv⟩ := HV.out
            subst hv
            refine ⟨k', acc ++ [⟨kd, (s.data.toList.drop k).take m, k⟩], n + 1, A', c', hk2, by omega, by show n + 1 = _; rw [HNL.out]; simp, rfl, rfl, ?_, hbel2, ?_, HBB.out.2.2.2⟩
            · rw [tvals_snoc]
              have e1 : tcells ⟨kd, (s.data.toList.drop k).take m, k⟩ = [.int .i64 kd, .string tx, .int .i64 k] := by
                unfold tcells; rw [bstr_eq HTX.out]
              rw [e1]; exact hown2
            · show r = _
              rw [H.out, HS.out, ← HBB.out.2.2.1, HTS.out, ← HK.out]
          case measure => simp [intOf]; omega
      · have HS := Lib.hid (lex_stop s k acc hlt (HB.out hlt).1 (HB.out hlt).2 hcode)
        obtain ⟨cd, hcd⟩ : ∃ cd, cd = (Lx.tokOf (s.data.toList.drop k)).1 := ⟨_, rfl⟩
        have hc0 : ((cd : Int) == 0) = false := by rw [beq_eq_false_iff_ne]; omega
        have HC := Lib.hid hcd
        have HCN := Lib.hid hcode
        clear hcode hcd
        go_wp2_with fail
        refine (token_err s k cd wr (by omega) hlt HC).mono ?_
        rintro e w1 ⟨⟨kd, tx, a, rfl⟩, hb1⟩
        go_wp2_with fail
        go_ret3
        exact lexPost_err r w _ acc k cd (by rw [H.out, HS.out, HC.out]) ((hbel.trans (hb1.mono hbel.size)).alloc (by have := hb1.size; have := hbel.size; omega) _)
    · have he : k = s.size := by omega
      subst he
      have HE : Hid (r = (acc, none)) := by
        show r = _
        rw [H.out, drop_end s _ (Nat.le_refl _), Lx.lex_nil]; simp [pre]
      clear H
      go_wp2_with fail
      go_ret3
      exact lexPost_done r w _ acc A c n HE.out HNL.out hown hbel
end Go.Proofs.Ythenhajgmbanjaa
