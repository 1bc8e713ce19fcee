/-
  Texts of cost models: the walks over the reference's find, comma, trim.
-/
import Derived.Test.YthlhicegchkjjaaGreatDoorCtN
import Derived.Handy
namespace Go.Proofs.YthlhicegchkjjaaGreatDoor
open Go.RowKit

def nmsL : List Value := [.string (nmB 0), .string (nmB 1), .string (nmB 2), .string (nmB 3), .string (nmB 4), .string (nmB 5), .string (nmB 6), .string (nmB 7), .string (nmB 8), .string (nmB 9), .string (nmB 10), .string (nmB 11), .string (nmB 12)]
theorem nmsL_at : ∀ k, k < 13 → nmsL[k]? = some (.string (nmB k)) :=
  forall13 rfl rfl rfl rfl rfl rfl rfl rfl rfl rfl rfl rfl rfl
theorem rnames_b (w : World) : Calls Tryz.prog 12 #[] w fun e w' => ∃ g, e = .returned (.slice (some ⟨g, 0, none⟩) 13 13) ∧ w.heap.size ≤ g ∧ Cs w' g nmsL ∧ Below w.heap.size w w' := by
  go_enter Tryz.func12, Tryz.ntmps12
  go_wp2_with fail
  go_ret
  exact ⟨_, rfl, Nat.le_refl _, Cs.new w _ _, (Below.refl _ _).alloc (Nat.le_refl _) _⟩
set_option maxHeartbeats 2000000 in
theorem rfind_b (s : ByteArray) (r : Int) (H : Hid (findT s.data.toList = r)) (w : World) :
    Calls Tryz.prog 31 #[.string s] w fun e w' => e = .returned (.int .i64 r) ∧ Below w.heap.size w w' := by
  go_enter Tryz.func31, Tryz.ntmps31
  go_wp2_with (first | (go_at_call 12; refine (rnames_b _).mono ?_; rintro e w1 ⟨g, rfl, _, hc, hb⟩; have HC := Lib.hid hc; have HB := Lib.hid hb; clear hc hb) | fail)
  go_loop [4] (fun v => ∃ k : Nat, k ≤ 13 ∧ v = .int .i64 k ∧ Hid (∀ j, j < k → nms.getD j [] ≠ s.data.toList)) (fun v => 13 - (intOf v).toNat)
  case atStart => exact ⟨0, by omega, rfl, fun j h => absurd h (by omega)⟩
  case round =>
    obtain ⟨k, hk, rfl, HK⟩ := hrel
    by_cases hlt : k < 13
    · have hlt' : (k : Int) < 13 := by omega
      have hk0 : (0 : Int) ≤ (k : Int) := by omega
      have hc := HC.out.at k _ (nmsL_at k hlt)
      have hg := HC.out.lt
      obtain ⟨x, hx⟩ : ∃ x, nmB k = x := ⟨_, rfl⟩
      rw [hx] at hc
      have HD : Hid (nms.getD k [] = x.data.toList) := Lib.hid (by rw [← hx]; rfl)
      clear hx
      by_cases h : x.data.toList = s.data.toList
      · have e1 : (x.toList == s.toList) = true := by rw [Lib.toList_data, Lib.toList_data, h]; simp
        have hr : r = k := by rw [← H.out]; exact findT_hit hlt (HD.out.trans h)
        subst hr
        clear H HK h
        go_wp2_with fail
        go_ret
        exact ⟨rfl, HB.out⟩
      · have e1 : (x.toList == s.toList) = false := by rw [Lib.toList_data, Lib.toList_data]; simpa using h
        have HK' : Hid (∀ j, j < k + 1 → nms.getD j [] ≠ s.data.toList) := fun j hj => by
          by_cases hjk : j = k
          · subst hjk
            rw [HD.out]
            exact h
          · exact HK.out j (by omega)
        clear h
        go_wp2_with fail
        go_round
        case rel => exact ⟨k + 1, by omega, by go_num, HK'⟩
        case measure => simp [intOf]; omega
    · have hge : ¬ ((k : Int) < 13) := by omega
      have hr : r = -1 := by rw [← H.out]; exact findT_none fun j hj => HK.out j (by omega)
      subst hr
      clear H HK
      go_wp2_with fail
      go_ret
      exact ⟨rfl, HB.out⟩
/-- How long a run of bytes is. -/
theorem tw_run (p : UInt8 → Bool) : ∀ (l : List UInt8) (k : Nat), k ≤ l.length → (∀ (j : Nat) b, j < k → l[j]? = some b → p b = true) → (∀ b, l[k]? = some b → p b = false) → (l.takeWhile p).length = k
  | [], k, hk, _, _ => by
    have : k = 0 := by simpa using hk
    rw [this]; rfl
  | b :: l, 0, _, _, h2 => by
    have := h2 b rfl
    rw [List.takeWhile_cons_of_neg (by rw [this]; decide)]
    rfl
  | b :: l, k + 1, hk, h1, h2 => by
    have := h1 0 b (by omega) rfl
    rw [List.takeWhile_cons_of_pos this, List.length_cons, tw_run p l k (by simpa using hk) (fun j c hj hc => h1 (j + 1) c (by omega) (by simpa using hc)) (fun c hc => h2 c (by simpa using hc))]
theorem comma_b (s : ByteArray) (r : Nat) (H : Hid ((s.data.toList.takeWhile (· != 44)).length = r)) (hs : s.size ≤ 9000) (w : World) :
    Calls Tryz.prog 29 #[.string s] w fun e w' => e = .returned (.int .i64 (r : Int)) ∧ w = w' := by
  go_enter Tryz.func29, Tryz.ntmps29
  go_wp2_with fail
  go_loop [3] (fun v => ∃ k : Nat, k ≤ s.size ∧ v = .int .i64 k ∧ Hid (∀ (j : Nat) b, j < k → s.data.toList[j]? = some b → (b != 44) = true)) (fun v => s.size - (intOf v).toNat)
  case atStart => exact ⟨0, by omega, rfl, fun j _ h => absurd h (by omega)⟩
  case round =>
    obtain ⟨k, hk, rfl, HK⟩ := hrel
    by_cases hlt : k < s.size
    · have hlt' : (k : Int) < (s.size : Int) := by omega
      have hgk := bget s k hlt
      by_cases h1 : (s[k].toNat : Int) = 44
      · have hc : s[k] = 44 := UInt8.toNat_inj.1 (by show s[k].toNat = 44; omega)
        have hr : r = k := by
          rw [← H.out]
          exact tw_run _ _ k (by rw [← bsize_len]; exact hk) HK.out (fun b hb => by rw [hgk] at hb; cases hb; rw [hc]; rfl)
        subst hr
        clear H HK hgk hc
        go_wp2_with fail
        go_ret
        exact ⟨rfl, rfl⟩
      · have HK' : Hid (∀ (j : Nat) b, j < k + 1 → s.data.toList[j]? = some b → (b != 44) = true) := fun j b hj hb => by
          by_cases hjk : j = k
          · subst hjk
            rw [hgk] at hb
            cases hb
            rw [bne_iff_ne]
            intro e
            exact h1 (by rw [e]; rfl)
          · exact HK.out j b (by omega) hb
        clear hgk
        go_wp2_with fail
        go_round
        case rel => exact ⟨k + 1, by omega, by go_num, HK'⟩
        case measure => simp [intOf]; omega
    · have hge : ¬ ((k : Int) < (s.size : Int)) := by omega
      obtain rfl : k = s.size := by omega
      have hr : r = s.size := by
        rw [← H.out]
        exact tw_run _ _ _ (by rw [← bsize_len]; exact Nat.le_refl _) HK.out (fun b hb => by have := (List.getElem?_eq_some_iff.1 hb).1; rw [← bsize_len] at this; omega)
      subst hr
      clear H HK
      go_wp2_with fail
      go_ret
      exact ⟨rfl, rfl⟩
theorem tr_cons (c b : UInt8) (l : List UInt8) : Lib.trimRightB (b :: l) c = if Lib.trimRightB l c = [] then (if b = c then [] else [b]) else b :: Lib.trimRightB l c := by
  unfold Lib.trimRightB
  rw [List.reverse_cons, List.dropWhile_append]
  by_cases h : (l.reverse.dropWhile (· == c)).isEmpty = true
  · rw [if_pos h]
    rw [List.isEmpty_iff] at h
    rw [h, List.reverse_nil, if_pos rfl]
    by_cases hb : b = c
    · subst hb; simp
    · rw [if_neg hb, List.dropWhile_cons_of_neg (by simpa using hb)]
      rfl
  · rw [if_neg h]
    rw [List.isEmpty_iff] at h
    rw [if_neg (by simpa using h), List.reverse_append]
    rfl
theorem trim_comm (c : UInt8) : ∀ l : List UInt8, Lib.trimRightB (Lib.trimLeftB l c) c = Lib.trimB l c
  | [] => rfl
  | b :: l => by
    have ih := trim_comm c l
    unfold Lib.trimB at ih ⊢
    rw [tr_cons]
    by_cases hb : b = c
    · subst hb
      have e1 : Lib.trimLeftB (b :: l) b = Lib.trimLeftB l b := by unfold Lib.trimLeftB; rw [List.dropWhile_cons_of_pos (by simp)]
      rw [e1, ih]
      by_cases h : Lib.trimRightB l b = []
      · rw [if_pos h, if_pos rfl, h]
      · rw [if_neg h]
        unfold Lib.trimLeftB
        rw [List.dropWhile_cons_of_pos (p := (· == b)) (by simp)]
    · have e1 : Lib.trimLeftB (b :: l) c = b :: l := by unfold Lib.trimLeftB; rw [List.dropWhile_cons_of_neg (by simpa using hb)]
      rw [e1, tr_cons]
      unfold Lib.trimLeftB
      by_cases h : Lib.trimRightB l c = []
      · rw [if_pos h, if_neg hb, List.dropWhile_cons_of_neg (by simpa using hb)]
      · rw [if_neg h, List.dropWhile_cons_of_neg (by simpa using hb)]
set_option maxHeartbeats 2000000 in
theorem rtrim_b (x u : ByteArray) (H : Hid (u.data.toList = Lib.trimB x.data.toList 32)) (hx : x.size ≤ 9000) (w : World) :
    Calls Tryz.prog 27 #[.string x] w fun e w' => e = .returned (.string u) ∧ w = w' := by
  go_enter Tryz.func27, Tryz.ntmps27
  go_wp2_with fail
  go_loop [0] (fun v => ∃ (i : Nat) (s : ByteArray), i ≤ x.size ∧ v = .string s ∧ Hid (s.data.toList = x.data.toList.drop i) ∧ Hid (∀ (j : Nat) b, j < i → x.data.toList[j]? = some b → b = 32)) (fun v => Lib.strSize v)
  case atStart => exact ⟨0, x, by omega, rfl, Lib.hid rfl, Lib.hid fun j b h => absurd h (by omega)⟩
  case round =>
    obtain ⟨i, s, hi, rfl, HS, HI⟩ := hrel
    have HSZ : Hid (s.size = x.size - i) := Lib.hid (by rw [bsize_len, HS.out, List.length_drop, ← bsize_len])
    by_cases hgo : ∃ h : 0 < s.size, s[0].toNat = 32
    · obtain ⟨hz, h32⟩ := hgo
      have hz' : (0 : Int) < (s.size : Int) := by omega
      have h32' : (s[0].toNat : Int) = 32 := by omega
      have hb32 : ((s[0].toNat : Int) == 32) = true := by rw [beq_iff_eq]; exact h32'
      have h1 : (1 : Int) ≤ (s.size : Int) := by omega
      have hx0 : x.data.toList[i]? = some s[0] := by
        have := bget s 0 hz
        rw [HS.out, List.getElem?_drop] at this
        exact this
      have HS2 : Hid ((s.extract 1 s.size).data.toList = x.data.toList.drop (i + 1)) := Lib.hid (by
        rw [Lib.extract_from]
        show s.data.toList.drop 1 = _
        rw [HS.out, List.drop_drop])
      have HI2 : Hid (∀ (j : Nat) b, j < i + 1 → x.data.toList[j]? = some b → b = 32) := Lib.hid (fun j b hj hb => by
        by_cases hji : j = i
        · subst hji
          rw [hx0] at hb
          cases hb
          exact UInt8.toNat_inj.1 h32
        · exact HI.out j b (by omega) hb)
      have hix : i + 1 ≤ x.size := by have := HSZ.out; omega
      have hm : (s.extract 1 s.size).size < s.size := by
        have := HSZ.out
        rw [bsize_len, HS2.out, List.length_drop, ← bsize_len]
        omega
      clear hx0 h32
      go_wp2_with fail
      go_round
      case rel => exact ⟨i + 1, _, hix, rfl, HS2, HI2⟩
      case measure => exact hm
    · have hY : s.data.toList = Lib.trimLeftB x.data.toList 32 := by
        rw [HS.out]
        refine (Lib.trimLeftB_drop _ 32 i (by rw [← bsize_len]; exact hi) HI.out (fun b hb e => hgo ?_)).symm
        have hil := (List.getElem?_eq_some_iff.1 hb).1
        rw [← bsize_len] at hil
        have hsz := HSZ.out
        refine ⟨by omega, ?_⟩
        have := bget s 0 (by omega)
        rw [HS.out, List.getElem?_drop, Nat.add_zero, hb] at this
        rw [← Option.some.inj this, e]
        rfl
      have hR : u.data.toList = Lib.trimRightB s.data.toList 32 := by rw [H.out, hY, trim_comm]
      have HR := Lib.hid hR
      have hno : s.size = 0 ∨ ∃ h : 0 < s.size, ¬ (s[0].toNat : Int) = 32 := by
        rcases Nat.eq_zero_or_pos s.size with h | h
        · exact .inl h
        · exact .inr ⟨h, fun e => hgo ⟨h, by omega⟩⟩
      have hs9 : s.size ≤ 9000 := by have := HSZ.out; omega
      clear hY hR hgo H HS HI HSZ
      rcases hno with h0 | ⟨hz, hn32⟩
      · have hs0 : s = ⟨#[]⟩ := bytes_eq (List.length_eq_zero_iff.1 (by rw [← bsize_len]; exact h0))
        subst hs0
        obtain rfl : u = ⟨#[]⟩ := bytes_eq HR.out
        clear h0 HR
        go_wp2_with fail
        go_loop [0] (fun v => v = .string ⟨#[]⟩) (fun _ => 0)
        case atStart => rfl
        case round =>
          subst hrel
          go_wp2_with fail
          go_ret
          exact ⟨rfl, rfl⟩
      · have hz' : (0 : Int) < (s.size : Int) := by omega
        have hb32 : ((s[0].toNat : Int) == 32) = false := beq_eq_false_iff_ne.2 hn32
        have HSI := Lib.hid hs9
        go_wp2_with fail
        clear hb32 hn32
        go_loop [0] (fun v => ∃ (n : Nat) (t : ByteArray), n ≤ s.size ∧ v = .string t ∧ Hid (t.size = n ∧ t.data.toList = s.data.toList.take n) ∧ Hid (∀ (j : Nat) b, n ≤ j → s.data.toList[j]? = some b → b = 32)) (fun v => Lib.strSize v)
        case atStart => exact ⟨s.size, s, Nat.le_refl _, rfl, Lib.hid ⟨rfl, by rw [bsize_len, List.take_length]⟩, Lib.hid fun j b h hb => by have := (List.getElem?_eq_some_iff.1 hb).1; rw [← bsize_len] at this; omega⟩
        case round =>
          obtain ⟨n, t, hn, rfl, HT, HI⟩ := hrel
          by_cases hn0 : n = 0
          · have ht0 : t = ⟨#[]⟩ := bytes_eq (List.length_eq_zero_iff.1 (by rw [← bsize_len, HT.out.1]; exact hn0))
            subst ht0
            have hu : u = ⟨#[]⟩ := bytes_eq (by
              rw [HR.out, Lib.trimRightB_take _ 32 0 (Nat.zero_le _) (fun j b _ hb => HI.out j b (by omega) hb) (fun b h => absurd h (by omega))]
              rfl)
            subst hu
            clear HT HR HI hn0
            go_wp2_with fail
            go_ret
            exact ⟨rfl, rfl⟩
          · obtain ⟨q, hq⟩ : ∃ q, t.size = q + 1 := ⟨t.size - 1, by have := HT.out.1; omega⟩
            have hqn : q + 1 = n := by rw [← hq, HT.out.1]
            have hlt : q < t.size := by omega
            have hz : (0 : Int) < (t.size : Int) := by omega
            have hq1 : (t.size : Int) - 1 = (q : Int) := by omega
            have hq2 : (q : Int) < (t.size : Int) := by omega
            have hq0 : (0 : Int) ≤ (q : Int) := by omega
            have hq3 : (q : Int) ≤ (t.size : Int) := by omega
            have htq : s.data.toList[q]? = some t[q] := by
              have := bget t q hlt
              rw [HT.out.2, List.getElem?_take, if_pos (by omega)] at this
              exact this
            have HQ := Lib.hid hqn
            have hts : t.size ≤ 9000 := by have := HSI.out; have := HT.out.1; omega
            clear hq hqn hn0
            by_cases h32 : (t[q].toNat : Int) = 32
            · have hb : ((t[q].toNat : Int) == 32) = true := by rw [beq_iff_eq]; exact h32
              have HT2 : Hid ((t.extract 0 q).size = q ∧ (t.extract 0 q).data.toList = s.data.toList.take q) := Lib.hid (by
                have e : (t.extract 0 q).data.toList = s.data.toList.take q := by
                  rw [Lib.extract_upto]
                  show t.data.toList.take q = _
                  rw [HT.out.2, List.take_take, Nat.min_eq_left (by have := HQ.out; omega)]
                refine ⟨?_, e⟩
                rw [bsize_len, e, List.length_take, ← bsize_len]
                have := HQ.out
                omega)
              have HI2 : Hid (∀ (j : Nat) b, q ≤ j → s.data.toList[j]? = some b → b = 32) := Lib.hid (fun j b hj hjb => by
                by_cases hjq : j = q
                · subst hjq
                  rw [htq] at hjb
                  cases hjb
                  exact UInt8.toNat_inj.1 (by show t[j].toNat = 32; omega)
                · exact HI.out j b (by have := HQ.out; omega) hjb)
              have hqs : q ≤ s.size := by have := HQ.out; omega
              have hm : (t.extract 0 q).size < t.size := by rw [HT2.out.1]; exact hlt
              clear htq
              go_wp2_with fail
              go_round
              case rel => exact ⟨q, _, hqs, rfl, HT2, HI2⟩
              case measure => exact hm
            · have hb : ((t[q].toNat : Int) == 32) = false := beq_eq_false_iff_ne.2 h32
              have hu : u = t := bytes_eq (by
                rw [HR.out, HT.out.2]
                refine Lib.trimRightB_take _ 32 n (by rw [← bsize_len]; exact hn) HI.out (fun b _ hb2 e => h32 ?_)
                rw [show n - 1 = q by have := HQ.out; omega, htq] at hb2
                rw [Option.some.inj hb2, e]
                rfl)
              subst hu
              clear htq HR HT HI HQ
              go_wp2_with fail
              go_ret
              exact ⟨rfl, rfl⟩
end Go.Proofs.YthlhicegchkjjaaGreatDoor
