/-
  Texts of cost models: the walk over the reference's part.
-/
import Derived.Test.YthlhicegchkjjaaGreatDoorCtO
import Derived.Deep.DeepCutAuto
namespace Go.Proofs.YthlhicegchkjjaaGreatDoor
open Go.RowKit

/-- What the reference finds in a piece. -/
def rpT (s : List UInt8) : List UInt8 × Int × Bool := match partT s with
  | none => ([], 0, false)
  | some (w, d) => (w, (satD 0 d : Nat), true)
theorem satD_le : ∀ (l : List UInt8) (n : Nat), n ≤ 101 → satD n l ≤ 101
  | [], _, h => h
  | d :: l, n, h => by
    unfold satD
    split
    · exact satD_le l 101 (Nat.le_refl _)
    · exact satD_le l _ (by omega)
theorem drop_byte (s : ByteArray) (i : Nat) (h : i < s.size) : s.data.toList.drop i = s[i] :: s.data.toList.drop (i + 1) := by
  have hl : i < s.data.toList.length := by rw [← bsize_len]; exact h
  rw [List.drop_eq_getElem_cons hl]
  have := bget s i h
  rw [List.getElem?_eq_getElem hl] at this
  rw [Option.some.inj this]
theorem dw_end {s : ByteArray} (h : (s.data.toList.takeWhile lowc).length = s.size) : s.data.toList.dropWhile lowc = [] := by
  have h1 := List.takeWhile_append_dropWhile (p := lowc) (l := s.data.toList)
  have h2 := congrArg List.length h1
  rw [List.length_append, h, ← bsize_len] at h2
  exact List.length_eq_zero_iff.1 (by omega)
theorem spc_run {s : ByteArray} {k z : Nat} (ha : (s.data.toList.takeWhile lowc).length = k) (hk : k ≤ z) (hz : z ≤ s.size) (h1 : ∀ (j : Nat) b, k ≤ j → j < z → s.data.toList[j]? = some b → b = 32) (h2 : ∀ b, s.data.toList[z]? = some b → b ≠ 32) :
    k + ((s.data.toList.dropWhile lowc).takeWhile (· == 32)).length = z := by
  have hd : s.data.toList.dropWhile lowc = s.data.toList.drop k := by
    have h := List.takeWhile_append_dropWhile (p := lowc) (l := s.data.toList)
    rw [← ha]
    obtain ⟨u, hu⟩ : ∃ u, s.data.toList.takeWhile lowc = u := ⟨_, rfl⟩
    rw [hu] at h ⊢
    have e : s.data.toList.drop u.length = (u ++ s.data.toList.dropWhile lowc).drop u.length := congrArg (List.drop u.length) h.symm
    rw [e, List.drop_left]
  rw [hd, tw_run (· == 32) (s.data.toList.drop k) (z - k) (by rw [List.length_drop, ← bsize_len]; omega) (fun j b hj hb => by
    rw [List.getElem?_drop] at hb
    rw [beq_iff_eq]
    exact h1 (k + j) b (by omega) (by omega) hb) (fun b hb => by
    rw [List.getElem?_drop, show k + (z - k) = z by omega] at hb
    rw [beq_eq_false_iff_ne]
    exact h2 b hb)]
  omega
theorem sat_cons (m dv : Nat) (c : UInt8) (l : List UInt8) (h : c.toNat = 48 + dv) (h9 : dv ≤ 9) : (satD m (c :: l) = satD (if 100 < 10 * m + dv then 101 else 10 * m + dv) l) ∧ ((c :: l).all digc = true ↔ l.all digc = true) := by
  have e : c.toNat - 48 = dv := by omega
  refine ⟨?_, ?_⟩
  · show satD (if 100 < 10 * m + (c.toNat - 48) then 101 else 10 * m + (c.toNat - 48)) l = _
    rw [e]
  · have hdg : digc c = true := by unfold digc; rw [decide_eq_true_iff]; omega
    rw [List.all_cons, hdg, Bool.true_and]
theorem part_bad {k z : Nat} {x : ByteArray} {n : Int} {ok : Bool} (s : ByteArray) (H : rpT s.data.toList = (x.data.toList, n, ok)) (ha : (s.data.toList.takeWhile lowc).length = k) (hz : k + ((s.data.toList.dropWhile lowc).takeWhile (· == 32)).length = z)
    (h : k = 0 ∨ z = s.size ∨ z = k ∨ (s.data.toList[z]? = some 48 ∧ z + 1 < s.size)) : x = ⟨#[]⟩ ∧ n = 0 ∧ ok = false := by
  have hp := partT_pos s.data.toList k z ha.symm hz.symm
  rw [if_pos (by
    rw [← bsize_len]
    rcases h with h | h | h | h
    · exact .inl h
    · exact .inr (.inr (.inl h))
    · exact .inr (.inl h)
    · exact .inr (.inr (.inr h)))] at hp
  unfold rpT at H
  rw [hp] at H
  simp only [Prod.mk.injEq] at H
  exact ⟨bytes_eq H.1.symm, H.2.1.symm, H.2.2.symm⟩
theorem part_good {k z : Nat} {x : ByteArray} {n : Int} {ok : Bool} (s : ByteArray) (H : rpT s.data.toList = (x.data.toList, n, ok)) (ha : (s.data.toList.takeWhile lowc).length = k) (hz : k + ((s.data.toList.dropWhile lowc).takeWhile (· == 32)).length = z)
    (h0 : k ≠ 0) (h1 : z ≠ k) (h2 : z ≠ s.size) (h3 : ¬ (s.data.toList[z]? = some 48 ∧ z + 1 < s.size)) :
    ((s.data.toList.drop z).all digc = true → x.data.toList = s.data.toList.take k ∧ n = (satD 0 (s.data.toList.drop z) : Nat) ∧ ok = true) ∧ (¬ (s.data.toList.drop z).all digc = true → x = ⟨#[]⟩ ∧ n = 0 ∧ ok = false) := by
  have hp := partT_pos s.data.toList k z ha.symm hz.symm
  rw [if_neg (by
    rw [← bsize_len]
    rintro (h | h | h | h)
    · exact h0 h
    · exact h1 h
    · exact h2 h
    · exact h3 h)] at hp
  unfold rpT at H
  refine ⟨fun h => ?_, fun h => ?_⟩
  · rw [if_pos h] at hp
    rw [hp] at H
    simp only [Prod.mk.injEq] at H
    exact ⟨H.1.symm, H.2.1.symm, H.2.2.symm⟩
  · rw [if_neg h] at hp
    rw [hp] at H
    simp only [Prod.mk.injEq] at H
    exact ⟨bytes_eq H.1.symm, H.2.1.symm, H.2.2.symm⟩
set_option maxRecDepth 100000 in
set_option maxHeartbeats 4000000 in
theorem rpart_b (s x : ByteArray) (n : Int) (ok : Bool) (H : Hid (rpT s.data.toList = (x.data.toList, n, ok))) (hs : s.size ≤ 9000) (w : World) :
    Calls Tryz.prog 30 #[.string s] w fun e w' => e = .returned (.tuple #[.string x, .int .i64 n, .bool ok]) ∧ w = w' := by
  go_enter Tryz.func30, Tryz.ntmps30
  go_wp2_with fail
  go_loop [5] (fun v => ∃ k : Nat, k ≤ s.size ∧ v = .int .i64 k ∧ Hid (∀ (j : Nat) b, j < k → s.data.toList[j]? = some b → lowc b = true)) (fun v => s.size - (intOf v).toNat)
  case atStart => exact ⟨0, by omega, rfl, fun j _ h => absurd h (by omega)⟩
  case round =>
    obtain ⟨k, hk, rfl, HK⟩ := hrel
    have fin : (∀ b, s.data.toList[k]? = some b → lowc b = false) → Hid ((s.data.toList.takeWhile lowc).length = k) := fun h => Lib.hid (tw_run _ _ k (by rw [← bsize_len]; exact hk) HK.out h)
    by_cases hlt : k < s.size
    case neg =>
      have hge : ¬ ((k : Int) < (s.size : Int)) := by omega
      obtain rfl : k = s.size := by omega
      have HF := fin (fun b hb => by have := (List.getElem?_eq_some_iff.1 hb).1; rw [← bsize_len] at this; omega)
      have hbad := part_bad (z := s.size) (x := x) (n := n) (ok := ok) s H.out HF.out (by rw [dw_end HF.out]; rfl) (.inr (.inl rfl))
      obtain ⟨rfl, rfl, rfl⟩ := hbad
      clear fin HK H HF
      go_wp2_with fail
      go_loop [7] (fun v => v = .int .i64 s.size) (fun _ => 0)
      case atStart => rfl
      case round =>
        subst hrel
        have b2 : ((s.size : Int) == (s.size : Int)) = true := by rw [beq_iff_eq]
        by_cases h0 : (s.size : Int) = 0
        · have b1 : ((s.size : Int) == 0) = true := by rw [beq_iff_eq]; exact h0
          go_wp2_with fail
          go_returns
          exact ⟨rfl, rfl⟩
        · have b1 : ((s.size : Int) == 0) = false := beq_eq_false_iff_ne.2 h0
          go_wp2_with fail
          go_returns
          exact ⟨rfl, rfl⟩
    have hlt' : (k : Int) < (s.size : Int) := by omega
    have hgk := bget s k hlt
    by_cases hgo : (97 : Int) ≤ (s[k].toNat : Int) ∧ (s[k].toNat : Int) ≤ 122
    case pos =>
      obtain ⟨h1, h2⟩ := hgo
      have hlo : lowc s[k] = true := by unfold lowc; rw [decide_eq_true_iff]; omega
      have HK' : Hid (∀ (j : Nat) b, j < k + 1 → s.data.toList[j]? = some b → lowc b = true) := fun j b hj hb => by
        by_cases hjk : j = k
        · subst hjk
          rw [hgk] at hb
          cases hb
          exact hlo
        · exact HK.out j b (by omega) hb
      have d1 : decide ((97 : Int) ≤ (s[k].toNat : Int)) = true := decide_eq_true h1
      have d2 : decide ((s[k].toNat : Int) ≤ 122) = true := decide_eq_true h2
      clear hgk fin H
      go_wp2_with fail
      go_round
      case rel => exact ⟨k + 1, by omega, by go_num, HK'⟩
      case measure => simp [intOf]; omega
    have HA := fin (fun b hb => by rw [hgk] at hb; cases hb; unfold lowc; rw [decide_eq_false_iff_not]; omega)
    have hex : (¬ (97 : Int) ≤ (s[k].toNat : Int) ∧ decide ((97 : Int) ≤ (s[k].toNat : Int)) = false) ∨ ((97 : Int) ≤ (s[k].toNat : Int) ∧ decide ((97 : Int) ≤ (s[k].toNat : Int)) = true ∧ ¬ (s[k].toNat : Int) ≤ 122 ∧ decide ((s[k].toNat : Int) ≤ 122) = false) := by
      by_cases h1 : (97 : Int) ≤ (s[k].toNat : Int)
      · have h2 : ¬ (s[k].toNat : Int) ≤ 122 := fun h2 => hgo ⟨h1, h2⟩
        exact .inr ⟨h1, decide_eq_true h1, h2, decide_eq_false h2⟩
      · exact .inl ⟨h1, decide_eq_false h1⟩
    have hk0 : (0 : Int) ≤ (k : Int) := by omega
    have hkl : (k : Int) ≤ (s.size : Int) := by omega
    obtain ⟨wd, hwd⟩ : ∃ wd, s.extract 0 k = wd := ⟨_, rfl⟩
    have HWD : Hid (wd.data.toList = s.data.toList.take k) := Lib.hid (by rw [← hwd, Lib.extract_upto])
    clear hgk hgo fin HK
    rcases hex with ⟨h1, d1⟩ | ⟨h1, d1, h2, d2⟩
    all_goals
      go_wp2_with fail
      go_loop [7] (fun v => ∃ z : Nat, k ≤ z ∧ z ≤ s.size ∧ v = .int .i64 z ∧ Hid (∀ (j : Nat) b, k ≤ j → j < z → s.data.toList[j]? = some b → b = 32)) (fun v => s.size - (intOf v).toNat)
      case atStart => exact ⟨k, Nat.le_refl _, by omega, rfl, Lib.hid fun j b h1 h2 => by omega⟩
      case round =>
        obtain ⟨z, hkz, hzs, rfl, HZ⟩ := hrel
        have hz0 : (0 : Int) ≤ (z : Int) := by omega
        by_cases hzl : z < s.size
        case neg =>
          have hge : ¬ ((z : Int) < (s.size : Int)) := by omega
          obtain rfl : z = s.size := by omega
          have hbad := part_bad (z := s.size) (x := x) (n := n) (ok := ok) s H.out HA.out (spc_run HA.out hkz (Nat.le_refl _) HZ.out (fun b hb => by have := (List.getElem?_eq_some_iff.1 hb).1; rw [← bsize_len] at this; omega)) (.inr (.inl rfl))
          obtain ⟨rfl, rfl, rfl⟩ := hbad
          clear H HA HZ
          have b2 : ((s.size : Int) == (s.size : Int)) = true := by rw [beq_iff_eq]
          by_cases h0 : (k : Int) = 0
          · have b1 : ((k : Int) == 0) = true := by rw [beq_iff_eq]; exact h0
            go_wp2_with fail
            go_returns
            exact ⟨rfl, rfl⟩
          · have b1 : ((k : Int) == 0) = false := beq_eq_false_iff_ne.2 h0
            have hks : ¬ (s.size : Int) = (k : Int) := by omega
            have b3 : ((s.size : Int) == (k : Int)) = false := beq_eq_false_iff_ne.2 hks
            go_wp2_with fail
            go_returns
            exact ⟨rfl, rfl⟩
        have hzl' : (z : Int) < (s.size : Int) := by omega
        have hgz := bget s z hzl
        by_cases h32 : (s[z].toNat : Int) = 32
        case pos =>
          have hb32 : ((s[z].toNat : Int) == 32) = true := by rw [beq_iff_eq]; exact h32
          have HZ' : Hid (∀ (j : Nat) b, k ≤ j → j < z + 1 → s.data.toList[j]? = some b → b = 32) := fun j b h1 hj hb => by
            by_cases hjk : j = z
            · subst hjk
              rw [hgz] at hb
              cases hb
              exact UInt8.toNat_inj.1 (by show s[j].toNat = 32; omega)
            · exact HZ.out j b h1 (by omega) hb
          clear hgz H
          go_wp2_with fail
          go_round
          case rel => exact ⟨z + 1, by omega, by omega, by go_num, HZ'⟩
          case measure => simp [intOf]; omega
        have hb32 : ((s[z].toNat : Int) == 32) = false := beq_eq_false_iff_ne.2 h32
        have HSP := Lib.hid (spc_run HA.out hkz hzs HZ.out (fun b hb e => h32 (by rw [hgz] at hb; rw [Option.some.inj hb, e]; rfl)))
        by_cases hbad : k = 0 ∨ z = k ∨ (s[z].toNat = 48 ∧ z + 1 < s.size)
        case pos =>
          have hb2 := part_bad (z := z) (x := x) (n := n) (ok := ok) s H.out HA.out HSP.out (by
            rcases hbad with h | h | ⟨h, h2⟩
            · exact .inl h
            · exact .inr (.inr (.inl h))
            · exact .inr (.inr (.inr ⟨by rw [hgz, show s[z] = 48 from UInt8.toNat_inj.1 h], h2⟩)))
          obtain ⟨rfl, rfl, rfl⟩ := hb2
          clear H HA HZ HSP hgz
          have hzne : ¬ (z : Int) = (s.size : Int) := by omega
          by_cases k0 : (k : Int) = 0
          · have b1 : ((k : Int) == 0) = true := by rw [beq_iff_eq]; exact k0
            go_wp2_with fail
            go_returns
            exact ⟨rfl, rfl⟩
          · by_cases k1 : (z : Int) = (k : Int)
            · have b1 : ((k : Int) == 0) = false := beq_eq_false_iff_ne.2 k0
              obtain rfl : z = k := by omega
              have b2 : ((z : Int) == (z : Int)) = true := by rw [beq_iff_eq]
              clear k1
              go_wp2_with fail
              go_returns
              exact ⟨rfl, rfl⟩
            · have k2 : (s[z].toNat : Int) = 48 ∧ (z : Int) + 1 < (s.size : Int) := by omega
              obtain ⟨k2, k3⟩ := k2
              have k4 : ((s[z].toNat : Int) == 48) = true := by rw [beq_iff_eq]; exact k2
              have k5 : ((z : Int) == (s.size : Int)) = false := beq_eq_false_iff_ne.2 hzne
              have k6 : ((z : Int) == (k : Int)) = false := beq_eq_false_iff_ne.2 k1
              have k7 : ((k : Int) == 0) = false := beq_eq_false_iff_ne.2 k0
              have k8 : decide ((z : Int) + 1 < (s.size : Int)) = true := decide_eq_true k3
              go_wp2_with fail
              go_returns
              exact ⟨rfl, rfl⟩
        have hgood := part_good (z := z) (x := x) (n := n) (ok := ok) s H.out HA.out HSP.out (by omega) (by omega) (by omega) (fun h => hbad (.inr (.inr ⟨by rw [hgz] at h; rw [Option.some.inj h.1]; rfl, h.2⟩)))
        have HG := Lib.hid hgood
        have k0 : ¬ (k : Int) = 0 := by omega
        have k1 : ¬ (z : Int) = (k : Int) := by omega
        have hzne : ¬ (z : Int) = (s.size : Int) := by omega
        have k5 : ((z : Int) == (s.size : Int)) = false := beq_eq_false_iff_ne.2 hzne
        have k6 : ((z : Int) == (k : Int)) = false := beq_eq_false_iff_ne.2 k1
        have k7 : ((k : Int) == 0) = false := beq_eq_false_iff_ne.2 k0
        have hlast : (¬ (s[z].toNat : Int) = 48 ∧ ((s[z].toNat : Int) == 48) = false) ∨ ((s[z].toNat : Int) = 48 ∧ ((s[z].toNat : Int) == 48) = true ∧ ¬ (z : Int) + 1 < (s.size : Int) ∧ decide ((z : Int) + 1 < (s.size : Int)) = false) := by
          by_cases h : (s[z].toNat : Int) = 48
          · have h2 : ¬ (z : Int) + 1 < (s.size : Int) := fun h2 => hbad (.inr (.inr ⟨by omega, by omega⟩))
            exact .inr ⟨h, by rw [beq_iff_eq]; exact h, h2, decide_eq_false h2⟩
          · exact .inl ⟨h, beq_eq_false_iff_ne.2 h⟩
        clear H HA HZ HSP hgz hgood hbad
        rcases hlast with ⟨l1, l2⟩ | ⟨l1, l2, l3, l4⟩
        all_goals
          go_wp2_with fail
          go_loop [8, 9] (fun u v => ∃ (m i : Nat), i ≤ s.size ∧ m ≤ 101 ∧ u = .int .i64 m ∧ v = .int .i64 i ∧ Hid (satD m (s.data.toList.drop i) = satD 0 (s.data.toList.drop z) ∧ ((s.data.toList.drop z).all digc = true ↔ (s.data.toList.drop i).all digc = true))) (fun _ v => s.size - (intOf v).toNat)
          case atStart => exact ⟨0, z, by omega, by omega, rfl, rfl, Lib.hid ⟨rfl, Iff.rfl⟩⟩
          case round =>
            obtain ⟨m, i, his, hm, rfl, rfl, HI⟩ := hrel
            have hi0 : (0 : Int) ≤ (i : Int) := by omega
            by_cases hil : i < s.size
            case neg =>
              have hge : ¬ ((i : Int) < (s.size : Int)) := by omega
              have hnil : s.data.toList.drop i = [] := List.drop_eq_nil_of_le (by rw [← bsize_len]; omega)
              have hall : (s.data.toList.drop z).all digc = true := HI.out.2.2 (by rw [hnil]; rfl)
              have hsat : satD 0 (s.data.toList.drop z) = m := by have := HI.out.1; rw [hnil] at this; exact this.symm
              obtain ⟨hx, hn, rfl⟩ := HG.out.1 hall
              rw [hsat] at hn
              subst hn
              obtain rfl : wd = x := bytes_eq (by rw [HWD.out, hx])
              clear HG HWD hnil hall hsat HI hx
              go_wp2_with fail
              go_returns
              exact ⟨rfl, rfl⟩
            have hil' : (i : Int) < (s.size : Int) := by omega
            have HDR := Lib.hid (drop_byte s i hil)
            by_cases hd : (48 : Int) ≤ (s[i].toNat : Int) ∧ (s[i].toNat : Int) ≤ 57
            case neg =>
              have hall : ¬ (s.data.toList.drop z).all digc = true := fun h => by
                have := HI.out.2.1 h
                rw [HDR.out, List.all_cons, Bool.and_eq_true] at this
                unfold digc at this
                rw [decide_eq_true_iff] at this
                omega
              obtain ⟨rfl, rfl, rfl⟩ := HG.out.2 hall
              clear HG HWD HI HDR hall
              by_cases h48 : (s[i].toNat : Int) < 48
              · go_wp2_with fail
                go_returns
                exact ⟨rfl, rfl⟩
              · have h57 : (57 : Int) < (s[i].toNat : Int) := by omega
                go_wp2_with fail
                go_returns
                exact ⟨rfl, rfl⟩
            obtain ⟨e1, e2⟩ := hd
            have e3 : ¬ (s[i].toNat : Int) < 48 := by omega
            have e4 : ¬ (57 : Int) < (s[i].toNat : Int) := by omega
            obtain ⟨dv, hdv⟩ : ∃ dv : Nat, s[i].toNat = 48 + dv := ⟨s[i].toNat - 48, by omega⟩
            have hw0 : IntKind.u8.wrap ((s[i].toNat : Int) - 48) = (dv : Int) := by
              show ((s[i].toNat : Int) - 48) % 256 = _
              omega
            have hw1 : (s[i].toNat : Int) - 48 = (dv : Int) := by omega
            obtain ⟨hst1, hst2⟩ := sat_cons m dv s[i] (s.data.toList.drop (i + 1)) hdv (by omega)
            rw [← HDR.out] at hst1 hst2
            have HST := Lib.hid (And.intro hst1 hst2)
            clear hst1 hst2
            have HV := Lib.hid hdv
            have hdv9 : dv ≤ 9 := by omega
            clear hdv
            by_cases hbig : 100 < 10 * m + dv
            · have hb' : (100 : Int) < 10 * (m : Int) + (dv : Int) := by omega
              have HI2 : Hid (satD 101 (s.data.toList.drop (i + 1)) = satD 0 (s.data.toList.drop z) ∧ ((s.data.toList.drop z).all digc = true ↔ (s.data.toList.drop (i + 1)).all digc = true)) := Lib.hid ⟨by rw [← HI.out.1, HST.out.1, if_pos hbig], HI.out.2.trans HST.out.2⟩
              clear HST HI HDR
              go_wp2_with fail
              go_round
              case rel => exact ⟨101, i + 1, by omega, by omega, rfl, by go_num, HI2⟩
              case measure => simp [intOf]; omega
            · have hb' : ¬ (100 : Int) < 10 * (m : Int) + (dv : Int) := by omega
              have HI2 : Hid (satD (10 * m + dv) (s.data.toList.drop (i + 1)) = satD 0 (s.data.toList.drop z) ∧ ((s.data.toList.drop z).all digc = true ↔ (s.data.toList.drop (i + 1)).all digc = true)) := Lib.hid ⟨by rw [← HI.out.1, HST.out.1, if_neg hbig], HI.out.2.trans HST.out.2⟩
              clear HST HI HDR
              go_wp2_with fail
              go_round
              case rel => exact ⟨10 * m + dv, i + 1, by omega, by omega, by go_num, by go_num, HI2⟩
              case measure => simp [intOf]; omega
end Go.Proofs.YthlhicegchkjjaaGreatDoor
