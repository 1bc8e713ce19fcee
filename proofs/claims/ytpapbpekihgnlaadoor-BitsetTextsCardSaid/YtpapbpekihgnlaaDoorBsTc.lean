/-
  The walks over the reference's digits, Text and number.
-/
import Derived.Test.YtpapbpekihgnlaaDoorBsTb
import Derived.Deep.Cut
namespace Go.Proofs.YtpapbpekihgnlaaDoor
open Go.RowKit Tx

def ten : ByteArray := ⟨#[48, 49, 50, 51, 52, 53, 54, 55, 56, 57]⟩
theorem ten_piece : ∀ d : Nat, d < 10 → ten.extract d (d + 1) = ⟨#[UInt8.ofNat (48 + d)]⟩ := by
  intro d hd
  match d, hd with
  | 0, _ | 1, _ | 2, _ | 3, _ | 4, _ | 5, _ | 6, _ | 7, _ | 8, _ | 9, _ => rfl
theorem slice_ten (d : Nat) (hd : d < 10) (wx : World) : (Instr.slice 9 (.string ⟨#[48, 49, 50, 51, 52, 53, 54, 55, 56, 57]⟩) (some (.int .i64 (d : Int))) (some (.int .i64 ((d : Int) + 1))) none).run Tryd.prog wx = .ok (.string ⟨#[UInt8.ofNat (48 + d)]⟩) wx := by
  have hsz : ten.size = 10 := rfl
  have := run_slice_string (P := Tryd.prog) (w := wx) 9 ten .i64 .i64 (d : Int) ((d : Int) + 1) Tryd.underlying9 (by omega) (by omega) (by rw [hsz]; omega)
  rw [show ((d : Int) + 1).toNat = d + 1 by omega, Int.toNat_natCast, ten_piece d hd] at this
  exact this

set_option maxHeartbeats 1000000 in
theorem digits_s (n : Nat) (h10 : n < 10) (r : ByteArray) (hr : Hid (r = ⟨(Lib.decDigits n).toArray⟩)) (w : World) :
    Calls Tryd.prog 62 #[.int .i64 n] w fun e w' => e = .returned (.string r) ∧ Below w.heap.size w w' := by
  have hr' : r = ⟨#[UInt8.ofNat (48 + n)]⟩ := by rw [hr.out, Lib.decDigits_one h10]
  have HR := Lib.hid hr'
  have hlt : (n : Int) < 10 := by omega
  clear hr hr'
  go_enter Tryd.func62, Tryd.ntmps62
  go_wp2_with fail
  go_ret
  refine ⟨?_, Below.refl _ _⟩
  rw [HR.out]
  first
    | exact congrArg (fun x => Ending.returned (Value.string x)) (ten_piece n h10)
    | (rw [show ((n : Int) + 1).toNat = n + 1 by omega]; exact congrArg (fun x => Ending.returned (Value.string x)) (ten_piece n h10))
    | (rw [show ((n : Int) + 1).toNat = n + 1 by omega, Int.toNat_natCast]; exact congrArg (fun x => Ending.returned (Value.string x)) (ten_piece n h10))

theorem dec_seven (m : Nat) (hm : m ≤ 1000000) : (Lib.decDigits m).length ≤ 7 := by
  unfold Lib.decDigits; split; · simp
  unfold Lib.decDigits; split; · simp
  unfold Lib.decDigits; split; · simp
  unfold Lib.decDigits; split; · simp
  unfold Lib.decDigits; split; · simp
  unfold Lib.decDigits; split; · simp
  unfold Lib.decDigits; split; · simp
  omega

set_option maxRecDepth 100000 in
set_option maxHeartbeats 1000000 in
theorem digits_b (k : Nat) : ∀ (n : Nat), n ≤ k → n ≤ 1000000 → ∀ (r : ByteArray), Hid (r = ⟨(Lib.decDigits n).toArray⟩) → ∀ (w : World),
    Calls Tryd.prog 62 #[.int .i64 n] w fun e w' => e = .returned (.string r) ∧ Below w.heap.size w w' := by
  induction k with
  | zero => exact fun n hn _ r hr w => digits_s n (by omega) r hr w
  | succ k ih =>
    intro n hn h6 r hr w
    by_cases h10 : n < 10
    · exact digits_s n h10 r hr w
    · obtain ⟨p, hp⟩ : ∃ p : ByteArray, p = ⟨(Lib.decDigits (n / 10)).toArray⟩ := ⟨_, rfl⟩
      have HP := Lib.hid hp
      have hle : (Lib.decDigits (n / 10)).length ≤ 20 := Nat.le_trans (dec_seven (n / 10) (by omega)) (by decide)
      have hps : p.size ≤ 20 := by rw [hp]; exact hle
      obtain ⟨d, hd⟩ : ∃ d : Nat, n % 10 = d := ⟨_, rfl⟩
      have hd10 : d < 10 := by omega
      obtain ⟨c, hc⟩ : ∃ c : ByteArray, c = ⟨#[UInt8.ofNat (48 + d)]⟩ := ⟨_, rfl⟩
      have hr' : r = p ++ c := by
        rw [hr.out, dec_big h10, hp, hc, hd]
        show _ = (⟨_⟩ : ByteArray)
        congr 1 <;> simp
      have hsl := fun wx => slice_ten d hd10 wx
      rw [← hc] at hsl
      have had : ∀ wx, (Op.stringOp .add p c).run Tryd.prog wx = .ok (.string r) wx := fun wx => by
        rw [hr']; exact run_string_add_sum _ _ _ (by rw [hc]; show _ + 1 ≤ _; omega)
      have hrem : (n : Int).tmod 10 = (d : Int) := by rw [Int.tmod_eq_emod_of_nonneg (by omega)]; omega
      have hrem2 : (n : Int) % 10 = (d : Int) := by omega
      have hwr : IntKind.i64.wrap ((d : Int) + 1) = (d : Int) + 1 := IntWalk.i64_in _ (by omega)
      have hquo : (n : Int).tdiv 10 = ((n / 10 : Nat) : Int) := by rw [Int.tdiv_eq_ediv_of_nonneg (by omega)]; omega
      have hquo2 : (n : Int) / 10 = ((n / 10 : Nat) : Int) := by omega
      have hlt : ¬ ((n : Int) < 10) := by omega
      obtain ⟨n', hn'⟩ : ∃ n', n / 10 = n' := ⟨_, rfl⟩
      rw [hn'] at HP hquo hquo2
      have hn1 : n' ≤ k := by omega
      have HWN : Hid (IntKind.i64.wrap (n' : Int) = (n' : Int)) := IntWalk.i64_in _ (by omega)
      have hn6 : n' ≤ 1000000 := by omega
      clear hp hle hr hr' hn' hd hc
      go_enter Tryd.func62, Tryd.ntmps62
      go_upto_region 3 with fail
      go_region_held3 (fun _ => True) (first | exact trivial) (first
        | (go_at_call 62; rw [HWN.out]; refine (ih n' hn1 hn6 p HP _).mono ?_; rintro e u1 ⟨rfl, hb⟩))
      go_wp2_with fail
      go_ret
      exact ⟨rfl, (Below.refl _ _).drew.trans (hb.mono (Nat.le_refl _))⟩

/-! ### number -/
theorem span_cons {t : List UInt8} {p : Nat} {c : UInt8} (h : t.drop p = c :: t.drop (p + 1)) (hd : dig c = true) : span t p = c :: span t (p + 1) := by
  unfold span
  rw [h, List.takeWhile_cons_of_pos hd]
theorem span_stop {t : List UInt8} {p : Nat} {c : UInt8} {r : List UInt8} (h : t.drop p = c :: r) (hd : dig c = false) : span t p = [] := by
  unfold span
  rw [h, List.takeWhile_cons_of_neg (by rw [hd]; simp)]
theorem span_end {t : List UInt8} {p : Nat} (h : t.length ≤ p) : span t p = [] := by
  unfold span
  rw [List.drop_eq_nil_of_le h]
  rfl
theorem numR_no {t : List UInt8} {i : Nat} (h : ¬ (numOk (span t i) ∧ val (span t i) ≤ 4096)) : numR t i = (0, -1) := by
  unfold numR
  rw [if_neg h]
theorem numR_big {t : List UInt8} {i : Nat} {d r : List UInt8} (h : span t i = d ++ r) (hv : 4096 < val d) : numR t i = (0, -1) := numR_no fun hh => by
  have h1 := val_le_app d r
  rw [← h] at h1
  have := hh.2
  omega
theorem numR_zero {t : List UInt8} {i : Nat} {c d : UInt8} {r : List UInt8} (h : span t i = c :: d :: r) (hc : c = 48) : numR t i = (0, -1) := numR_no fun hh => by
  rcases hh.1.2.2 with h1 | h1
  · rw [h] at h1; simp at h1
  · rw [h, hc] at h1; exact h1 rfl
theorem numR_fin {t : List UInt8} {i : Nat} {d : List UInt8} (h : span t i = d) (hne : d ≠ []) (hv : val d ≤ 4096) (hz : d.length ≤ 1 ∨ d.head? ≠ some 48) : numR t i = (((val d : Nat) : Int), ((i + d.length : Nat) : Int)) := by
  unfold numR
  have hd : ∀ c ∈ d, dig c = true := fun c hc => by
    rw [← h] at hc
    exact List.all_eq_true.1 List.all_takeWhile c hc
  rw [h, if_pos ⟨⟨hne, hd, hz⟩, hv⟩]
theorem lt_drop {s : ByteArray} {p : Nat} (h : p < s.size) : s.data.toList.drop p = s[p] :: s.data.toList.drop (p + 1) := by
  rw [List.drop_eq_getElem_cons (by rw [← Lib.size_eq]; exact h)]
  simp
  rfl
theorem byte_48 {c : UInt8} (h : c.toNat = 48) : c = 48 := UInt8.toNat_inj.1 h

theorem num_end {t : List UInt8} {i p q : Nat} (H : ∃ d, span t i = d ++ span t p ∧ val d = q ∧ i + d.length = p ∧ (d.length ≤ 1 ∨ d.head? ≠ some 48)) (hsp : span t p = []) (hq : q ≤ 4096) : (p = i → numR t i = (0, -1)) ∧ (p ≠ i → numR t i = ((q : Int), (p : Int))) := by
  obtain ⟨d, h1, h2, h3, h4⟩ := H
  rw [hsp, List.append_nil] at h1
  constructor
  · intro e
    have hd : d = [] := List.eq_nil_of_length_eq_zero (by omega)
    exact numR_no fun hh => hh.1.1 (by rw [h1, hd])
  · intro e
    have hne : d ≠ [] := by intro hd; rw [hd] at h3; simp at h3; omega
    rw [numR_fin h1 hne (by omega) h4, h2, h3]

set_option maxHeartbeats 2000000 in
theorem number_b (s : ByteArray) (i : Nat) (hi : i ≤ s.size) (hs : s.size ≤ 1000000) (R : Int × Int) (H : Hid (numR s.data.toList i = R)) (w : World) :
    Calls Tryd.prog 67 #[.string s, .int .i64 i] w fun e w' => e = .returned (.tuple #[.int .i64 R.1, .int .i64 R.2]) ∧ w = w' := by
  obtain ⟨t, ht⟩ : ∃ t, s.data.toList = t := ⟨_, rfl⟩
  have HTL : Hid (t.length = s.size) := by rw [← ht]; exact (Lib.size_eq s).symm
  have HDR : Hid (∀ p, (h : p < s.size) → t.drop p = s[p] :: t.drop (p + 1)) := fun p h => by rw [← ht]; exact lt_drop h
  rw [ht] at H
  clear ht
  go_enter Tryd.func67, Tryd.ntmps67
  go_wp2_with fail
  go_loop [1, 6] (fun u v => ∃ p q : Nat, i ≤ p ∧ p ≤ s.size ∧ q ≤ 4096 ∧ u = .int .i64 p ∧ v = .int .i64 q ∧ Hid (∃ d, span t i = d ++ span t p ∧ val d = q ∧ i + d.length = p ∧ (d.length ≤ 1 ∨ d.head? ≠ some 48))) (fun u _ => s.size - (intOf u).toNat)
  case atStart => exact ⟨i, 0, by omega, hi, by omega, rfl, rfl, ⟨[], rfl, rfl, rfl, .inl (by simp)⟩⟩
  case round =>
    obtain ⟨p, q, hip, hps, hq, rfl, rfl, HD⟩ := hrel
    by_cases hlt : p < s.size
    · have hdrop := HDR.out p hlt
      obtain ⟨c, hc⟩ : ∃ c, s[p] = c := ⟨_, rfl⟩
      have hcs : dig s[p] = dig c := by rw [hc]
      cases hdc : dig c with
      | true =>
        have HSP : Hid (span t p = s[p] :: span t (p + 1)) := span_cons hdrop (by rw [hcs]; exact hdc)
        have hdc' := hdc
        rw [← hcs] at hdc'
        unfold dig at hdc'
        rw [Bool.and_eq_true, decide_eq_true_iff, decide_eq_true_iff] at hdc'
        have hc1 : (48 : Int) ≤ (s[p].toNat : Int) := by omega
        have hc2 : (s[p].toNat : Int) ≤ 57 := by omega
        have hlt' : (p : Int) < (s.size : Int) := by omega
        have hi' : i < s.size := by omega
        obtain ⟨q', hq'⟩ : ∃ q', 10 * q + (s[p].toNat - 48) = q' := ⟨_, rfl⟩
        have HNX : Hid (∃ d, span t i = d ++ span t (p + 1) ∧ val d = q' ∧ i + d.length = p + 1 ∧ (d ≠ []) ∧ (d.head? = some s[i])) := by
          obtain ⟨d, h1, h2, h3, _⟩ := HD.out
          refine ⟨d ++ [s[p]], by rw [h1, HSP.out]; simp, by rw [val_snoc, h2, hq'], by simp; omega, by simp, ?_⟩
          have h5 : (span t i).head? = some s[i] := by
            have hdr := HDR.out i hi'
            have : span t i ≠ [] := by rw [h1, HSP.out]; simp
            unfold span at this ⊢
            rw [hdr] at this ⊢
            rw [List.takeWhile_cons] at this ⊢
            split
            · rfl
            · next hh => rw [if_neg hh] at this; exact absurd rfl this
          rw [h1, HSP.out] at h5
          cases d with
          | nil => exact h5
          | cons a l => exact h5
        have HQ : Hid ((10 : Int) * (q : Int) + (s[p].toNat : Int) - 48 = (q' : Int)) := by show _ = _; omega
        clear hdc hcs hc hdrop hdc' HSP HD hq'
        by_cases hbig : 4096 < q'
        · have hR : R = (0, -1) := by
            obtain ⟨d, h1, h2, _⟩ := HNX.out
            rw [← H.out]; exact numR_big h1 (by omega)
          subst hR
          have hd : decide ((4096 : Int) < (q' : Int)) = true := decide_eq_true (by omega)
          clear HNX H
          go_upto_region 4 with fail
          rw [HQ.out]
          go_wp2_with fail
          go_returns
          exact ⟨rfl, rfl⟩
        have hd : decide ((4096 : Int) < (q' : Int)) = false := decide_eq_false (by omega)
        by_cases hpi : i = p
        · have hd2 : decide ((1 : Int) < (p : Int) + 1 - (i : Int)) = false := decide_eq_false (by omega)
          have HN2 : Hid (∃ d, span t i = d ++ span t (p + 1) ∧ val d = q' ∧ i + d.length = p + 1 ∧ (d.length ≤ 1 ∨ d.head? ≠ some 48)) := by
            obtain ⟨d, h1, h2, h3, _⟩ := HNX.out
            exact ⟨d, h1, h2, h3, .inl (by omega)⟩
          have HPI := Lib.hid hpi
          clear HNX hpi
          go_upto_region 4 with fail
          rw [HQ.out]
          go_wp2_with fail
          go_round
          case rel => exact ⟨p + 1, q', by omega, by omega, by omega, by go_num, rfl, HN2⟩
          case measure => simp [intOf]; omega
        · have hd2 : decide ((1 : Int) < (p : Int) + 1 - (i : Int)) = true := decide_eq_true (by omega)
          by_cases h48 : s[i] = 48
          · have hR : R = (0, -1) := by
              obtain ⟨d, h1, h2, h3, h4, h5⟩ := HNX.out
              rw [← H.out]
              match d, h1, h3, h5 with
              | [], _, _, h5 => cases h5
              | [a], _, h3, _ => simp at h3; omega
              | a :: b :: l, h1, _, h5 =>
                have ha : a = 48 := by rw [← h48]; simpa using h5
                exact numR_zero h1 ha
            subst hR
            have h48' : ((s[i].toNat : Int) == 48) = true := by rw [h48]; rfl
            clear HNX H h48
            go_upto_region 4 with fail
            rw [HQ.out]
            go_wp2_with fail
            go_returns
            exact ⟨rfl, rfl⟩
          · have h48' : ((s[i].toNat : Int) == 48) = false := by
              rw [beq_eq_false_iff_ne]; intro e; exact h48 (byte_48 (by omega))
            have HN2 : Hid (∃ d, span t i = d ++ span t (p + 1) ∧ val d = q' ∧ i + d.length = p + 1 ∧ (d.length ≤ 1 ∨ d.head? ≠ some 48)) := by
              obtain ⟨d, h1, h2, h3, _, h5⟩ := HNX.out
              exact ⟨d, h1, h2, h3, .inr (by rw [h5]; intro e; exact h48 (Option.some.inj e))⟩
            clear HNX h48
            go_upto_region 4 with fail
            rw [HQ.out]
            go_wp2_with fail
            go_round
            case rel => exact ⟨p + 1, q', by omega, by omega, by omega, by go_num, rfl, HN2⟩
            case measure => simp [intOf]; omega
      | false =>
        have hsp : span t p = [] := span_stop hdrop (by rw [hcs]; exact hdc)
        have HE := Lib.hid (num_end HD.out hsp hq)
        have hdc' := hdc
        rw [← hcs] at hdc'
        have hor : (s[p].toNat < 48) ∨ (48 ≤ s[p].toNat ∧ 57 < s[p].toNat) := by
          unfold dig at hdc'
          by_cases h : s[p].toNat < 48
          · exact .inl h
          · right
            rw [decide_eq_true (by omega), Bool.true_and, decide_eq_false_iff_not] at hdc'
            omega
        have hlt' : (p : Int) < (s.size : Int) := by omega
        clear hdc hcs hc hdrop hdc' HD hsp
        by_cases hpi : p = i
        · have hR : R = (0, -1) := by rw [← H.out]; exact HE.out.1 hpi
          subst hR hpi
          clear HE H
          rcases hor with h1 | ⟨h1, h2⟩
          · have hd1 : decide ((48 : Int) ≤ (s[p].toNat : Int)) = false := decide_eq_false (by omega)
            go_wp2_with fail
            go_returns
            exact ⟨rfl, rfl⟩
          · have hd1 : decide ((48 : Int) ≤ (s[p].toNat : Int)) = true := decide_eq_true (by omega)
            have hd2 : decide ((s[p].toNat : Int) ≤ 57) = false := decide_eq_false (by omega)
            go_wp2_with fail
            go_returns
            exact ⟨rfl, rfl⟩
        · have hR : R = ((q : Int), (p : Int)) := by rw [← H.out]; exact HE.out.2 hpi
          subst hR
          have hpi' : ((p : Int) == (i : Int)) = false := by rw [beq_eq_false_iff_ne]; omega
          clear HE H hpi
          rcases hor with h1 | ⟨h1, h2⟩
          · have hd1 : decide ((48 : Int) ≤ (s[p].toNat : Int)) = false := decide_eq_false (by omega)
            go_wp2_with fail
            go_returns
            exact ⟨rfl, rfl⟩
          · have hd1 : decide ((48 : Int) ≤ (s[p].toNat : Int)) = true := decide_eq_true (by omega)
            have hd2 : decide ((s[p].toNat : Int) ≤ 57) = false := decide_eq_false (by omega)
            go_wp2_with fail
            go_returns
            exact ⟨rfl, rfl⟩
    · obtain rfl : p = s.size := by omega
      have hsp : span t s.size = [] := span_end (by rw [HTL.out]; exact Nat.le_refl _)
      have HE := Lib.hid (num_end HD.out hsp hq)
      have hlt' : decide ((s.size : Int) < (s.size : Int)) = false := decide_eq_false (by omega)
      clear HD hsp
      by_cases hpi : s.size = i
      · have hR : R = (0, -1) := by rw [← H.out]; exact HE.out.1 hpi
        have hpi' : ((s.size : Int) == (i : Int)) = true := by rw [beq_iff_eq]; omega
        subst hR
        clear HE H hpi
        go_wp2_with fail
        go_returns
        exact ⟨rfl, rfl⟩
      · have hR : R = ((q : Int), (s.size : Int)) := by rw [← H.out]; exact HE.out.2 hpi
        have hpi' : ((s.size : Int) == (i : Int)) = false := by rw [beq_eq_false_iff_ne]; omega
        subst hR
        clear HE H hpi
        go_wp2_with fail
        go_returns
        exact ⟨rfl, rfl⟩
end Go.Proofs.YtpapbpekihgnlaaDoor
