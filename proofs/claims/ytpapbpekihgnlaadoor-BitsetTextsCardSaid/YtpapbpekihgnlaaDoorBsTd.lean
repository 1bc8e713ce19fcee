/-
  The walk over the reference's Text.
-/
import Derived.Test.YtpapbpekihgnlaaDoorBsTc
namespace Go.Proofs.YtpapbpekihgnlaaDoor
open Go.RowKit Tx

theorem bytes_ext {a b : ByteArray} (h : a.data.toList = b.data.toList) : a = b := by
  obtain ⟨⟨l⟩⟩ := a
  obtain ⟨⟨m⟩⟩ := b
  simp at h
  rw [h]
theorem bytes_app (a b : ByteArray) : (a ++ b).data.toList = a.data.toList ++ b.data.toList := by
  rw [ByteArray.data_append, Array.toList_append]
theorem bytes_size (a : ByteArray) : a.size = a.data.toList.length := Lib.size_eq a

set_option maxHeartbeats 2000000 in
theorem rtext_b (n : Int) (A : Option Addr) (l c : Nat) (ws : List Nat) (r : ByteArray) (H : Hid (r.data.toList = textR n ws)) (w : World) (hw : Wd w A l c ws) :
    Calls Tryd.prog 44 #[.agg #[.int .i64 n, .slice A l c]] w fun e w' => e = .returned (.string r) ∧ Below w.heap.size w w' := by
  have HW := Lib.hid hw
  clear hw
  obtain ⟨v, hv⟩ : ∃ v, Bs.vld n ws = v := ⟨_, rfl⟩
  have HV := Lib.hid hv
  go_enter Tryd.func44, Tryd.ntmps44
  go_wp2_with fail
  go_at_call 19
  refine (rvalid_b n A l c ws v HV _ (HW.out.below (boxS_below w n A l c))).mono ?_
  rintro e w2 ⟨rfl, hb⟩
  have HC := Lib.hid ((boxS_cs w n A l c).next hb)
  have HB := Lib.hid ((boxS_below w n A l c).trans (hb.mono (by simp [boxS])))
  clear hb HV
  have c0 := HC.out.at 0 _ rfl
  have c1 := HC.out.at 1 _ rfl
  cases v with
  | false =>
    have hr : r = ⟨#[]⟩ := bytes_ext (by rw [H.out]; unfold textR; rw [if_neg (by rw [hv]; simp)])
    subst hr
    clear H hv
    go_wp2_with fail
    go_ret
    exact ⟨rfl, HB.out⟩
  | true =>
    obtain ⟨m, rfl⟩ : ∃ m : Nat, n = m := ⟨n.toNat, by have := (Bs.vld_iff.1 hv).1; omega⟩
    have hn := Bs.vld_le hv
    obtain ⟨ms, hms⟩ : ∃ ms, membR m ws = ms := ⟨_, rfl⟩
    have HMS := Lib.hid hms
    have hmlt : ∀ k ∈ ms, k < 4096 := by rw [← hms]; exact fun k hk => memb_lt hk
    have hmlen : ms.length ≤ 4096 := by rw [← hms]; exact membR_len _ _
    have hr : r.data.toList = ([123] ++ parts ms ms.length) ++ [125, 47] ++ Lib.decDigits m := by rw [H.out]; unfold textR; rw [if_pos hv, hms, Int.toNat_natCast]
    have HR := Lib.hid hr
    have HML := Lib.hid hmlt
    have HPL := Lib.hid (parts_len ms fun k hk => Nat.lt_trans (hmlt k hk) (by decide))
    clear H hv hms hmlt hr
    go_wp2_with fail
    go_at_call 36
    refine (rmembers_b m A l c ws ms HMS _ (HW.out.below HB.out)).mono ?_
    rintro e w4 ⟨⟨A4, c4, rfl, hO4⟩, hb4⟩
    have HZ := Lib.hid (own_zs hO4).2
    have HC4 := Lib.hid (HC.out.next hb4)
    have HB4 := Lib.hid (HB.out.trans (hb4.mono HB.out.size))
    clear hO4 hb4 HC HB c0 c1
    obtain ⟨L, hL⟩ : ∃ L, ms.length = L := ⟨_, rfl⟩
    rw [hL] at HZ hmlen HR
    rw [hL]
    have HL := Lib.hid hL
    clear hL
    go_wp2_with fail
    go_loopw [3, 5] (fun u v wr => ∃ (k : Nat) (x : ByteArray), k ≤ L ∧ v = .int .i64 k ∧ u = .string x ∧ x.size ≤ 30000 ∧ Hid (x.data.toList = [123] ++ parts ms k) ∧ Hid (Zs wr A4 L c4 (ints ms)) ∧ Hid (Cs wr w.heap.size [.int .i64 m, .slice A l c]) ∧ Hid (Below w.heap.size w wr)) (fun _ v _ => L - (intOf v).toNat)
    case atStart => exact ⟨0, ⟨#[123]⟩, by omega, rfl, rfl, by decide, rfl, HZ, HC4, HB4⟩
    case round =>
      clear HZ HC4 HB4
      obtain ⟨k, x, hk, rfl, rfl, hxs, HX, HZ, HC, HB⟩ := hrel
      by_cases hlt : k < L
      · obtain ⟨g, f, hA, hg, hzc⟩ := HZ.out.mem (by omega)
        subst hA
        have hcell := hzc k hlt
        obtain ⟨y, hy⟩ : ∃ y, ms.getD k 0 = y := ⟨_, rfl⟩
        have hix : (ints ms).getD k 0 = (y : Int) := by
          rw [← hy]
          simp [ints, List.getD_eq_getElem?_getD, show k < ms.length by rw [HL.out]; exact hlt]
        rw [hix] at hcell
        have hym : y < 4096 := by
          refine HML.out y ?_
          rw [← hy, List.getD_eq_getElem?_getD, List.getElem?_eq_getElem (show k < ms.length by rw [HL.out]; exact hlt)]
          exact List.getElem_mem _
        obtain ⟨d, hd⟩ : ∃ d : ByteArray, d = ⟨(Lib.decDigits y).toArray⟩ := ⟨_, rfl⟩
        have hds : d.size ≤ 7 := by rw [hd]; exact dec_seven y (by omega)
        have HD := Lib.hid hd
        have hpk := HPL.out (k + 1)
        have hlt' : (k : Int) < (L : Int) := by omega
        have hdl : d.data.toList = Lib.decDigits y := by rw [hd]
        by_cases hk0 : k = 0
        · have hkd : decide ((0 : Int) < (k : Int)) = false := decide_eq_false (by omega)
          have hk0' : ¬ ((0 : Int) < (k : Int)) := by omega
          obtain ⟨z, hz⟩ : ∃ z : ByteArray, z = x ++ d := ⟨_, rfl⟩
          have HZL : Hid (z.data.toList = [123] ++ parts ms (k + 1)) := by
            show _ = _
            rw [hz, bytes_app, HX.out, hdl]
            simp only [parts, hy, if_neg (show ¬ 0 < k by omega)]
            simp
          have hzs : z.size ≤ 30000 := by rw [bytes_size, HZL.out, List.length_append]; show 1 + _ ≤ _; omega
          have had : ∀ wx, (Op.stringOp .add x d).run Tryd.prog wx = .ok (.string z) wx := fun wx => by
            rw [hz]; exact run_string_add_sum _ _ _ (by omega)
          clear hd hix hzc hy hz hdl hpk hk0 hkd
          go_wp2_with fail
          go_at_call 62
          refine (digits_b y y (Nat.le_refl _) (by omega) d HD _).mono ?_
          rintro e w5 ⟨rfl, hb⟩
          have HZ5 := Lib.hid (HZ.out.below hb)
          have HC5 := Lib.hid (HC.out.next hb)
          have HB5 := Lib.hid (HB.out.trans (hb.mono HB.out.size))
          clear hb HZ HC HB
          go_wp2_with fail
          go_roundw
          case rel => exact ⟨k + 1, z, by omega, by go_num, rfl, hzs, HZL, HZ5, HC5, HB5⟩
          case measure => simp [intOf]; omega
        · have hkd : decide ((0 : Int) < (k : Int)) = true := decide_eq_true (by omega)
          have hk1 : (0 : Int) < (k : Int) := by omega
          obtain ⟨x2, hx2⟩ : ∃ z : ByteArray, z = x ++ ⟨#[44, 32]⟩ := ⟨_, rfl⟩
          have hx2s : x2.size ≤ 30002 := by rw [hx2, bytes_size, bytes_app, List.length_append, ← bytes_size]; show _ + 2 ≤ _; omega
          obtain ⟨z, hz⟩ : ∃ z : ByteArray, z = x2 ++ d := ⟨_, rfl⟩
          have HZL : Hid (z.data.toList = [123] ++ parts ms (k + 1)) := by
            show _ = _
            rw [hz, hx2, bytes_app, bytes_app, HX.out, hdl]
            simp only [parts, hy, if_pos (show 0 < k by omega)]
            simp
          have hzs : z.size ≤ 30000 := by rw [bytes_size, HZL.out, List.length_append]; show 1 + _ ≤ _; omega
          have had1 : ∀ wx, (Op.stringOp .add x ⟨#[44, 32]⟩).run Tryd.prog wx = .ok (.string x2) wx := fun wx => by
            rw [hx2]; exact run_string_add_sum _ _ _ (by show _ + 2 ≤ _; omega)
          have had : ∀ wx, (Op.stringOp .add x2 d).run Tryd.prog wx = .ok (.string z) wx := fun wx => by
            rw [hz]; exact run_string_add_sum _ _ _ (by omega)
          clear hd hix hzc hy hz hdl hpk hx2
          go_wp2_with fail
          go_at_call 62
          refine (digits_b y y (Nat.le_refl _) (by omega) d HD _).mono ?_
          rintro e w5 ⟨rfl, hb⟩
          have HZ5 := Lib.hid (HZ.out.below hb)
          have HC5 := Lib.hid (HC.out.next hb)
          have HB5 := Lib.hid (HB.out.trans (hb.mono HB.out.size))
          clear hb HZ HC HB
          go_wp2_with fail
          go_roundw
          case rel => exact ⟨k + 1, z, by omega, by go_num, rfl, hzs, HZL, HZ5, HC5, HB5⟩
          case measure => simp [intOf]; omega
      · obtain rfl : k = L := by omega
        have c0 := HC.out.at 0 _ rfl
        obtain ⟨x2, hx2⟩ : ∃ z : ByteArray, z = x ++ ⟨#[125, 47]⟩ := ⟨_, rfl⟩
        have hx2s : x2.size ≤ 30002 := by rw [hx2, bytes_size, bytes_app, List.length_append, ← bytes_size]; show _ + 2 ≤ _; omega
        obtain ⟨d, hd⟩ : ∃ d : ByteArray, d = ⟨(Lib.decDigits m).toArray⟩ := ⟨_, rfl⟩
        have hds : d.size ≤ 7 := by rw [hd]; exact dec_seven m (by omega)
        have HD := Lib.hid hd
        have hr : r = x2 ++ d := bytes_ext (by rw [bytes_app, hx2, bytes_app, HX.out, HR.out, hd])
        have had1 : ∀ wx, (Op.stringOp .add x ⟨#[125, 47]⟩).run Tryd.prog wx = .ok (.string x2) wx := fun wx => by
          rw [hx2]; exact run_string_add_sum _ _ _ (by show _ + 2 ≤ _; omega)
        have had : ∀ wx, (Op.stringOp .add x2 d).run Tryd.prog wx = .ok (.string r) wx := fun wx => by
          rw [hr]; exact run_string_add_sum _ _ _ (by omega)
        clear hd hx2 hr
        go_wp2_with fail
        go_at_call 62
        refine (digits_b m m (Nat.le_refl _) (by omega) d HD _).mono ?_
        rintro e w5 ⟨rfl, hb⟩
        have HB5 := Lib.hid (HB.out.trans (hb.mono HB.out.size))
        clear hb HZ HC HB c0
        go_wp2_with fail
        go_ret
        exact ⟨rfl, HB5.out⟩
end Go.Proofs.YtpapbpekihgnlaaDoor
