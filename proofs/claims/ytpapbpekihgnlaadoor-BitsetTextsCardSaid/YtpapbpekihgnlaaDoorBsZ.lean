/-
  The walks over the reference's Put, Combine, Complement.
-/
import Derived.Test.YtpapbpekihgnlaaDoorBsY
namespace Go.Proofs.YtpapbpekihgnlaaDoor
open Go.RowKit

/-- Flags in a row of the call's own, cell by cell. -/
theorem OwF.ofCs {W : World} {B g c l : Nat} {F : Nat → Bool} (h : Cs W g (bvals l F)) (hB : B ≤ g) (hc : l ≤ c) (hm : c ≤ maxLen) : OwF W B (some ⟨g, 0, none⟩) l c F := ⟨hc, hm, fun _ => ⟨g, rfl, hB, h⟩⟩

set_option maxHeartbeats 1000000 in
theorem rput_b (n : Int) (A : Option Addr) (l c : Nat) (ws : List Nat) (i : Int) (b : Bool) (R : Int × List Nat × Int) (H : Hid (chR n ws i b = R)) (w : World) (hw : Wd w A l c ws) :
    Calls Tryd.prog 23 #[.agg #[.int .i64 n, .slice A l c], .int .i64 i, .bool b] w fun e w' => Post w R e w' := by
  have HW0 := Lib.hid hw
  clear hw
  obtain ⟨v, hv⟩ : ∃ v, Bs.vld n ws = v := ⟨_, rfl⟩
  have HV := Lib.hid hv
  go_enter Tryd.func23, Tryd.ntmps23
  go_wp2_with fail
  go_at_call 19
  refine (rvalid_b n A l c ws v HV _ ((HW0.out.below (boxS_below w n A l c)).below ((Below.refl _ _).alloc (Nat.le_refl _) _))).mono ?_
  rintro e w2 ⟨rfl, hb⟩
  obtain ⟨hc, hr, hb1⟩ := box2 hb
  have HC := Lib.hid hc
  have HR := Lib.hid hr
  have HB := Lib.hid hb1
  have HW2 := Lib.hid (HW0.out.below HB.out)
  clear hb HV hc hr hb1
  have c0 := HC.out.at 0 _ rfl
  have c1 := HC.out.at 1 _ rfl
  have r0 := HR.out.at 0 _ rfl
  have r1 := HR.out.at 1 _ rfl
  have f0 := HR.out.free 0
  have f1 := HR.out.free 1
  cases v with
  | false =>
    have hR : R = (0, [], 1) := by rw [← H.out]; unfold chR; rw [if_pos hv]
    subst hR
    clear H hv
    go_wp2_with fail
    obtain ⟨k0, k1⟩ := two_cells HR.out (.int .i64 0) (.slice none 0 0)
    refine bodyPost_ret (v := .tuple #[.agg #[.int .i64 0, .slice none 0 0], .int .i64 1]) (by simp [results, Tryd.results23, go_sem, k0, k1]) rfl ?_
    exact post_bad rfl ((HB.out.setCell (by show _ ≤ _ + 1; omega) _).setCell (by show _ ≤ _ + 1; omega) _)
  | true =>
    by_cases h0 : i < 0
    · have hR : R = (0, [], 3) := by rw [← H.out]; unfold chR; rw [if_neg (by rw [hv]; simp), if_pos (.inl h0)]
      subst hR
      clear H hv
      go_wp2_with fail
      obtain ⟨k0, k1⟩ := two_cells HR.out (.int .i64 0) (.slice none 0 0)
      refine bodyPost_ret (v := .tuple #[.agg #[.int .i64 0, .slice none 0 0], .int .i64 3]) (by simp [results, Tryd.results23, go_sem, k0, k1]) rfl ?_
      exact post_bad rfl ((HB.out.setCell (by show _ ≤ _ + 1; omega) _).setCell (by show _ ≤ _ + 1; omega) _)
    obtain ⟨k, rfl⟩ : ∃ k : Nat, i = k := ⟨i.toNat, by omega⟩
    by_cases h1 : n ≤ k
    · have hR : R = (0, [], 3) := by rw [← H.out]; unfold chR; rw [if_neg (by rw [hv]; simp), if_pos (.inr h1)]
      subst hR
      clear H hv h0
      go_wp2_with fail
      obtain ⟨k0, k1⟩ := two_cells HR.out (.int .i64 0) (.slice none 0 0)
      refine bodyPost_ret (v := .tuple #[.agg #[.int .i64 0, .slice none 0 0], .int .i64 3]) (by simp [results, Tryd.results23, go_sem, k0, k1]) rfl ?_
      exact post_bad rfl ((HB.out.setCell (by show _ ≤ _ + 1; omega) _).setCell (by show _ ≤ _ + 1; omega) _)
    · obtain ⟨m, rfl⟩ : ∃ m : Nat, n = m := ⟨n.toNat, by omega⟩
      have hm := Bs.vld_le hv
      have hkm : (k : Int) < (m : Int) := by omega
      have hR : R = ((m : Int), (Bs.mk m fun j => if j = k then b else Bs.bit ws j), 0) := by
        rw [← H.out]; unfold chR
        rw [if_neg (by rw [hv]; simp), if_neg (by omega), Int.toNat_natCast]
        have e : (Bs.mk m fun j => if (j : Int) = (k : Int) then b else Bs.bit ws j) = Bs.mk m fun j => if j = k then b else Bs.bit ws j := by
          refine Bs.mk_congr fun j _ => ?_
          by_cases hj : j = k
          · rw [if_pos hj, if_pos (by omega)]
          · rw [if_neg hj, if_neg (by omega)]
        rw [e]
      clear H hv h0 h1
      go_wp2_with fail
      go_at_call 52
      refine (flags_b m A l c ws hm _ HW2.out).mono ?_
      rintro e w3 ⟨⟨A', c', rfl, hO⟩, hb3⟩
      have HO := Lib.hid (hO.mono (B' := w.heap.size + 2) (by have := HR.out.lt; omega))
      have HR3 := Lib.hid (HR.out.next hb3)
      have HB3 := Lib.hid (HB.out.trans (hb3.mono HB.out.size))
      clear hO hb3 HC HR HB c0 c1 r0 r1 f0 f1
      obtain ⟨g, hA, hg, hcs⟩ := HO.out.mem (by omega)
      subst hA
      have hcell := hcs.at k _ (bvals_get m _ k (by omega))
      have hfz := hcs.free k
      have hgl := hcs.lt
      have hcap := HO.out.cap
      have hbig := HO.out.big
      have HS := Lib.hid (hcs.set k (.bool b) (by rw [bvals_len]; omega))
      rw [bvals_set] at HS
      have HR4 := Lib.hid (HR3.out.other (p := ⟨g, k, none⟩) (by show g ≠ _; omega) (.bool b))
      have HB4 := Lib.hid (HB3.out.setCell (p := ⟨g, k, none⟩) (by show _ ≤ g; omega) (.bool b))
      have HBG := Lib.hid hbig
      have HFL := Lib.hid (OwF.ofCs HS.out (Nat.le_refl g) hcap hbig)
      obtain ⟨L, hL⟩ : ∃ L, (m + 63) / 64 = L := ⟨_, rfl⟩
      have HL := Lib.hid hL
      clear hcs hbig hL HO HR3 HB3
      go_wp2_with fail
      go_at_call 49
      refine (make_b m _ c' _ hm L HL _ HFL.out.fl).mono ?_
      rintro e w5 ⟨⟨A5, c5, rfl, hO5⟩, hb5⟩
      have HR5 := Lib.hid (HR4.out.next hb5)
      have HB5 := Lib.hid (HB4.out.trans (hb5.mono HB4.out.size))
      have HO5 := Lib.hid (hO5.mono (B' := w.heap.size + 2) (by have := HR4.out.lt; omega))
      clear hb5 hO5 HR4 HB4 HS HFL hcell hfz
      have r0 := HR5.out.at 0 _ rfl
      have r1 := HR5.out.at 1 _ rfl
      have f0 := HR5.out.free 0
      have f1 := HR5.out.free 1
      go_wp2_with fail
      obtain ⟨k0, k1⟩ := two_cells HR5.out (.int .i64 m) (.slice A5 L c5)
      refine bodyPost_ret (v := .tuple #[.agg #[.int .i64 m, .slice A5 L c5], .int .i64 0]) (by simp [results, Tryd.results23, go_sem, k0, k1]) rfl ?_
      rw [hR]
      exact fin_set HO5.out (by omega) (by omega) HB5.out _ _
end Go.Proofs.YtpapbpekihgnlaaDoor
