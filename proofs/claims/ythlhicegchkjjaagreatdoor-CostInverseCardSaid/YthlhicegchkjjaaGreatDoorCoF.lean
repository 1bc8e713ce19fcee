/-
  The walks over the checks of arguments.
-/
import Derived.Test.YthlhicegchkjjaaGreatDoorCoE
namespace Go.Proofs.YthlhicegchkjjaaGreatDoor
open Go.RowKit
/-- A list of expressions in memory. -/
def LOk (w : World) (A : Option Addr) (c : Nat) (es : List ET) : Prop := EOk w ⟨#[]⟩ A c es
theorem LOk.below {w w' : World} {A : Option Addr} {c : Nat} {es : List ET} (h : LOk w A c es) (hb : Below w.heap.size w w') : LOk w' A c es := EOk.below h hb
theorem LOk.nil (w : World) : LOk w none 0 [] := ⟨Nat.zero_le _, by simp, Nat.zero_le _, by simp [Kd]⟩
theorem LOk.one {w w0 : World} {g f : Nat} {o n : Int} {s : ByteArray} {A : Option Addr} {c : Nat} {ks : List ET} (hE : EOk w0 s A c ks) (hb : Below w0.heap.size w0 w) (hg : g < w.heap.size)
    (c0 : w.cell? ⟨g, f, none⟩ = some (.int .i64 o)) (c1 : w.cell? ⟨g, f + 1, none⟩ = some (.int .i64 n)) (c2 : w.cell? ⟨g, f + 2, none⟩ = some (.string s)) (c3 : w.cell? ⟨g, f + 3, none⟩ = some (.slice A ks.length c)) : LOk w (some ⟨g, f, none⟩) 1 [.mk o n s ks] := by
  have h := hE.below hb
  refine ⟨Nat.zero_le _, by simp, by unfold maxLen; omega, ?_⟩
  simp only [Kd, KdE, and_true]
  exact ⟨h.1, g, f, A, c, rfl, hg, h.2.1, h.2.2.1, by simpa using c0, by simpa using c1, by simpa using c2, by simpa using c3, h.2.2.2⟩
theorem LOk.two {w w0 : World} {g f : Nat} {o n o' n' : Int} {s s' : ByteArray} {A A' : Option Addr} {c c' cap : Nat} {ks ks' : List ET} (hE : EOk w0 s A c ks) (hE' : EOk w0 s' A' c' ks') (hb : Below w0.heap.size w0 w) (hg : g < w.heap.size) (hcap : 2 ≤ cap) (hcap' : cap ≤ maxLen)
    (c0 : w.cell? ⟨g, f, none⟩ = some (.int .i64 o)) (c1 : w.cell? ⟨g, f + 1, none⟩ = some (.int .i64 n)) (c2 : w.cell? ⟨g, f + 2, none⟩ = some (.string s)) (c3 : w.cell? ⟨g, f + 3, none⟩ = some (.slice A ks.length c))
    (d0 : w.cell? ⟨g, f + 4, none⟩ = some (.int .i64 o')) (d1 : w.cell? ⟨g, f + 5, none⟩ = some (.int .i64 n')) (d2 : w.cell? ⟨g, f + 6, none⟩ = some (.string s')) (d3 : w.cell? ⟨g, f + 7, none⟩ = some (.slice A' ks'.length c')) : LOk w (some ⟨g, f, none⟩) cap [.mk o n s ks, .mk o' n' s' ks'] := by
  have h := hE.below hb
  have h' := hE'.below hb
  refine ⟨Nat.zero_le _, by simpa using hcap, hcap', ?_⟩
  simp only [Kd, KdE, and_true]
  exact ⟨⟨h.1, g, f, A, c, rfl, hg, h.2.1, h.2.2.1, by simpa using c0, by simpa using c1, by simpa using c2, by simpa using c3, h.2.2.2⟩, ⟨h'.1, g, f, A', c', rfl, hg, h'.2.1, h'.2.2.1, by simpa using d0, by simpa using d1, by simpa using d2, by simpa using d3, h'.2.2.2⟩⟩
/-- No expression of a list is large. -/
def Small (es : List ET) : Prop := ∀ (k : Nat) (h : k < es.length), ET.cnt es[k] ≤ 1000000 ∧ ET.dep es[k] ≤ 1000000
theorem CM.codes_next {es : List ET} {k : Nat} (hk : k < es.length) (h : CM.codes (es.take k) = 0) (hc : ET.check es[k] = 0) : CM.codes (es.take (k + 1)) = 0 := by
  rw [ET.take_one es k hk, CM.codes_app, if_pos h]
  simp [CM.codes, hc]
theorem CM.codes_hit {es : List ET} {k : Nat} (hk : k < es.length) (h : CM.codes (es.take k) = 0) (hc : ¬ ET.check es[k] = 0) : CM.codes es = (ET.check es[k] : Int) := by
  have h1 := CM.codes_app (es.take k) (es.drop k)
  rw [List.take_append_drop, if_pos h, ET.dropL es k hk] at h1
  rw [h1]
  simp [CM.codes, hc]
set_option maxHeartbeats 2000000 in
theorem wellf_b (C : CM) (es : List ET) (A : Option Addr) (c l : Nat) (r : Int) (hl : es.length = l) (H : Hid (CM.wf C es = r)) (hS : Small es) (w : World) (hm : ML w) (hE : LOk w A c es) :
    Calls Tryz.prog 34 #[.agg #[.int .i64 C.c0, .int .i64 C.c1, .int .i64 C.c2, .int .i64 C.c3, .int .i64 C.c4, .int .i64 C.c5, .int .i64 C.c6, .int .i64 C.c7, .int .i64 C.c8, .int .i64 C.c9, .int .i64 C.c10, .int .i64 C.c11, .int .i64 C.c12], .slice A l c] w fun e w' => e = .returned (.int .i64 r) ∧ Below w.heap.size w w' := by
  have hlm : l ≤ 9223372036854775807 := by have h1 := hE.2.1; have h2 := hE.2.2.1; unfold maxLen at h2; omega
  have HE := Lib.hid hE
  have HLN := Lib.hid hl
  have HM := Lib.hid hm
  have HSM := Lib.hid hS
  obtain ⟨q, hq⟩ : ∃ q, C.chk = q := ⟨_, rfl⟩
  have HQ := Lib.hid hq
  have hc := CM.chk_cases C
  clear hE hl hm hS hq
  rcases hc with ⟨hc, -⟩ | hc
  · obtain rfl : 0 = q := by rw [← HQ.out, hc]
    have HR : Hid (CM.codes es = r) := by
      show _ = _
      rw [← H.out]; unfold CM.wf; rw [if_pos hc]
    clear hc H
    go_enter Tryz.func34, Tryz.ntmps34
    go_wp2_with fail
    refine (check_b C 0 HQ _).mono ?_
    rintro e w1 ⟨rfl, hb1⟩
    have HB1 := Lib.hid ((boxC_below w C).trans (hb1.mono (boxC_below w C).size))
    clear hb1
    go_wp2_with fail
    go_loopw [13] (fun v wr => ∃ k : Nat, k ≤ l ∧ v = .int .i64 k ∧ Hid (CM.codes (es.take k) = 0) ∧ Hid (Below w.heap.size w wr)) (fun v _ => l - (intOf v).toNat)
    case atStart => exact ⟨0, by omega, rfl, by show _ = _; simp [CM.codes], HB1⟩
    case round =>
      obtain ⟨k, hk, rfl, HK, HB⟩ := hrel
      clear HB1
      by_cases hlt : k < l
      · have hlt' : k < es.length := by have := HLN.out; omega
        obtain ⟨o', n', s', ks', g, f, A', c', hkid, hAA, hg, hok, c0, c1, c2, c3⟩ := (HE.out.below HB.out).kid k hlt'
        obtain ⟨l', hl'⟩ : ∃ l', ks'.length = l' := ⟨_, rfl⟩
        rw [hl'] at c3
        have HL' := Lib.hid hl'
        obtain ⟨x, hx⟩ : ∃ x, ET.check (.mk o' n' s' ks') = x := ⟨_, rfl⟩
        have HX := Lib.hid hx
        have hsm := HSM.out k hlt'
        rw [hkid] at hsm
        have HO := Lib.hid hok
        have HSK := Lib.hid hsm
        have hxk : ET.check es[k] = x := by rw [hkid, hx]
        subst hAA
        by_cases h0 : x = 0
        · have HK1 := Lib.hid (CM.codes_next hlt' HK.out (by rw [hxk, h0]))
          subst h0
          clear HK hl' hx hsm hkid hxk hok hlt'
          go_wp2_with fail
          refine (scheck_b o' n' s' ks' A' c' l' 0 HL'.out HX.out HSK.out.1 HSK.out.2 _ (HM.out.below HM.out.pos (HB.out.alloc HB.out.size _)) (HO.out.below ((Below.refl _ _).alloc (Nat.le_refl _) _))).mono ?_
          rintro e w2 ⟨rfl, hb2⟩
          have HB2 : Hid (Below w.heap.size w w2) := (HB.out.alloc HB.out.size _).trans (hb2.mono (by have := HB.out.size; simp; omega))
          clear hb2 c0 c1 c2 c3 HB
          go_wp2_with fail
          go_roundw
          case rel => exact ⟨k + 1, by omega, by go_num, HK1, HB2⟩
          case measure => simp [intOf]; omega
        · have hr : (x : Int) = r := by rw [← HR.out, CM.codes_hit hlt' HK.out (by rw [hxk]; exact h0), hxk]
          subst hr
          have hx0 : ((x : Int) == 0) = false := by rw [beq_eq_false_iff_ne]; omega
          have hx1 : ((x : Int) != 0) = true := by simp [bne, hx0]
          clear HK hl' hx hsm hkid hxk hok hlt' HR
          go_wp2_with fail
          refine (scheck_b o' n' s' ks' A' c' l' x HL'.out HX.out HSK.out.1 HSK.out.2 _ (HM.out.below HM.out.pos (HB.out.alloc HB.out.size _)) (HO.out.below ((Below.refl _ _).alloc (Nat.le_refl _) _))).mono ?_
          rintro e w2 ⟨rfl, hb2⟩
          have HB2 : Hid (Below w.heap.size w w2) := (HB.out.alloc HB.out.size _).trans (hb2.mono (by have := HB.out.size; simp; omega))
          clear hb2 c0 c1 c2 c3 HB
          go_wp2_with fail
          go_ret
          exact ⟨rfl, HB2.out⟩
      · have hke : k = l := by omega
        have hr : r = 0 := by rw [← HR.out, ← HK.out, hke, ← HLN.out, List.take_length]
        subst hr
        clear HR HK
        go_wp2_with fail
        go_ret
        exact ⟨rfl, HB.out⟩
  · obtain rfl : 3 = q := by rw [← HQ.out, hc]
    have hr : r = 3 := by rw [← H.out]; unfold CM.wf; rw [if_neg (by omega)]
    subst hr
    clear hc H
    go_enter Tryz.func34, Tryz.ntmps34
    go_wp2_with fail
    refine (check_b C 3 HQ _).mono ?_
    rintro e w1 ⟨rfl, hb1⟩
    have HB1 := Lib.hid ((boxC_below w C).trans (hb1.mono (boxC_below w C).size))
    clear hb1
    go_wp2_with fail
    go_ret
    exact ⟨rfl, HB1.out⟩
end Go.Proofs.YthlhicegchkjjaaGreatDoor
