/-
  The walks over All and Of.
-/
import Derived.Test.YtpapbpekihgnlaaDoorBsE
namespace Go.Proofs.YtpapbpekihgnlaaDoor
open Go.RowKit

/-- A set and a code: the size, the words, the code. -/
def Post (w : World) (R : Int × List Nat × Int) (e : Ending) (w' : World) : Prop := (∃ A c, e = .returned (.tuple #[.agg #[.int .i64 R.1, .slice A R.2.1.length c], .int .i64 R.2.2]) ∧ Ow w' w.heap.size A R.2.1.length c R.2.1) ∧ Below w.heap.size w w'
theorem post_bad {w w' : World} {e : Ending} {k : Int} (he : e = .returned (.tuple #[.agg #[.int .i64 0, .slice none 0 0], .int .i64 k])) (hb : Below w.heap.size w w') : Post w (0, [], k) e w' :=
  ⟨⟨none, 0, he, rfl, Nat.le_refl _, Nat.zero_le _, fun j => by simp, fun h => absurd h (by show ¬ 0 < 0; omega)⟩, hb⟩
theorem rep_mk {m L : Nat} (h : (m + 63) / 64 = L) : List.replicate L 0 = Bs.mk m fun _ => false := by
  rw [← Bs.zero_mk, h]
  unfold Bs.tab
  rw [List.map_const', List.length_range]

theorem two_cells {W : World} {b : Nat} {a0 a1 : Value} (h : Cs W b [a0, a1]) (v0 v1 : Value) :
    (W.setCell ⟨b, 0, none⟩ v0).cell? ⟨b, 0, none⟩ = some v0 ∧ ((W.setCell ⟨b, 0, none⟩ v0).setCell ⟨b, 1, none⟩ v1).cell? ⟨b, 1, none⟩ = some v1 :=
  ⟨World.cell?_setCell_same W _ v0 (h.at 0 _ rfl), World.cell?_setCell_same _ _ v1 ((h.set 0 v0 (by simp)).at 1 _ rfl)⟩

set_option maxHeartbeats 1000000 in
theorem all_bad (n : Int) (h : n < 0 ∨ 4096 < n) (w : World) :
    Calls Tryd.prog 14 #[.int .i64 n] w fun e w' => e = .returned (.tuple #[.agg #[.int .i64 0, .slice none 0 0], .int .i64 3]) ∧ Below w.heap.size w w' := by
  have HH := Lib.hid h
  clear h
  go_enter Tryd.func14, Tryd.ntmps14
  go_wp2_with fail
  go_at_call 13
  refine (new_bad n HH.out _).mono ?_
  rintro e w2 ⟨rfl, hb⟩
  have HB := Lib.hid (Below.trans ((Below.refl _ _).alloc (Nat.le_refl _) _) (hb.mono (by simp)))
  have HR := Lib.hid (Cs.next (Cs.new w #[.int .i64 0, .slice none 0 0] 24) hb)
  clear hb
  have hs := HB.out.size
  have r0 := HR.out.at 0 _ rfl
  have r1 := HR.out.at 1 _ rfl
  have f0 := HR.out.free 0
  have f1 := HR.out.free 1
  have hlt := HR.out.lt
  go_wp2_with fail
  obtain ⟨k0, k1⟩ := two_cells HR.out (.int .i64 0) (.slice none 0 0)
  refine bodyPost_ret (v := .tuple #[.agg #[.int .i64 0, .slice none 0 0], .int .i64 3]) (by simp [results, Tryd.results14, go_sem, k0, k1, hlt]) rfl ⟨rfl, ?_⟩
  exact ((HB.out.setCell (Nat.le_refl _) _).setCell (Nat.le_refl _) _).alloc (by simp; omega) _

set_option maxHeartbeats 1000000 in
theorem all_b (m : Nat) (h : m ≤ 4096) (w : World) :
    Calls Tryd.prog 14 #[.int .i64 m] w fun e w' => Post w (m, Bs.mk m fun _ => true, 0) e w' := by
  obtain ⟨L, hL⟩ : ∃ L, (m + 63) / 64 = L := ⟨_, rfl⟩
  have HL := Lib.hid hL
  clear hL
  go_enter Tryd.func14, Tryd.ntmps14
  go_wp2_with fail
  go_at_call 13
  refine (new_b m h L HL _).mono ?_
  rintro e w2 ⟨rfl, hc, hb⟩
  have HB := Lib.hid (Below.trans ((Below.refl _ _).alloc (Nat.le_refl _) _) (hb.mono (by simp)))
  have HR := Lib.hid (Cs.next (Cs.new w #[.int .i64 0, .slice none 0 0] 24) hb)
  have hc' : Cs w2 (w.heap.size + 1 + 1) (vals (List.replicate L 0)) := by simpa using hc
  clear hb hc
  have hs := HB.out.size
  have r0 := HR.out.at 0 _ rfl
  have r1 := HR.out.at 1 _ rfl
  have f0 := HR.out.free 0
  have f1 := HR.out.free 1
  have hlt := HR.out.lt
  have HC := Lib.hid hc'
  clear hc'
  go_wp2_with fail
  have hz := rep_mk HL.out
  have hv : Bs.vld m (List.replicate L 0) = true := by rw [hz]; exact Bs.mk_vld m _ h
  have hf : Bs.fits (List.replicate L 0) := by rw [hz]; exact Bs.mk_fits m _
  have hl6 : L ≤ 64 := by have := HL.out; omega
  have hwd := Wd.ofCs (c := L) HC.out (by simp) (by unfold maxLen; omega) hf
  rw [List.length_replicate] at hwd
  refine (invert_b m _ L L (List.replicate L 0) hv _ (hwd.below ((Below.refl _ _).alloc (Nat.le_refl _) _))).mono ?_
  rintro e w3 ⟨⟨A', c', rfl, hO⟩, hb3⟩
  have hmk : (Bs.mk m fun i => !Bs.bit (List.replicate L 0) i) = Bs.mk m fun _ => true := by
    refine Bs.mk_congr fun i _ => ?_
    rw [hz, Bs.mk_bit]
    simp
  rw [hmk] at hO
  have HB3 := Lib.hid ((HB.out.alloc HB.out.size _).trans (hb3.mono (by have := HB.out.size; simp; omega)))
  have HR3 := Lib.hid ((HR.out.alloc _).next hb3)
  have HO := Lib.hid (hO.mono (B' := w.heap.size + 1) (by simp; omega))
  clear hO hb3 hwd hv hf HC HR r0 r1 f0 f1 hz hmk
  have r0 := HR3.out.at 0 _ rfl
  have r1 := HR3.out.at 1 _ rfl
  have f0 := HR3.out.free 0
  have f1 := HR3.out.free 1
  go_wp2_with fail
  obtain ⟨k0, k1⟩ := two_cells HR3.out (.int .i64 m) (.slice A' L c')
  refine bodyPost_ret (v := .tuple #[.agg #[.int .i64 m, .slice A' L c'], .int .i64 0]) (by simp [results, Tryd.results14, go_sem, k0, k1]) rfl ?_
  refine ⟨⟨A', c', ?_, ?_⟩, (HB3.out.setCell (Nat.le_refl _) _).setCell (Nat.le_refl _) _⟩
  · show _ = Ending.returned (.tuple #[.agg #[_, .slice A' (Bs.mk m fun _ => true).length c'], _])
    rw [Bs.mk_len, HL.out]
  · show Ow _ _ A' (Bs.mk m fun _ => true).length c' _
    rw [Bs.mk_len, HL.out]
    exact ((HO.out.other (by show w.heap.size < _; omega) _).other (by show w.heap.size < _; omega) _).mono (by omega)
end Go.Proofs.YtpapbpekihgnlaaDoor
