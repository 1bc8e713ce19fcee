/-
  The first example of the chapter, and the first statement: LexerTokens.
-/
import Derived.Test.YthenhajgmbanjaaLxI
import Derived.Test.YthenhajgmbanjaaRows
import Derived.ProofKit
import Derived.HandedShaped
namespace Go.Proofs.Ythenhajgmbanjaa
open Go.RowKit

def ex1 : Lx.Bytes := [97, 49, 32, 61, 32, 50, 48, 46, 46, 120, 59, 32, 35, 32, 101, 110, 100]
def ex1r : List Lx.Tok := [⟨0, [97, 49], 0⟩, ⟨3, [61], 3⟩, ⟨1, [50, 48], 5⟩, ⟨3, [46, 46], 7⟩, ⟨0, [120], 9⟩, ⟨3, [59], 10⟩]
theorem ex1_lex : Lx.lex 0 ex1 = (ex1r, none) := by decide +kernel
theorem ex2_lex : Lx.lex 0 [97, 32, 38, 32, 98] = ([⟨0, [97], 0⟩], some (2, 6)) := by decide +kernel

theorem lex_ex1 (w : World) (hm : ML w) : Calls Try.prog 11 #[.string ⟨#[97, 49, 32, 61, 32, 50, 48, 46, 46, 120, 59, 32, 35, 32, 101, 110, 100]⟩] w fun e w' =>
    (∃ g c, e = .returned (.tuple #[.slice (some ⟨g, 0, none⟩) 6 c, .int .i64 0, .int .i64 0]) ∧ g < w'.heap.size ∧
      (w'.cell? ⟨g, 6, none⟩ = some (.int .i64 1) ∧ w'.cell? ⟨g, 7, none⟩ = some (.string ⟨#[50, 48]⟩) ∧ w'.cell? ⟨g, 8, none⟩ = some (.int .i64 5)) ∧
      (w'.cell? ⟨g, 9, none⟩ = some (.int .i64 3) ∧ w'.cell? ⟨g, 10, none⟩ = some (.string ⟨#[46, 46]⟩) ∧ w'.cell? ⟨g, 11, none⟩ = some (.int .i64 7))) ∧ Below w.heap.size w w' := by
  refine (lex_any _ w (by decide) hm).mono ?_
  rintro e w' ⟨⟨A, c, rfl, hr, _⟩, hb⟩
  have e1 : Lx.lex 0 (⟨#[97, 49, 32, 61, 32, 50, 48, 46, 46, 120, 59, 32, 35, 32, 101, 110, 100]⟩ : ByteArray).data.toList = (ex1r, none) := ex1_lex
  rw [e1] at hr ⊢
  obtain ⟨g, rfl, hg, hc⟩ := hr.2 (by decide)
  exact ⟨⟨g, c, rfl, hg, ⟨hc 6 _ rfl, hc 7 _ rfl, hc 8 _ rfl⟩, hc 9 _ rfl, hc 10 _ rfl, hc 11 _ rfl⟩, hb⟩
theorem lex_ex2 (w : World) (hm : ML w) : Calls Try.prog 11 #[.string ⟨#[97, 32, 38, 32, 98]⟩] w fun e w' =>
    (∃ A c, e = .returned (.tuple #[.slice A 0 c, .int .i64 2, .int .i64 6])) ∧ Below w.heap.size w w' := by
  refine (lex_any _ w (by decide) hm).mono ?_
  rintro e w' ⟨⟨A, c, rfl, hr, _⟩, hb⟩
  have e1 : Lx.lex 0 (⟨#[97, 32, 38, 32, 98]⟩ : ByteArray).data.toList = _ := ex2_lex
  rw [e1]
  exact ⟨⟨A, c, rfl⟩, hb⟩
theorem known_any (w : World) (hm : ML w) :
    Calls Try.prog 10 #[] w fun e w' => e = .returned (.bool true) ∧ Below w.heap.size w w' := by
  have hmp := hm.pos
  go_enter Try.func10, Try.ntmps10
  go_wp2_with fail
  refine (lex_ex1 _ hm).mono ?_
  rintro e w1 ⟨⟨g, c, rfl, hg, ⟨c1, c2, c3⟩, c4, c5, c6⟩, hb1⟩
  have hm1 := hm.below hmp hb1
  go_wp2_with fail
  refine (lex_ex2 _ hm1).mono ?_
  rintro e w2 ⟨⟨A, d, rfl⟩, hb2⟩
  rw [← hb2.cell (p := ⟨g, 6, none⟩) hg] at c1
  rw [← hb2.cell (p := ⟨g, 7, none⟩) hg] at c2
  rw [← hb2.cell (p := ⟨g, 8, none⟩) hg] at c3
  rw [← hb2.cell (p := ⟨g, 9, none⟩) hg] at c4
  rw [← hb2.cell (p := ⟨g, 10, none⟩) hg] at c5
  rw [← hb2.cell (p := ⟨g, 11, none⟩) hg] at c6
  have hbb := Lib.hid (hb1.trans (hb2.mono hb1.size))
  have hg1 := tokGuard
  have hg2 := tokHeld
  clear hb1 hb2 hm1 hm
  go_wp2_with fail
  go_ret
  exact ⟨rfl, hbb.out⟩

theorem below_drewN {B : Nat} {a w : World} (h : Below B a w) (q : Nat) : Below B a (w.drewN q) := ⟨h.os, h.tape, h.output, h.size, h.block⟩
theorem lexT_any (s : ByteArray) (w : World) (hs : s.size ≤ maxLen) (hm : ML w) :
    Calls Try.prog 11 #[.string s] w (LexPost (Lx.lexT s.data.toList) w) := by
  unfold maxLen at hs
  by_cases h : s.size ≤ 8192
  · have e : Lx.lexT s.data.toList = Lx.lex 0 s.data.toList := by unfold Lx.lexT; rw [if_pos (by rw [len_at]; exact h)]
    rw [e]
    exact lex_any s w h hm
  · have e : Lx.lexT s.data.toList = ([], some (0, 5)) := by unfold Lx.lexT; rw [if_neg (by rw [len_at]; exact h)]
    rw [e]
    clear e
    go_enter Try.func11, Try.ntmps11
    go_wp2_with fail
    go_ret3
    exact lexPost_err _ w _ [] 0 5 rfl (Below.refl _ _)
theorem rlexT_any (s : ByteArray) (w : World) (hs : s.size ≤ maxLen) :
    Calls Try.prog 12 #[.string s] w (LexPost (Lx.lexT s.data.toList) w) := by
  unfold maxLen at hs
  by_cases h : s.size ≤ 8192
  · have e : Lx.lexT s.data.toList = Lx.lex 0 s.data.toList := by unfold Lx.lexT; rw [if_pos (by rw [len_at]; exact h)]
    rw [e]
    exact rlex_any s w h
  · have e : Lx.lexT s.data.toList = ([], some (0, 5)) := by unfold Lx.lexT; rw [if_neg (by rw [len_at]; exact h)]
    rw [e]
    clear e
    go_enter Try.func12, Try.ntmps12
    go_wp2_with fail
    go_ret3
    exact lexPost_err _ w _ [] 0 5 rfl (Below.refl _ _)
theorem resToks_len (l : Lx.Bytes) : (resToks (Lx.lexT l)).length ≤ l.length := by
  have := Lx.lexT_len l
  unfold resToks
  split
  · exact this
  · simp
end Go.Proofs.Ythenhajgmbanjaa
