/-
  Lex by its outcome: the contracts in the form that the statements' walks take.
-/
import Derived.Test.YthenhajgmbanjaaLxK
import Derived.Test.YthenhajgmbanjaaLxQ
namespace Go.Proofs.Ythenhajgmbanjaa
open Go.RowKit

theorem Try.own : ownKnob Try.prog.godebug = none := by kernel_rfl
def OkPost (ts : List Lx.Tok) (n : Nat) (w : World) (e : Ending) (w' : World) : Prop :=
  (∃ A c, e = .returned (.tuple #[.slice A n c, .int .i64 0, .int .i64 0]) ∧ Rd w' 3 A n (tvals ts) ∧ n ≤ c) ∧ Below w.heap.size w w'
def NoPost (a c : Nat) (w : World) (e : Ending) (w' : World) : Prop :=
  (∃ A d, e = .returned (.tuple #[.slice A 0 d, .int .i64 a, .int .i64 c])) ∧ Below w.heap.size w w'
theorem lex_ok (s : ByteArray) (ts : List Lx.Tok) (n : Nat) (w : World) (h : Hid (Lx.lexT s.data.toList = (ts, none))) (hn : Hid (n = ts.length)) (hs : s.size ≤ maxLen) (hm : ML w) :
    Calls Try.prog 11 #[.string s] w (OkPost ts n w) := by
  have hn' : n = ts.length := hn
  refine (lexT_any s w hs hm).mono ?_
  rw [h.out, hn']
  rintro e w' ⟨⟨A, c, rfl, hr⟩, hb⟩
  exact ⟨⟨A, c, rfl, hr⟩, hb⟩
theorem lex_no (s : ByteArray) (ts : List Lx.Tok) (a c : Nat) (w : World) (h : Hid (Lx.lexT s.data.toList = (ts, some (a, c)))) (hs : s.size ≤ maxLen) (hm : ML w) :
    Calls Try.prog 11 #[.string s] w (NoPost a c w) := by
  refine (lexT_any s w hs hm).mono ?_
  rw [h.out]
  rintro e w' ⟨⟨A, d, rfl, hr⟩, hb⟩
  exact ⟨⟨A, d, rfl⟩, hb⟩
theorem rlex_ok (s : ByteArray) (ts : List Lx.Tok) (n : Nat) (w : World) (h : Hid (Lx.lexT s.data.toList = (ts, none))) (hn : Hid (n = ts.length)) (hs : s.size ≤ maxLen) :
    Calls Try.prog 12 #[.string s] w (OkPost ts n w) := by
  have hn' : n = ts.length := hn
  refine (rlexT_any s w hs).mono ?_
  rw [h.out, hn']
  rintro e w' ⟨⟨A, c, rfl, hr⟩, hb⟩
  exact ⟨⟨A, c, rfl, hr⟩, hb⟩
theorem same_n (ts : List Lx.Tok) (n : Nat) (A B : Option Addr) (c d : Nat) (w : World) (hn : Hid (n = ts.length)) (hl : n ≤ 9000) (ha : Rd w 3 A n (tvals ts)) (hb : Rd w 3 B n (tvals ts)) :
    Calls Try.prog 13 #[.slice A n c, .slice B n d] w fun e w' => e = .returned (.bool true) ∧ ∃ q, w' = w.drewN q := by
  have hn' : n = ts.length := hn
  subst hn'
  refine (same_any ts ts A B c d w hl hl ha hb).mono ?_
  rintro e w' ⟨rfl, h⟩
  exact ⟨ret_bool (by simp), h⟩
theorem lexT_cases (l : Lx.Bytes) : (∃ ts, Lx.lexT l = (ts, none)) ∨ ∃ ts a c, Lx.lexT l = (ts, some (a, c)) := by
  obtain ⟨ts, o⟩ := Lx.lexT l
  cases o with
  | none => exact .inl ⟨ts, rfl⟩
  | some x => exact .inr ⟨ts, x.1, x.2, rfl⟩
theorem lexT_pre (l : Lx.Bytes) (ts : List Lx.Tok) (a c : Nat) (h : Lx.lexT l = (ts, some (a, c))) : a ≤ l.length ∧ c ≠ 0 ∧ Lx.lexT (l.take a) = (ts, none) := by
  unfold Lx.lexT at h
  by_cases hl : l.length ≤ 8192
  · rw [if_pos hl] at h
    obtain ⟨_, h2, h3, h4⟩ := Lx.lex_prefix 0 l ts a c h
    refine ⟨by omega, h3, ?_⟩
    unfold Lx.lexT
    rw [if_pos (by rw [List.length_take]; omega)]
    exact h4
  · rw [if_neg hl] at h
    simp only [Prod.mk.injEq, Option.some.injEq] at h
    obtain ⟨rfl, rfl, rfl⟩ := h
    exact ⟨Nat.zero_le _, by decide, rfl⟩
theorem lexT_lex (l : Lx.Bytes) (ts : List Lx.Tok) (h : Lx.lexT l = (ts, none)) : l.length ≤ 8192 ∧ Lx.lex 0 l = (ts, none) := by
  unfold Lx.lexT at h
  split at h
  · rename_i h1; exact ⟨h1, h⟩
  · simp at h
end Go.Proofs.Ythenhajgmbanjaa
