/-
  Sets in variables of the statements; the contracts in one form.
-/
import Derived.Test.YtpapbpekihgnlaaDoorBsU
import Derived.Deep.RegionHeld3
namespace Go.Proofs.YtpapbpekihgnlaaDoor
open Go.RowKit

/-- A set in a variable: its block, its size, its words' slice, its words. -/
structure Bo where
  b : Nat
  n : Int
  A : Option Addr
  l : Nat
  c : Nat
  ws : List Nat
structure SB (W : World) (x : Bo) : Prop where
  cs : Cs W x.b [.int .i64 x.n, .slice x.A x.l x.c]
  wd : Wd W x.A x.l x.c x.ws
theorem SB.next {W W' : World} {x : Bo} (h : SB W x) (hb : Below W.heap.size W W') : SB W' x := ⟨h.cs.next hb, h.wd.below hb⟩
def Sets (W : World) : List Bo → Prop
  | [] => True
  | x :: xs => SB W x ∧ Sets W xs
theorem Sets.hd {W : World} {x : Bo} {xs : List Bo} (h : Sets W (x :: xs)) : SB W x := h.1
theorem Sets.tl {W : World} {x : Bo} {xs : List Bo} (h : Sets W (x :: xs)) : Sets W xs := h.2
theorem Sets.next {W W' : World} (hb : Below W.heap.size W W') : ∀ {xs : List Bo}, Sets W xs → Sets W' xs
  | [], _ => trivial
  | _ :: _, h => ⟨h.1.next hb, Sets.next hb h.2⟩
theorem Sets.alloc {W : World} {xs : List Bo} (h : Sets W xs) (o : Obj) : Sets (W.alloc o) xs := h.next ((Below.refl _ _).alloc (Nat.le_refl _) _)
theorem Sets.drew {W : World} {xs : List Bo} (h : Sets W xs) : Sets W.drew xs := h.next (Below.refl _ _).drew
theorem SB.c0 {W : World} {b : Nat} {n : Int} {A : Option Addr} {l c : Nat} {ws : List Nat} (h : SB W ⟨b, n, A, l, c, ws⟩) : W.cell? ⟨b, 0, none⟩ = some (.int .i64 n) := h.cs.at 0 _ rfl
theorem SB.c1 {W : World} {b : Nat} {n : Int} {A : Option Addr} {l c : Nat} {ws : List Nat} (h : SB W ⟨b, n, A, l, c, ws⟩) : W.cell? ⟨b, 1, none⟩ = some (.slice A l c) := h.cs.at 1 _ rfl
/-- What stands behind a call whose result's set has been put into a variable. -/
theorem Sets.push {w0 W w' : World} {xs : List Bo} (h : Sets W xs) (hW : Below w0.heap.size w0 W) {n : Int} {A : Option Addr} {l c : Nat} {ws : List Nat} (hO : Ow w' W.heap.size A l c ws) (hb : Below W.heap.size W w') :
    Sets (w'.alloc (.cells #[.int .i64 n, .slice A l c] 24)) (⟨w'.heap.size, n, A, l, c, ws⟩ :: xs) ∧ Below w0.heap.size w0 (w'.alloc (.cells #[.int .i64 n, .slice A l c] 24)) :=
  ⟨⟨⟨Cs.new _ _ _, hO.wd.below ((Below.refl _ _).alloc (Nat.le_refl _) _)⟩, (h.next hb).alloc _⟩, (hW.trans (hb.mono hW.size)).alloc (hW.trans (hb.mono hW.size)).size _⟩
theorem same_val (n : Int) (ws : List Nat) : (decide (n = n) && decide (ws = ws)) = true := by simp
theorem Zs.nil (W : World) : Zs W none 0 0 [] := ⟨rfl, Nat.le_refl _, Nat.zero_le _, fun h => absurd h (by omega)⟩
theorem new_r (n : Int) (R : Int × List Nat × Int) (H : Hid (ofR n [] = R)) (w : World) :
    Calls Tryd.prog 13 #[.int .i64 n] w fun e w' => Post w R e w' := by
  by_cases h0 : n < 0 ∨ 4096 < n
  · have hR : R = (0, [], 3) := by rw [← H.out]; unfold ofR; rw [if_pos (by rcases h0 with h | h; exact .inl h; exact .inr (.inl h))]
    subst hR
    exact (new_bad n h0 w).mono fun e w' h => post_bad h.1 h.2
  · obtain ⟨m, rfl⟩ : ∃ m : Nat, n = m := ⟨n.toNat, by omega⟩
    have hm : m ≤ 4096 := by omega
    have hR : R = ((m : Int), (Bs.mk m fun _ => false), 0) := by
      rw [← H.out]; unfold ofR; rw [if_neg (by rintro (h | h | ⟨z, hz, _⟩); omega; omega; cases hz), Int.toNat_natCast]
      rfl
    refine (new_b m hm ((m + 63) / 64) rfl w).mono ?_
    rintro e w' ⟨rfl, hc, hb⟩
    rw [hR]
    have hlen : (Bs.mk m fun _ => false).length = (m + 63) / 64 := Bs.mk_len _ _
    have hfit := Bs.mk_fits m fun _ => false
    rw [rep_mk rfl] at hc
    have hL : (m + 63) / 64 ≤ maxLen := by unfold maxLen; omega
    refine ⟨⟨some ⟨w.heap.size + 1, 0, none⟩, (m + 63) / 64, ?_, ?_⟩, hb⟩
    · show _ = Ending.returned (.tuple #[.agg #[_, .slice _ (Bs.mk m fun _ => false).length _], _])
      rw [hlen]
    · show Ow _ _ _ (Bs.mk m fun _ => false).length _ _
      rw [hlen]
      exact ⟨hlen, Nat.le_refl _, hL, hfit, fun _ => ⟨_, rfl, by omega, hc⟩⟩
theorem ofR_len (n : Int) (zs : List Int) : (ofR n zs).2.1.length ≤ 64 := by
  unfold ofR
  split
  · simp
  · simp only [Bs.mk_len]; omega
theorem allR_len (n : Int) : (allR n).2.1.length ≤ 64 := by
  unfold allR
  split
  · simp
  · simp only [Bs.mk_len]; omega
end Go.Proofs.YtpapbpekihgnlaaDoor
