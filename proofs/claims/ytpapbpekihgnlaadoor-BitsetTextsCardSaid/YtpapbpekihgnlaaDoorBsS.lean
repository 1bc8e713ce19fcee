/-
  The walks over the reference's Flags, Of and All.
-/
import Derived.Test.YtpapbpekihgnlaaDoorBsR
namespace Go.Proofs.YtpapbpekihgnlaaDoor
open Go.RowKit

/-- l flags as values. -/
def bvals (l : Nat) (F : Nat → Bool) : List Value := (List.range l).map fun i => Value.bool (F i)
theorem bvals_len (l : Nat) (F : Nat → Bool) : (bvals l F).length = l := by simp [bvals]
theorem bvals_get (l : Nat) (F : Nat → Bool) (j : Nat) (h : j < l) : (bvals l F)[j]? = some (.bool (F j)) := by simp [bvals, h]
theorem bvals_succ (l : Nat) (F : Nat → Bool) : bvals (l + 1) F = bvals l F ++ [.bool (F l)] := by simp [bvals, List.range_succ]
theorem bvals_set (l : Nat) (F : Nat → Bool) (i : Nat) (b : Bool) : (bvals l F).set i (.bool b) = bvals l fun k => if k = i then b else F k := by
  refine List.ext_getElem (by simp [bvals]) fun j h1 h2 => ?_
  rw [List.getElem_set]
  by_cases h : i = j
  · subst h; simp [bvals]
  · rw [if_neg h]; simp [bvals, show ¬ j = i by omega]
theorem bvals_congr {l : Nat} {F G : Nat → Bool} (h : ∀ i, i < l → F i = G i) : bvals l F = bvals l G := by
  unfold bvals
  refine List.map_congr_left fun i hi => ?_
  rw [h i (List.mem_range.1 hi)]
/-- A list of flags in a row of the call's own. -/
structure OwF (W : World) (B : Nat) (A : Option Addr) (l c : Nat) (F : Nat → Bool) : Prop where
  cap : l ≤ c
  big : c ≤ maxLen
  mem : 0 < l → ∃ g, A = some ⟨g, 0, none⟩ ∧ B ≤ g ∧ Cs W g (bvals l F)
theorem OwF.fl {W : World} {B : Nat} {A : Option Addr} {l c : Nat} {F : Nat → Bool} (h : OwF W B A l c F) : Fl W A l c F :=
  ⟨h.cap, h.big, fun h0 => by
    obtain ⟨g, rfl, _, hc⟩ := h.mem h0
    exact ⟨g, 0, rfl, hc.lt, fun j hj => by rw [Nat.zero_add]; exact hc.at j _ (bvals_get l F j hj)⟩⟩
theorem OwF.below {W W' : World} {B : Nat} {A : Option Addr} {l c : Nat} {F : Nat → Bool} (h : OwF W B A l c F) (hb : Below W.heap.size W W') : OwF W' B A l c F :=
  ⟨h.cap, h.big, fun h0 => by
    obtain ⟨g, h1, h2, h3⟩ := h.mem h0
    exact ⟨g, h1, h2, h3.next hb⟩⟩
theorem OwF.mono {W : World} {B B' : Nat} {A : Option Addr} {l c : Nat} {F : Nat → Bool} (h : OwF W B A l c F) (hb : B' ≤ B) : OwF W B' A l c F :=
  ⟨h.cap, h.big, fun h0 => by
    obtain ⟨g, h1, h2, h3⟩ := h.mem h0
    exact ⟨g, h1, Nat.le_trans hb h2, h3⟩⟩
theorem OwF.congr {W : World} {B : Nat} {A : Option Addr} {l c : Nat} {F G : Nat → Bool} (h : OwF W B A l c F) (e : ∀ i, i < l → F i = G i) : OwF W B A l c G :=
  ⟨h.cap, h.big, fun h0 => by
    obtain ⟨g, h1, h2, h3⟩ := h.mem h0
    exact ⟨g, h1, h2, by rw [← bvals_congr e]; exact h3⟩⟩
theorem own_owf {w : World} {base : Nat} {e : TypeId} {A : Option Addr} {l c : Nat} {F : Nat → Bool} (h : w.ownsRow base e 1 (.slice A l c) l (bvals l F)) : OwF w base A l c F := by
  obtain ⟨_, h | ⟨g, cap, cur, hv, hb, hh, h1, h2, h3, h4⟩⟩ := h
  · obtain ⟨h, rfl⟩ := h
    cases h
    exact ⟨Nat.le_refl _, Nat.zero_le _, fun h => absurd h (by omega)⟩
  · cases hv
    refine ⟨h1, h2, fun _ => ⟨g, rfl, hb, ?_, fun j u hu => ?_, fun j => ?_⟩⟩
    · rcases Nat.lt_or_ge g w.heap.size with hl | hl
      · exact hl
      · rw [Array.getElem?_eq_none hl] at hh; cases hh
    · rw [← h4, List.getElem?_take] at hu
      split at hu
      · rw [Array.getElem?_toList] at hu
        simp [World.cell?, hh, hu]
      · cases hu
    · simp [World.frozen?, hh]
theorem make_bools (p : Nat) (hp : p ≤ 4096) (w : World) : (Instr.makeSlice 51 (.int .i64 p) (.int .i64 p)).run Tryd.prog w = .ok (.slice (some ⟨w.heap.size, 0, none⟩) p p) (w.alloc (.cells (bvals p fun _ => false).toArray 4)) := by
  obtain ⟨i, hi, hz0, hz1, hz2⟩ := info_parts (P := Tryd.prog) (e := 4) (z := .bool false) (size := 1) (bytes := 1) (by kernel_rfl)
  have h := run_make (P := Tryd.prog) w 51 4 i (.bool false) Tryd.underlying51 hi hz0 .i64 .i64 (p : Int) (p : Int) (by omega) (by omega) (by rw [hz2]; omega) (by omega)
  rw [h, hz1, Int.toNat_natCast]
  have e : madeCells (Value.bool false).cells (p * 1) = (bvals p fun _ => false).toArray := by
    refine Array.ext (by simp [madeCells, bvals]) fun k h1 h2 => ?_
    simp [madeCells, bvals, Value.cells, Nat.mod_one]
  rw [e]

set_option maxHeartbeats 1000000 in
theorem flags_b (m : Nat) (A : Option Addr) (l c : Nat) (ws : List Nat) (hm : m ≤ 4096) (w : World) (hw : Wd w A l c ws) :
    Calls Tryd.prog 52 #[.agg #[.int .i64 m, .slice A l c]] w fun e w' => (∃ A' c', e = .returned (.slice A' m c') ∧ OwF w' w.heap.size A' m c' (Bs.bit ws)) ∧ Below w.heap.size w w' := by
  have HW := Lib.hid hw
  clear hw
  obtain ⟨i0, hi, hi0, hi1, hi2⟩ := info_parts (P := Tryd.prog) (e := 4) (z := .bool false) (size := 1) (bytes := 1) (by kernel_rfl)
  go_enter Tryd.func52, Tryd.ntmps52
  go_wp2_with fail
  go_loopw [3, 4] (fun a v wr => ∃ (k : Nat) (A2 : Option Addr) (c2 : Nat), k ≤ m ∧ v = .int .i64 k ∧ a = .slice A2 k c2 ∧ Hid (Cs wr w.heap.size [.int .i64 m, .slice A l c]) ∧ Hid (wr.ownsRow (w.heap.size + 1) 4 1 (.slice A2 k c2) k (bvals k (Bs.bit ws))) ∧ Hid (Below w.heap.size w wr)) (fun _ v _ => m - (intOf v).toNat)
  case atStart =>
    refine ⟨0, some ⟨w.heap.size + 1, 0, none⟩, 0, by omega, rfl, rfl, (boxS_cs w m A l c).alloc _, ?_, (boxS_below w m A l c).alloc (boxS_below w m A l c).size _⟩
    have := World.ownsRow_made (boxS w m A l c) #[] 0 (e := 4) (size := 1) (base := w.heap.size + 1) (by simp [boxS]) (Nat.zero_le _) rfl
    exact Lib.hid (by simpa [boxS, bvals] using this)
  case round =>
    obtain ⟨k, A2, c2, hk, rfl, rfl, HS, HO, HB⟩ := hrel
    have s0 := HS.out.at 0 _ rfl
    have s1 := HS.out.at 1 _ rfl
    have hsl := HS.out.lt
    by_cases hlt : k < m
    · obtain ⟨x, hx⟩ : ∃ x, Bs.bit ws k = x := ⟨_, rfl⟩
      have HX := Lib.hid hx
      have HW2 := Lib.hid (HW.out.below HB.out)
      have hk6 : k ≤ 1000000 := by omega
      clear hx
      go_wp2_with fail
      go_at_call 50
      refine (bit_b A l c ws k hk6 _ HX _ HW2.out).mono ?_
      rintro e w3 ⟨rfl, q, hq⟩
      have hbq : Below wr.heap.size wr w3 := by rw [hq]; exact below_drewN (Below.refl _ _) q
      clear hq
      have HO3 := Lib.hid (own_below HO.out hbq)
      have HS3 := Lib.hid (HS.out.next hbq)
      have HB3 := Lib.hid (HB.out.trans (hbq.mono HB.out.size))
      have hsl3 := HS3.out.lt
      clear hbq HO HS HB s0 s1
      go_wp2_with (at_builtin; (refine wpList_append_own _ rfl _ _ 51 rfl (w.heap.size + 1) 4 i0 (.bool false) 1 1 Tryd.underlying51 hi hi0 hi1 hi2 rfl (by decide) _ k (bvals k (Bs.bit ws)) rfl (HO3.out.alloc _) ⟨w3.heap.size, 0, none⟩ 1 1 [.bool x] rfl rfl ?q1 ?q2 ?q3 ?q4 ?q5 ?_))
      try (case q1 => intro j u hj; match j, hj with | 0, hj => simp at hj; subst hj; simp [Addr.add])
      case q2 => first | rfl | (intro u hu; simp at hu; subst hu; rfl)
      case q3 => unfold maxLen; omega
      case q4 => omega
      case q5 => first | omega | (simp; omega)
      intro v' w4 hown4 hgrow _
      have hbel : Below (w.heap.size + 1) w3 w4 := ((Below.refl _ w3).alloc (by omega) _).grown hgrow (by simp; omega) (fun q hq => (HO3.out.lt q hq).1)
      obtain ⟨A4, c4, rfl⟩ := own_form hown4
      have hvv : bvals k (Bs.bit ws) ++ [Value.bool x] = bvals (k + 1) (Bs.bit ws) := by rw [bvals_succ, HX.out]
      rw [hvv] at hown4
      have HO4 := Lib.hid hown4
      have HS4 := Lib.hid (cs_low HS3.out hbel (by omega))
      have HB4 := Lib.hid (HB3.out.trans (hbel.mono (by omega)))
      clear hown4 hvv hgrow hbel HO3 HS3 HB3
      go_wp2_with fail
      go_roundw
      case rel => exact ⟨k + 1, A4, c4, by omega, by go_num, rfl, HS4, HO4, HB4⟩
      case measure => simp [intOf]; omega
    · obtain rfl : k = m := by omega
      go_wp2_with fail
      go_ret
      exact ⟨⟨A2, c2, rfl, (own_owf HO.out).mono (by omega)⟩, HB.out⟩
end Go.Proofs.YtpapbpekihgnlaaDoor
