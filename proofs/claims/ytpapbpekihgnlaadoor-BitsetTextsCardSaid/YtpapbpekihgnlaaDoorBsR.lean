/-
  The walk over the reference's Make.
-/
import Derived.Test.YtpapbpekihgnlaaDoorBsM
namespace Go.Proofs.YtpapbpekihgnlaaDoor
open Go.RowKit

/-- A list of flags in memory. -/
structure Fl (W : World) (A : Option Addr) (l c : Nat) (F : Nat → Bool) : Prop where
  cap : l ≤ c
  big : c ≤ maxLen
  mem : 0 < l → ∃ g f, A = some ⟨g, f, none⟩ ∧ g < W.heap.size ∧ ∀ j, j < l → W.cell? ⟨g, f + j, none⟩ = some (.bool (F j))
theorem Fl.below {W W' : World} {A : Option Addr} {l c : Nat} {F : Nat → Bool} (h : Fl W A l c F) (hb : Below W.heap.size W W') : Fl W' A l c F :=
  ⟨h.cap, h.big, fun h0 => by
    obtain ⟨g, f, h1, h2, h3⟩ := h.mem h0
    exact ⟨g, f, h1, Nat.lt_of_lt_of_le h2 hb.size, fun j hj => (hb.cell (p := ⟨g, _, none⟩) h2).trans (h3 j hj)⟩⟩
theorem word_stop (f : Nat → Bool) (i : Nat) (h : ∀ j, i ≤ j → f j = false) : ∀ m, i ≤ m → Bs.word f m = Bs.word f i
  | 0, hm => by rw [show i = 0 by omega]
  | m + 1, hm => by
    by_cases hi : i = m + 1
    · rw [hi]
    · have := word_stop f i h m (by omega)
      show Bs.word f m + (if f m then 2 ^ m else 0) = _
      rw [h m (by omega), this]
      simp
/-- The flags of the word w. -/
def wf (n : Nat) (F : Nat → Bool) (w : Nat) (i : Nat) : Bool := decide (64 * w + i < n) && F (64 * w + i)
theorem mk_tab (n : Nat) (F : Nat → Bool) : Bs.mk n F = Bs.tab ((n + 63) / 64) fun w => Bs.word (wf n F w) 64 := rfl
/-- The first k words. -/
def pre (n : Nat) (F : Nat → Bool) (k : Nat) : List Nat := Bs.tab k fun w => Bs.word (wf n F w) 64
theorem pre_len (n : Nat) (F : Nat → Bool) (k : Nat) : (pre n F k).length = k := Bs.tab_len _ _
theorem pre_succ (n : Nat) (F : Nat → Bool) (k : Nat) : vals (pre n F (k + 1)) = vals (pre n F k) ++ [.int .u64 (Bs.word (wf n F k) 64 : Nat)] := by
  simp [pre, Bs.tab, vals, List.range_succ]

theorem cs_low {W W' : World} {b B : Nat} {vs : List Value} (h : Cs W b vs) (hb : Below B W W') (hl : b < B) : Cs W' b vs :=
  ⟨Nat.lt_of_lt_of_le h.lt hb.size, fun j u hu => (hb.cell (p := ⟨b, j, none⟩) hl).trans (h.cell j u hu), fun j => (hb.frozen (p := ⟨b, j, none⟩) hl).trans (h.free j)⟩
theorem own_other {w : World} {base : Nat} {e : TypeId} {size : Nat} {v : Value} {n : Nat} {xs : List Value} (h : w.ownsRow base e size v n xs) {p : Addr} (hp : p.block < base) (u : Value) : (w.setCell p u).ownsRow base e size v n xs := by
  obtain ⟨h0, h | ⟨g, cap, cur, hv, h1, hh, r⟩⟩ := h
  · exact ⟨h0, .inl h⟩
  · exact ⟨h0, .inr ⟨g, cap, cur, hv, h1, by rw [Below.heap_setCell _ _ _ _ (by omega)]; exact hh, r⟩⟩

set_option maxRecDepth 100000 in
set_option maxHeartbeats 2000000 in
theorem make_b (m : Nat) (A : Option Addr) (c : Nat) (F : Nat → Bool) (hm : m ≤ 4096) (L : Nat) (HL : Hid ((m + 63) / 64 = L)) (w : World) (hf : Fl w A m c F) :
    Calls Tryd.prog 49 #[.slice A m c] w fun e w' => (∃ A' c', e = .returned (.agg #[.int .i64 m, .slice A' L c']) ∧ Ow w' w.heap.size A' L c' (Bs.mk m F)) ∧ Below w.heap.size w w' := by
  have HF := Lib.hid hf
  clear hf
  obtain ⟨i0, hi, hi0, hi1, hi2⟩ := info_parts (P := Tryd.prog) (e := 48) (z := .int .u64 0) (size := 1) (bytes := 8) (by kernel_rfl)
  go_enter Tryd.func49, Tryd.ntmps49
  go_wp2_with fail
  go_loopw [4] (fun v wr => ∃ (k : Nat) (A2 : Option Addr) (c2 : Nat), k ≤ L ∧ v = .int .i64 k ∧ Hid (Cs wr w.heap.size [.int .i64 0, .slice none 0 0]) ∧ Hid (Cs wr (w.heap.size + 1) [.int .i64 m, .slice A2 k c2]) ∧ Hid (wr.ownsRow (w.heap.size + 2) 48 1 (.slice A2 k c2) k (vals (pre m F k))) ∧ Hid (Below w.heap.size w wr)) (fun v _ => L - (intOf v).toNat)
  case atStart => exact ⟨0, none, 0, by omega, rfl, (Cs.new _ _ _).alloc _, Cs.new1 _ _ _ _, ⟨rfl, .inl ⟨rfl, rfl⟩⟩, by show Below _ _ _; go_grown⟩
  case round =>
    obtain ⟨k, A2, c2, hk, rfl, HR, HS, HO, HB⟩ := hrel
    obtain ⟨wo, rfl⟩ : ∃ wo : World, wo = wr := ⟨_, rfl⟩
    by_cases hlt : k < L
    · have hkm : 64 * (k : Int) < (m : Int) := by have := HL.out; omega
      have hkm' : 64 * k < m := by omega
      go_wp2_with fail
      go_loopw [5, 6] (fun a v wr => ∃ i q : Nat, i ≤ 64 ∧ 64 * k + i ≤ m ∧ v = .int .i64 i ∧ a = .int .u64 q ∧ Hid (Bs.word (wf m F k) i = q) ∧ Hid (wr = wo)) (fun _ v _ => 64 - (intOf v).toNat)
      case atStart => exact ⟨0, 0, by omega, by omega, rfl, rfl, rfl, rfl⟩
      case round =>
        obtain ⟨i, q, hi64, him, rfl, rfl, HQ, HWR⟩ := hrel
        have hwr := HWR.out
        subst hwr
        by_cases h64 : i < 64
        · by_cases hin : 64 * k + i < m
          · have hin' : 64 * (k : Int) + (i : Int) < (m : Int) := by omega
            obtain ⟨g, f, hA, hg, hc⟩ := (HF.out.below HB.out).mem (by omega)
            subst hA
            have hcell := hc (64 * k + i) hin
            have hwl := Bs.word_lt (wf m F k) i
            rw [HQ.out] at hwl
            obtain ⟨p, hp⟩ : ∃ p, 2 ^ i = p := ⟨_, rfl⟩
            have hp2 : p ≤ 9223372036854775808 := by rw [← hp]; exact Nat.pow_le_pow_right (by omega) (show i ≤ 63 by omega)
            rw [hp] at hwl
            have HPW := Lib.hid hp
            obtain ⟨x, hx⟩ : ∃ x, F (64 * k + i) = x := ⟨_, rfl⟩
            rw [hx] at hcell
            have hwx : wf m F k i = x := by unfold wf; rw [hx, decide_eq_true hin]; rfl
            have hws : Bs.word (wf m F k) (i + 1) = q + if x then p else 0 := by rw [← hwx, ← HQ.out, ← hp]; rfl
            have HWS := Lib.hid hws
            clear hc hx hwx hws hp HQ
            cases x
            · go_wp2_with fail
              go_roundw
              case rel => exact ⟨i + 1, q, by omega, by omega, by go_num, rfl, HWS, trivial⟩
              case measure => simp [intOf]; omega
            · go_wp2_with fail
              go_at_call 68
              refine (power_b i (by omega) p HPW _).mono ?_
              rintro e w3 ⟨rfl, hww⟩
              subst hww
              go_wp2_with fail
              go_roundw
              case rel => exact ⟨i + 1, q + p, by omega, by omega, by go_num, by go_num, HWS, trivial⟩
              case measure => simp [intOf]; omega
          · have hq : Bs.word (wf m F k) 64 = q := by
              rw [← HQ.out]
              refine word_stop _ i (fun j hj => ?_) 64 (by omega)
              unfold wf
              rw [decide_eq_false (by omega)]
              rfl
            have hwl := Bs.word_lt (wf m F k) 64
            rw [hq] at hwl
            have HQ2 := Lib.hid hq
            have hin' : decide (64 * (k : Int) + (i : Int) < (m : Int)) = false := decide_eq_false (by omega)
            have s1 := HS.out.at 1 _ rfl
            have sf1 := HS.out.free 1
            have hsl := HS.out.lt
            clear HQ hq
            go_wp2_with (at_builtin; (refine wpList_append_own _ rfl _ _ 22 rfl (w.heap.size + 2) 48 i0 (.int .u64 0) 1 8 Tryd.underlying22 hi hi0 hi1 hi2 rfl (by decide) _ k (vals (pre m F k)) rfl (HO.out.alloc _) ⟨wr.heap.size, 0, none⟩ 1 1 [.int .u64 (q : Int)] rfl rfl ?q1 ?q2 ?q3 ?q4 ?q5 ?_))
            try (case q1 => intro j u hj; match j, hj with | 0, hj => simp at hj; subst hj; simp [Addr.add])
            case q2 => first | rfl | (intro u hu; simp at hu; subst hu; rfl)
            case q3 => unfold maxLen; omega
            case q4 => omega
            case q5 => first | omega | (simp; omega)
            intro v' w4 hown4 hgrow _
            have hbel : Below (w.heap.size + 2) wr w4 := ((Below.refl _ wr).alloc (by omega) _).grown hgrow (by simp; omega) (fun q hq => (HO.out.lt q hq).1)
            obtain ⟨A4, c4, rfl⟩ := own_form hown4
            have hvv : vals (pre m F k) ++ [Value.int .u64 (q : Int)] = vals (pre m F (k + 1)) := by rw [pre_succ, HQ2.out]
            rw [hvv] at hown4
            have HO4 := Lib.hid hown4
            have HS4 := Lib.hid (cs_low HS.out hbel (by omega))
            have HR4 := Lib.hid (cs_low HR.out hbel (by omega))
            have HB4 := Lib.hid (HB.out.trans (hbel.mono (by omega)))
            clear hown4 hvv hgrow hbel HO HS HR HB s1 sf1 hsl
            have s1 := HS4.out.at 1 _ rfl
            have sf1 := HS4.out.free 1
            go_wp2_with fail
            go_roundw
            case rel => exact ⟨k + 1, A4, c4, by omega, by go_num, HR4.out.other (by show _ + 1 ≠ _; omega) _, HS4.out.set 1 (.slice A4 (k + 1) c4) (by simp), own_other HO4.out (by show _ + 1 < _; omega) _, HB4.out.setCell (by show _ ≤ _ + 1; omega) _⟩
            case measure => simp [intOf]; omega
        · have hq : Bs.word (wf m F k) 64 = q := by
            rw [← HQ.out, show i = 64 by omega]
          have hwl := Bs.word_lt (wf m F k) 64
          rw [hq] at hwl
          have HQ2 := Lib.hid hq
          have h64' : decide ((i : Int) < 64) = false := decide_eq_false (by omega)
          have s1 := HS.out.at 1 _ rfl
          have sf1 := HS.out.free 1
          have hsl := HS.out.lt
          clear HQ hq
          go_wp2_with (at_builtin; (refine wpList_append_own _ rfl _ _ 22 rfl (w.heap.size + 2) 48 i0 (.int .u64 0) 1 8 Tryd.underlying22 hi hi0 hi1 hi2 rfl (by decide) _ k (vals (pre m F k)) rfl (HO.out.alloc _) ⟨wr.heap.size, 0, none⟩ 1 1 [.int .u64 (q : Int)] rfl rfl ?q1 ?q2 ?q3 ?q4 ?q5 ?_))
          try (case q1 => intro j u hj; match j, hj with | 0, hj => simp at hj; subst hj; simp [Addr.add])
          case q2 => first | rfl | (intro u hu; simp at hu; subst hu; rfl)
          case q3 => unfold maxLen; omega
          case q4 => omega
          case q5 => first | omega | (simp; omega)
          intro v' w4 hown4 hgrow _
          have hbel : Below (w.heap.size + 2) wr w4 := ((Below.refl _ wr).alloc (by omega) _).grown hgrow (by simp; omega) (fun q hq => (HO.out.lt q hq).1)
          obtain ⟨A4, c4, rfl⟩ := own_form hown4
          have hvv : vals (pre m F k) ++ [Value.int .u64 (q : Int)] = vals (pre m F (k + 1)) := by rw [pre_succ, HQ2.out]
          rw [hvv] at hown4
          have HO4 := Lib.hid hown4
          have HS4 := Lib.hid (cs_low HS.out hbel (by omega))
          have HR4 := Lib.hid (cs_low HR.out hbel (by omega))
          have HB4 := Lib.hid (HB.out.trans (hbel.mono (by omega)))
          clear hown4 hvv hgrow hbel HO HS HR HB s1 sf1 hsl
          have s1 := HS4.out.at 1 _ rfl
          have sf1 := HS4.out.free 1
          go_wp2_with fail
          go_roundw
          case rel => exact ⟨k + 1, A4, c4, by omega, by go_num, HR4.out.other (by show _ + 1 ≠ _; omega) _, HS4.out.set 1 (.slice A4 (k + 1) c4) (by simp), own_other HO4.out (by show _ + 1 < _; omega) _, HB4.out.setCell (by show _ ≤ _ + 1; omega) _⟩
          case measure => simp [intOf]; omega
    · obtain rfl : k = L := by omega
      have hkm : ¬ (64 * (k : Int) < (m : Int)) := by have := HL.out; omega
      have hk64 : k ≤ 64 := by have := HL.out; omega
      have s0 := HS.out.at 0 _ rfl
      have s1 := HS.out.at 1 _ rfl
      have r0 := HR.out.at 0 _ rfl
      have r1 := HR.out.at 1 _ rfl
      have f0 := HR.out.free 0
      have f1 := HR.out.free 1
      have hxs : pre m F k = Bs.mk m F := by rw [mk_tab, HL.out]; rfl
      have hown := HO.out
      rw [hxs] at hown
      have hlen : (Bs.mk m F).length = k := by rw [Bs.mk_len, HL.out]
      have hOw : Ow wo (w.heap.size + 2) A2 k c2 (Bs.mk m F) := by
        rw [← hlen] at hown
        rcases own_cs hown with ⟨hv, h0⟩ | ⟨g, c', hv, h1, h2, h3, h4⟩
        · simp only [Value.slice.injEq] at hv
          obtain ⟨rfl, _, rfl⟩ := hv
          have hk0 : k = 0 := by rw [← hlen, h0]; rfl
          exact ⟨hlen, by omega, Nat.zero_le _, Bs.mk_fits m F, fun h => absurd h (by omega)⟩
        · simp only [Value.slice.injEq] at hv
          obtain ⟨rfl, _, rfl⟩ := hv
          exact ⟨hlen, by omega, h4, Bs.mk_fits m F, fun _ => ⟨g, rfl, h1, h2⟩⟩
      have HOw := Lib.hid hOw
      clear hOw hown hxs hlen
      go_wp2_with fail
      obtain ⟨k0, k1⟩ := two_cells HR.out (.int .i64 m) (.slice A2 k c2)
      refine bodyPost_ret (v := .agg #[.int .i64 m, .slice A2 k c2]) (by simp [results, Tryd.results49, go_sem, k0, k1]) rfl ?_
      exact ⟨⟨A2, c2, rfl, ((HOw.out.other (by show w.heap.size < _; omega) _).other (by show w.heap.size < _; omega) _).mono (by omega)⟩, (HB.out.setCell (Nat.le_refl _) _).setCell (Nat.le_refl _) _⟩
end Go.Proofs.YtpapbpekihgnlaaDoor
