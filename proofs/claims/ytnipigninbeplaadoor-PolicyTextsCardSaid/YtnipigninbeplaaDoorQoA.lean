/-
  The walks over tokens and over the closure in it.
-/
import Derived.Test.YtnipigninbeplaaDoorPoT
import Derived.Test.YtnipigninbeplaaDoorPoY
import Derived.Test.YtnipigninbeplaaDoorPE
import Derived.Deep.AppendLies
import Derived.Deep.DeepCutAuto
import Derived.BigRegion
import Derived.Deep.RegionLaw
namespace Go.Proofs.YtnipigninbeplaaDoor
open Go.RowKit

theorem svals_app (a b : List ByteArray) : svals (a ++ b) = svals a ++ svals b := by simp [svals]
theorem svals_len (a : List ByteArray) : (svals a).length = a.length := by simp [svals]
/-- What has been read of a line: the tokens, and the word that is being read. -/
structure Tk (w W : World) (V : Value) (out : List ByteArray) (c : ByteArray) : Prop where
  bel : Below w.heap.size w W
  co : Cs W w.heap.size [V]
  cw : Cs W (w.heap.size + 1) [.string c]
  own : W.ownsRow (w.heap.size + 2) 9 1 V out.length (svals out)
  lt : w.heap.size + 2 ≤ W.heap.size
theorem Tk.next {w W W' : World} {V : Value} {out : List ByteArray} {c : ByteArray} (h : Tk w W V out c) (hb : Below W.heap.size W W') : Tk w W' V out c :=
  ⟨h.bel.trans (hb.mono h.bel.size), h.co.next hb, h.cw.next hb, own_fr h.own (Fr.of (S := fun _ => False) hb) (fun _ _ h => h), Nat.le_trans h.lt hb.size⟩
theorem Tk.word {w W : World} {V : Value} {out : List ByteArray} {c : ByteArray} (h : Tk w W V out c) (d : ByteArray) : Tk w (W.setCell ⟨w.heap.size + 1, 0, none⟩ (.string d)) V out d :=
  ⟨h.bel.setCell (by simp) _, h.co.other (by simp) _, h.cw.set 0 _ (by simp), own_fr h.own (Fr.setCell (S := (· = w.heap.size + 1)) (Fr.refl _ _) (p := ⟨w.heap.size + 1, 0, none⟩) rfl _) (fun k hk hs => by have := (h.own.lt k hk).1; omega), by have := h.lt; simp; omega⟩
/-- A token is appended. -/
theorem Tk.push {w W W2 : World} {V : Value} {out : List ByteArray} {c s : ByteArray} {g cap : Nat} (T : TypeId) (h : Tk w W V out c) (hg : (W.alloc (.cells #[.string s] T)).grownBy W2 V.ownBlock)
    (ho : W2.ownsRow (w.heap.size + 2) 9 1 (.slice (some ⟨g, 0, none⟩) (out.length + 1) cap) (out.length + 1) (svals out ++ [.string s])) :
    Tk w (W2.setCell ⟨w.heap.size, 0, none⟩ (.slice (some ⟨g, 0, none⟩) (out.length + 1) cap)) (.slice (some ⟨g, 0, none⟩) (out.length + 1) cap) (out ++ [s]) c := by
  have hs2 := hg.size
  have hlt := h.lt
  have hsa : (W.alloc (.cells #[.string s] T)).heap.size = W.heap.size + 1 := by simp
  have hown : ∀ k, V.ownBlock = some k → w.heap.size + 2 ≤ k := fun k hk => (h.own.lt k hk).1
  have hb2 : Below w.heap.size w W2 := (h.bel.alloc (by omega) (.cells #[.string s] T)).grown hg (by omega) (fun q hq => by have := hown q hq; omega)
  have e : svals (out ++ [s]) = svals out ++ [.string s] := by simp [svals]
  refine ⟨hb2.setCell (by simp) _, ?_, ?_, ?_, by simp; omega⟩
  · have h1 := cs_grown (h.co.alloc (.cells #[.string s] T)) hg (fun e => by have := hown _ e; omega)
    exact h1.set 0 _ (by simp)
  · exact (cs_grown (h.cw.alloc (.cells #[.string s] T)) hg (fun e => by have := hown _ e; omega)).other (by simp) _
  · rw [e, List.length_append]
    exact own_fr ho (Fr.setCell (S := (· = w.heap.size)) (Fr.refl _ _) (p := ⟨w.heap.size, 0, none⟩) rfl _) (fun k hk hs => by have := (ho.lt k hk).1; omega)
/-- What flush leaves: the word is among the tokens, if there is one. -/
def flu (out : List ByteArray) (c : ByteArray) : List ByteArray := if c.size = 0 then out else out ++ [c]
def FluRes (w : World) (out : List ByteArray) (c : ByteArray) (e : Ending) (W' : World) : Prop := e = .returned (.tuple #[]) ∧ ∃ V', Tk w W' V' (flu out c) ⟨#[]⟩

set_option maxHeartbeats 2000000 in
theorem flush_b (w W : World) (V : Value) (out : List ByteArray) (c : ByteArray) (h : Tk w W V out c) (hl : out.length ≤ 20000) :
    Calls Tryd.prog 83 #[.pointer (some ⟨w.heap.size + 1, 0, none⟩), .pointer (some ⟨w.heap.size, 0, none⟩)] W fun e W' => FluRes w out c e W' := by
  have HT := Lib.hid h
  have c0 := h.co.at 0 _ rfl
  have c1 := h.cw.at 0 _ rfl
  have f0 := h.co.free 0
  have f1 := h.cw.free 0
  have hlt := h.lt
  clear h
  by_cases h0 : c.size = 0
  · have he : c = ⟨#[]⟩ := by
      obtain ⟨d⟩ := c
      have : d.size = 0 := h0
      rw [Array.size_eq_zero_iff] at this
      rw [this]
    subst he
    go_enter Tryd.func83, Tryd.ntmps83
    go_wp2_with fail
    go_returns
    exact ⟨rfl, V, HT.out⟩
  · have hne : c.toList.isEmpty = false := by
      rw [Bool.eq_false_iff]
      intro h
      rw [List.isEmpty_iff, toList_nil_iff] at h
      exact h0 h
    have hne2 : (c.toList == ([] : List UInt8)) = false := by
      rw [beq_eq_false_iff_ne]
      intro h
      rw [toList_nil_iff] at h
      exact h0 h
    obtain ⟨i0, hi0, hz0, hz1, hz2⟩ := info_parts (P := Tryd.prog) (e := 9) (z := .string ⟨#[]⟩) (size := 1) (bytes := 16) (by kernel_rfl)
    have HIN := Lib.hid (And.intro hi0 (And.intro hz0 (And.intro hz1 hz2)))
    have hown : ∀ k, V.ownBlock = some k → w.heap.size + 2 ≤ k := fun k hk => (HT.out.own.lt k hk).1
    have HOWN := Lib.hid hown
    clear hi0 hz0 hz1 hz2 hown
    go_enter Tryd.func83, Tryd.ntmps83
    go_wp2_with (at_builtin; (refine wpList_append_lies _ rfl _ _ 22 rfl (w.heap.size + 2) 9 i0 (.string ⟨#[]⟩) 1 16 Tryd.underlying22 HIN.out.1 HIN.out.2.1 HIN.out.2.2.1 HIN.out.2.2.2 rfl (by decide) V out.length (svals out) rfl (own_fr HT.out.own (Fr.of (S := fun _ => False) ((Below.refl _ _).alloc (Nat.le_refl _) _)) (fun _ _ h => h)) ⟨W.heap.size, 0, none⟩ 1 1 [.string c] rfl rfl ?q1 ?q2 (by decide) ?q3 ?q4 ?q5 (W.heap.size + 1) ?q6 ?_))
    case q1 =>
      intro j u hj
      match j, hj with
      | 0, hj => simp at hj; subst hj; simp [Addr.add]
    case q2 => intro u hu; simp at hu; subst hu; rfl
    case q3 => unfold maxLen; omega
    case q4 => omega
    case q5 => simp; omega
    case q6 => simp
    intro g1 cap w2 hown2 hgrow _ _
    have HT2 := Lib.hid (HT.out.push _ hgrow hown2)
    have e0 := (cs_grown (HT.out.co.alloc (.cells #[.string c] 9)) hgrow (fun e => by have := HOWN.out _ e; omega)).at 0 _ rfl
    have q0 := (cs_grown (HT.out.co.alloc (.cells #[.string c] 9)) hgrow (fun e => by have := HOWN.out _ e; omega)).free 0
    have d1 := HT2.out.cw.at 0 _ rfl
    have g1' := HT2.out.cw.free 0
    clear hown2 hgrow c0 c1 f0 f1
    go_wp2_with fail
    go_returns
    refine ⟨rfl, .slice (some ⟨g1, 0, none⟩) (out.length + 1) cap, ?_⟩
    unfold flu
    rw [if_neg h0]
    exact HT2.out.word ⟨#[]⟩
theorem flu_eq (out : List ByteArray) (c : ByteArray) (r : List ByteArray) : out ++ flushW c.data.toList r = flu out c ++ r := by
  unfold flu flushW
  by_cases h : c.size = 0
  · have : c.data.toList = [] := List.eq_nil_of_length_eq_zero (by rw [← bsize_len]; exact h)
    rw [if_pos h, if_pos this]
  · have hn : ¬ c.data.toList = [] := fun e => h (by rw [bsize_len, e]; rfl)
    rw [if_neg h, if_neg hn]
    have e : (⟨c.data.toList.toArray⟩ : ByteArray) = c := rfl
    rw [e]
    simp
theorem own_nok {W : World} {B l c : Nat} {A : Option Addr} {xs : List ByteArray} (h : W.ownsRow B 9 1 (.slice A l c) l (svals xs)) (hx : ∀ x ∈ xs, x.size ≤ maxLen) : NOk W A l c xs := by
  have hl : xs.length = l := by have := h.1; rw [svals_len] at this; omega
  rcases h.2 with ⟨hv, hn⟩ | ⟨g, cap, cur, hv, _, hg, hnc, hcm, _, _⟩
  · simp only [Value.slice.injEq] at hv
    obtain ⟨rfl, rfl, rfl⟩ := hv
    exact ⟨hl, Nat.le_refl _, Nat.zero_le _, hx, fun h0 => absurd h0 (by omega)⟩
  · simp only [Value.slice.injEq] at hv
    obtain ⟨rfl, _, rfl⟩ := hv
    refine ⟨hl, hnc, hcm, hx, fun _ => ⟨g, 0, rfl, (Array.getElem?_eq_some_iff.1 hg).1, fun j hj => ?_⟩⟩
    rw [h.cellAt (0 + j) (by omega), Nat.zero_add]
    unfold svals
    rw [List.getElem?_map, List.getElem?_eq_getElem hj]
    rfl
theorem drop_byte (s : ByteArray) (i : Nat) (h : i < s.size) : s.data.toList.drop i = s[i] :: s.data.toList.drop (i + 1) := by
  have hl : i < s.data.toList.length := by rw [← bsize_len]; exact h
  rw [List.drop_eq_getElem_cons hl]
  rfl
theorem byte_piece (s : ByteArray) (i : Nat) (h : i < s.size) : (s.extract i (i + 1)).data.toList = [s[i]] := by
  rw [Lib.extract_data, drop_byte s i h]
  simp
theorem slice_piece (s : ByteArray) (i : Nat) (h : i < s.size) (wx : World) : (Instr.slice 9 (.string s) (some (.int .i64 (i : Int))) (some (.int .i64 ((i : Int) + 1))) none).run Tryd.prog wx = .ok (.string (s.extract i (i + 1))) wx := by
  have := run_slice_string (P := Tryd.prog) (w := wx) 9 s .i64 .i64 (i : Int) ((i : Int) + 1) Tryd.underlying9 (by omega) (by omega) (by omega)
  rw [show ((i : Int) + 1).toNat = i + 1 by omega, Int.toNat_natCast] at this
  exact this
theorem u8_32 {c : UInt8} (h : c.toNat = 32) : c = 32 := UInt8.toNat_inj.1 (h.trans rfl)
theorem u8_44 {c : UInt8} (h : c.toNat = 44) : c = 44 := UInt8.toNat_inj.1 (h.trans rfl)
theorem u8_60 {c : UInt8} (h : c.toNat = 60) : c = 60 := UInt8.toNat_inj.1 (h.trans rfl)
/-- What tokens hands back. -/
def TokRes (w : World) (o : Option (List ByteArray)) (e : Ending) (w' : World) : Prop :=
  Below w.heap.size w w' ∧ match o with
    | none => e = .returned (.tuple #[.slice none 0 0, .bool false])
    | some r => ∃ (A : Option Addr) (c : Nat), e = .returned (.tuple #[.slice A r.length c, .bool true]) ∧ NOk w' A r.length c r ∧ ∀ a, A = some a → w.heap.size ≤ a.block
theorem flu_len (out : List ByteArray) (c : ByteArray) : (flu out c).length ≤ out.length + 1 := by unfold flu; split <;> simp
theorem flu_mem {out : List ByteArray} {c : ByteArray} {n : Nat} (h : ∀ x ∈ out, x.size ≤ n) (hc : c.size ≤ n) : ∀ x ∈ flu out c, x.size ≤ n := by
  unfold flu
  split
  · exact h
  · intro x hx
    rcases List.mem_append.1 hx with hx | hx
    · exact h x hx
    · rw [List.mem_singleton] at hx; rw [hx]; exact hc

set_option maxRecDepth 100000 in
set_option maxHeartbeats 4000000 in
theorem tokens_b (s : ByteArray) (o : Option (List ByteArray)) (H : Hid (tokS [] s.data.toList = o)) (hs : s.size ≤ 9000) (w : World) :
    Calls Tryd.prog 57 #[.string s] w fun e w' => TokRes w o e w' := by
  have hsm : s.size ≤ 9223372036854775807 := by omega
  have HR0 : Hid ((tokS (⟨#[]⟩ : ByteArray).data.toList (s.data.toList.drop 0)).map (([] : List ByteArray) ++ ·) = o) := by
    show _ = _
    rw [List.drop_zero, ← H.out]
    have : (fun x => ([] : List ByteArray) ++ x) = id := by funext x; rfl
    rw [this, Option.map_id]
    rfl
  have HT0 : Hid (Tk w ((w.alloc (.cells #[.slice none 0 0] 22)).alloc (.cells #[.string ⟨#[]⟩] 9)) (.slice none 0 0) [] ⟨#[]⟩) := by
    have hc := Cs.new (w.alloc (.cells #[.slice none 0 0] 22)) #[.string ⟨#[]⟩] 9
    have e : (w.alloc (.cells #[.slice none 0 0] 22)).heap.size = w.heap.size + 1 := by simp
    rw [e] at hc
    exact Lib.hid ⟨((Below.refl _ _).alloc (Nat.le_refl _) _).alloc (by simp) _, (Cs.new w _ _).alloc _, hc, World.ownsRow_nil _ _ _ _, by simp⟩
  obtain ⟨i0, hi0, hz0, hz1, hz2⟩ := info_parts (P := Tryd.prog) (e := 9) (z := .string ⟨#[]⟩) (size := 1) (bytes := 16) (by kernel_rfl)
  have HIN := Lib.hid (And.intro hi0 (And.intro hz0 (And.intro hz1 hz2)))
  clear H hi0 hz0 hz1 hz2
  go_enter Tryd.func57, Tryd.ntmps57
  go_wp2_with fail
  go_loopw [12] (fun v wr => ∃ (i : Nat) (V : Value) (out : List ByteArray) (c : ByteArray), i ≤ s.size ∧ v = .int .i64 i ∧ Hid (Tk w wr V out c) ∧ Hid ((tokS c.data.toList (s.data.toList.drop i)).map (out ++ ·) = o) ∧ Hid (out.length ≤ 2 * i ∧ c.size ≤ i ∧ ∀ x ∈ out, x.size ≤ s.size)) (fun v _ => s.size - (intOf v).toNat)
  case atStart => exact ⟨0, _, _, _, Nat.zero_le _, rfl, HT0, HR0, Lib.hid ⟨Nat.zero_le _, Nat.zero_le _, fun x hx => by cases hx⟩⟩
  case round =>
    obtain ⟨i, V, out, c, hi, rfl, HT, HR, HO⟩ := hrel
    clear HT0 HR0
    by_cases hit : i < s.size
    · have hit' : (i : Int) < (s.size : Int) := by omega
      have hi0 : (0 : Int) ≤ (i : Int) := by omega
      have hi1 : (i : Int) + 1 ≤ (s.size : Int) := by omega
      have HDR := Lib.hid (drop_byte s i hit)
      obtain ⟨d, hd⟩ : ∃ d, s.extract i (i + 1) = d := ⟨_, rfl⟩
      have HDB : Hid (d.data.toList = [s[i]]) := Lib.hid (by rw [← hd]; exact byte_piece s i hit)
      have hsl : ∀ wx, (Instr.slice 9 (.string s) (some (.int .i64 (i : Int))) (some (.int .i64 ((i : Int) + 1))) none).run Tryd.prog wx = .ok (.string d) wx := fun wx => by rw [← hd]; exact slice_piece s i hit wx
      have hlt2 := HT.out.lt
      have c0 := HT.out.co.at 0 _ rfl
      have c1 := HT.out.cw.at 0 _ rfl
      have f0 := HT.out.co.free 0
      have f1 := HT.out.cw.free 0
      clear hd
      obtain ⟨b1, hb1⟩ : ∃ z, wordc s[i] = z := ⟨_, rfl⟩
      have HB1 : Hid (wordc s[i] = b1) := hb1
      clear hb1
      cases b1 with
      | true =>
        obtain ⟨c2, hc2⟩ := mk_bytes (c.data.toList ++ [s[i]])
        have hadd : ∀ wx, (Op.stringOp .add c d).run Tryd.prog wx = .ok (.string c2) wx := add_fact _ _ _ (by rw [hc2, HDB.out]) (by rw [hc2, List.length_append, ← bsize_len]; have := HO.out.2.1; simp; omega)
        have HR2 : Hid ((tokS c2.data.toList (s.data.toList.drop (i + 1))).map (out ++ ·) = o) := by
          have h := HR.out
          rw [HDR.out, tokS, if_pos HB1.out, ← hc2] at h
          exact Lib.hid h
        have HO2 : Hid (out.length ≤ 2 * (i + 1) ∧ c2.size ≤ i + 1 ∧ ∀ x ∈ out, x.size ≤ s.size) := Lib.hid ⟨by have := HO.out.1; omega, by rw [bsize_len, hc2, List.length_append, ← bsize_len]; have := HO.out.2.1; simp; omega, HO.out.2.2⟩
        clear HR HO hc2
        go_upto_region 10 with (first | (go_at_call 70; refine (wordByte_b s[i] true HB1 _).mono ?_; rintro e w1 ⟨rfl, rfl⟩) | fail)
        go_region
        go_wp2_with fail
        go_roundw
        case rel => exact ⟨i + 1, V, out, c2, by omega, by go_num, Lib.hid ((HT.out.word c2).next (Below.refl _ _).drew), HR2, HO2⟩
        case measure => simp [intOf]; omega
      | false =>
        by_cases h32 : s[i].toNat = 32
        · have h32b : s[i] = 32 := u8_32 h32
          have HH32 := Lib.hid h32
          clear h32
          have HR2 : Hid ((tokS (⟨#[]⟩ : ByteArray).data.toList (s.data.toList.drop (i + 1))).map (flu out c ++ ·) = o) := by
            have h := HR.out
            rw [HDR.out, tokS, if_neg (by rw [HB1.out]; decide), if_pos h32b, Option.map_map] at h
            have e : ((out ++ ·) ∘ flushW c.data.toList) = (flu out c ++ ·) := by funext r; exact flu_eq out c r
            rw [e] at h
            exact Lib.hid h
          have HO2 : Hid ((flu out c).length ≤ 2 * (i + 1) ∧ (⟨#[]⟩ : ByteArray).size ≤ i + 1 ∧ ∀ x ∈ flu out c, x.size ≤ s.size) := Lib.hid ⟨by have := HO.out.1; have := flu_len out c; omega, Nat.zero_le _, flu_mem HO.out.2.2 (by have := HO.out.2.1; omega)⟩
          have hol : out.length ≤ 20000 := by have := HO.out.1; omega
          clear HR HO h32b
          go_upto_region 11 with (first | (go_at_call 70; refine (wordByte_b s[i] false HB1 _).mono ?_; rintro e w1 ⟨rfl, rfl⟩) | fail)
          have h32i : (s[i].toNat : Int) = 32 := by have := HH32.out; omega
          go_wp2_with (first | (go_at_call 83; refine (flush_b w _ V out c HT.out hol).mono ?_; rintro e w5 ⟨rfl, V5, hT5⟩; have HT5 := Lib.hid hT5; clear hT5) | fail)
          go_roundw
          case rel => exact ⟨i + 1, V5, _, _, by omega, by go_num, HT5, HR2, HO2⟩
          case measure => simp [intOf]; omega
        have h32i : ¬ (s[i].toNat : Int) = 32 := by omega
        have h32b : ¬ s[i] = 32 := fun e => h32 (by rw [e]; rfl)
        by_cases hsg : s[i].toNat = 44 ∨ s[i].toNat = 60
        · have hsgb : s[i] = 44 ∨ s[i] = 60 := by rcases hsg with h | h; exact .inl (u8_44 h); exact .inr (u8_60 h)
          have hdd : (⟨#[s[i]]⟩ : ByteArray) = d := bytes_eq HDB.out.symm
          have HR2 : Hid ((tokS (⟨#[]⟩ : ByteArray).data.toList (s.data.toList.drop (i + 1))).map ((flu out c ++ [d]) ++ ·) = o) := by
            have h := HR.out
            rw [HDR.out, tokS, if_neg (by rw [HB1.out]; decide), if_neg h32b, if_pos hsgb, Option.map_map] at h
            have e : ((out ++ ·) ∘ fun r => flushW c.data.toList (⟨#[s[i]]⟩ :: r)) = ((flu out c ++ [d]) ++ ·) := by
              funext r
              show out ++ flushW c.data.toList (⟨#[s[i]]⟩ :: r) = _
              rw [flu_eq, hdd]
              simp
            rw [e] at h
            exact Lib.hid h
          have hdz : d.size = 1 := by rw [bsize_len, HDB.out]; rfl
          have HO2 : Hid ((flu out c ++ [d]).length ≤ 2 * (i + 1) ∧ (⟨#[]⟩ : ByteArray).size ≤ i + 1 ∧ ∀ x ∈ flu out c ++ [d], x.size ≤ s.size) := Lib.hid ⟨by have := HO.out.1; have := flu_len out c; rw [List.length_append]; simp; omega, Nat.zero_le _, fun x hx => by
            rcases List.mem_append.1 hx with hx | hx
            · exact flu_mem HO.out.2.2 (by have := HO.out.2.1; omega) x hx
            · rw [List.mem_singleton] at hx; rw [hx, hdz]; omega⟩
          have hol : out.length ≤ 20000 := by have := HO.out.1; omega
          have HFL : Hid ((flu out c).length ≤ 20001) := Lib.hid (by have := flu_len out c; omega)
          clear HR HO h32b hsgb hdd
          go_upto_region 13 with (first | (go_at_call 70; refine (wordByte_b s[i] false HB1 _).mono ?_; rintro e w1 ⟨rfl, rfl⟩) | fail)
          have hb32 : ((s[i].toNat : Int) == 32) = false := by rw [beq_eq_false_iff_ne]; exact h32i
          rcases hsg with hsg | hsg
          · have h44 : (s[i].toNat : Int) = 44 := by omega
            clear hsg h32 h32i
            go_upto_region 15 with (first | (go_at_call 83; refine (flush_b w _ V out c HT.out hol).mono ?_; rintro e w5 ⟨rfl, V5, hT5⟩; have HT5 := Lib.hid (hT5.next (Below.refl _ _).drew); have e0 := hT5.co.at 0 _ rfl; have e1 := hT5.co.free 0; have hlt5 := hT5.lt; clear hT5) | fail)
            have hown : ∀ k, V5.ownBlock = some k → w.heap.size + 2 ≤ k := fun k hk => (HT5.out.own.lt k hk).1
            have HOWN := Lib.hid hown
            have HS5 : Hid (w.heap.size + 2 ≤ (w5.drew.alloc (.cells #[.string d] 9)).heap.size) := Lib.hid (by have := HT5.out.lt; simp at this ⊢; omega)
            clear hown c0 c1 f0 f1
            have hl5 : w.heap.size < w5.heap.size := by omega
            have hwr : IntKind.i64.wrap ((i : Int) + 1) = (i : Int) + 1 := by rw [IntKind.wrap_i64]; omega
            go_region_law (first
              | (refine step_append_lies _ (by rfl) _ _ _ (by rfl) (w.heap.size + 2) 9 i0 _ 1 16 Tryd.underlying22 HIN.out.1 HIN.out.2.1 HIN.out.2.2.1 HIN.out.2.2.2 rfl (by omega) V5 (flu out c).length (svals (flu out c)) (by rfl) (own_fr HT5.out.own (Fr.of (S := fun _ => False) ((Below.refl _ _).alloc (Nat.le_refl _) (.cells #[.string d] 9))) (fun _ _ h => h)) ⟨w5.drew.heap.size, 0, none⟩ 1 1 [.string d] (by rfl) (by rfl) (World.news_of_block (cs := #[.string d]) (t := 9) (fr := (0, 0)) (heap_alloc_new w5.drew _)) (by simp [Value.oneCell']) (by omega) (by have := HFL.out; unfold maxLen; omega) (by have := HFL.out; omega) HS5.out (w5.drew.heap.size + 1) (by simp) ?_; intro gg cap w6 hown6 hgrow6 hat6 hlt6; have cs6 := cs_grown (HT5.out.co.alloc (.cells #[.string d] 9)) hgrow6 (fun e => by have := HOWN.out _ e; omega); have b6 := cs6.at 0 _ rfl; have bf6 := cs6.free 0; have hbl6 := cs6.lt; clear cs6))
            all_goals
              have HT6 := Lib.hid (HT5.out.push (s := d) 9 hgrow6 hown6)
              clear hown6 hgrow6 hat6 b6 bf6 hbl6 e0 e1
              go_wp2_with fail
              go_roundw
              case rel => exact ⟨i + 1, _, _, _, by omega, by go_num, HT6, HR2, HO2⟩
              case measure => simp [intOf]; omega
          · have h60 : (s[i].toNat : Int) = 60 := by omega
            clear hsg h32 h32i
            go_upto_region 15 with (first | (go_at_call 83; refine (flush_b w _ V out c HT.out hol).mono ?_; rintro e w5 ⟨rfl, V5, hT5⟩; have HT5 := Lib.hid (hT5.next (Below.refl _ _).drew); have e0 := hT5.co.at 0 _ rfl; have e1 := hT5.co.free 0; have hlt5 := hT5.lt; clear hT5) | fail)
            have hown : ∀ k, V5.ownBlock = some k → w.heap.size + 2 ≤ k := fun k hk => (HT5.out.own.lt k hk).1
            have HOWN := Lib.hid hown
            have HS5 : Hid (w.heap.size + 2 ≤ (w5.drew.alloc (.cells #[.string d] 9)).heap.size) := Lib.hid (by have := HT5.out.lt; simp at this ⊢; omega)
            clear hown c0 c1 f0 f1
            have hl5 : w.heap.size < w5.heap.size := by omega
            have hwr : IntKind.i64.wrap ((i : Int) + 1) = (i : Int) + 1 := by rw [IntKind.wrap_i64]; omega
            go_region_law (first
              | (refine step_append_lies _ (by rfl) _ _ _ (by rfl) (w.heap.size + 2) 9 i0 _ 1 16 Tryd.underlying22 HIN.out.1 HIN.out.2.1 HIN.out.2.2.1 HIN.out.2.2.2 rfl (by omega) V5 (flu out c).length (svals (flu out c)) (by rfl) (own_fr HT5.out.own (Fr.of (S := fun _ => False) ((Below.refl _ _).alloc (Nat.le_refl _) (.cells #[.string d] 9))) (fun _ _ h => h)) ⟨w5.drew.heap.size, 0, none⟩ 1 1 [.string d] (by rfl) (by rfl) (World.news_of_block (cs := #[.string d]) (t := 9) (fr := (0, 0)) (heap_alloc_new w5.drew _)) (by simp [Value.oneCell']) (by omega) (by have := HFL.out; unfold maxLen; omega) (by have := HFL.out; omega) HS5.out (w5.drew.heap.size + 1) (by simp) ?_; intro gg cap w6 hown6 hgrow6 hat6 hlt6; have cs6 := cs_grown (HT5.out.co.alloc (.cells #[.string d] 9)) hgrow6 (fun e => by have := HOWN.out _ e; omega); have b6 := cs6.at 0 _ rfl; have bf6 := cs6.free 0; have hbl6 := cs6.lt; clear cs6))
            all_goals
              have HT6 := Lib.hid (HT5.out.push (s := d) 9 hgrow6 hown6)
              clear hown6 hgrow6 hat6 b6 bf6 hbl6 e0 e1
              go_wp2_with fail
              go_roundw
              case rel => exact ⟨i + 1, _, _, _, by omega, by go_num, HT6, HR2, HO2⟩
              case measure => simp [intOf]; omega
        · have hsgb : ¬ (s[i] = 44 ∨ s[i] = 60) := by
            rintro (h | h)
            · exact hsg (.inl (by rw [h]; rfl))
            · exact hsg (.inr (by rw [h]; rfl))
          have ho : o = none := by
            have h := HR.out
            rw [HDR.out, tokS, if_neg (by rw [HB1.out]; decide), if_neg h32b, if_neg hsgb] at h
            exact h.symm
          have HOO := Lib.hid ho
          have h32z : ((s[i].toNat : Int) == 32) = false := by rw [beq_eq_false_iff_ne]; exact h32i
          have h44 : ((s[i].toNat : Int) == 44) = false := by rw [beq_eq_false_iff_ne]; omega
          have h60 : ((s[i].toNat : Int) == 60) = false := by rw [beq_eq_false_iff_ne]; omega
          clear HR HO h32b hsgb hsg ho
          go_wp2_with (first | (go_at_call 70; refine (wordByte_b s[i] false HB1 _).mono ?_; rintro e w1 ⟨rfl, rfl⟩) | fail)
          go_returns
          refine ⟨HT.out.bel, ?_⟩
          rw [HOO.out]
          exact rfl
    · have hge : ¬ ((i : Int) < (s.size : Int)) := by omega
      obtain rfl : i = s.size := by omega
      have ho : o = some (flu out c) := by
        rw [← HR.out, List.drop_eq_nil_of_le (by rw [← bsize_len]; exact Nat.le_refl _)]
        show some (out ++ flushW c.data.toList []) = _
        rw [flu_eq, List.append_nil]
      have HOO := Lib.hid ho
      clear ho HR
      go_wp2_with (first | (go_at_call 83; refine (flush_b w _ V out c HT.out (by have := HO.out.1; omega)).mono ?_; rintro e w5 ⟨rfl, V5, hT5⟩; have HT5 := Lib.hid hT5; have d0 := hT5.co.at 0 _ rfl; clear hT5) | fail)
      go_returns
      obtain ⟨A5, c5, e5⟩ := own_slice HT5.out.own
      subst e5
      refine ⟨HT5.out.bel, ?_⟩
      rw [HOO.out]
      refine ⟨A5, c5, rfl, own_nok HT5.out.own (fun x hx => by have := flu_mem HO.out.2.2 HO.out.2.1 x hx; unfold maxLen; omega), fun a ha => ?_⟩
      have := (HT5.out.own.lt a.block (by rw [ha]; rfl)).1
      omega
end Go.Proofs.YtnipigninbeplaaDoor
