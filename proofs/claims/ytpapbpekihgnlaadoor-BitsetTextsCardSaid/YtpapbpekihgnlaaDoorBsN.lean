/-
  The walk over Text.
-/
import Derived.Test.YtpapbpekihgnlaaDoorBsM
import Derived.Test.YtpapbpekihgnlaaDoorShelfB
import Derived.Test.YtpapbpekihgnlaaDoorShelf
namespace Go.Proofs.YtpapbpekihgnlaaDoor
open Go.RowKit

/-- The tables of Go's library that the texts read. -/
structure Tabs (w : World) : Prop where
  tb : Tb w
  lt : 4 < w.heap.size
  pow : Lib.TabIs Tryd.prog w "internal/strconv.uint64pow10" .u64 Lib.pow10Tab
theorem tabIs_below {w w' : World} {s : String} {g : Nat} {k : IntKind} {zs : List Int} (hg : Tryd.prog.globalNamed s = some g) (hl : g < w.heap.size) (h : Lib.TabIs Tryd.prog w s k zs) (hb : Below w.heap.size w w') : Lib.TabIs Tryd.prog w' s k zs := by
  unfold Lib.TabIs World.var? at h ⊢
  rw [hg] at h ⊢
  simp only [Option.bind_some] at h ⊢
  rw [hb.block g hl]
  exact h
theorem Tabs.below {w w' : World} (h : Tabs w) (hb : Below w.heap.size w w') : Tabs w' :=
  ⟨h.tb.below hb, Nat.lt_of_lt_of_le h.lt hb.size, tabIs_below (by kernel_rfl) h.lt h.pow hb⟩
theorem below_grow (w : World) (k : Nat) (os : Array Obj) : Below w.heap.size w (Go.Sort.grow (w.drewN k) os) :=
  ⟨rfl, rfl, rfl, by show _ ≤ (w.heap ++ os).size; rw [Array.size_append]; omega, fun g hg => by show (w.heap ++ os)[g]? = _; rw [Array.getElem?_append_left hg]⟩
theorem isb_below {T e : TypeId} {B b : Nat} {bs : List Value} {w w' : World} (h : Lib.IsBuilderF T e B b bs w) (hb : Below w.heap.size w w') : Lib.IsBuilderF T e B b bs w' := by
  have key : ∀ p, Lib.BuilderAtF T e B b p bs w → Lib.BuilderAtF T e B b p bs w' := by
    rintro p ⟨h1, v, h2, h3, h4⟩
    have lt : ∀ (g : Nat) (o : Obj), w.heap[g]? = some o → g < w.heap.size := by
      intro g o hg
      rcases Nat.lt_or_ge g w.heap.size with h | h
      · exact h
      · rw [Array.getElem?_eq_none h] at hg; cases hg
    refine ⟨h1, v, by rw [hb.block b (lt _ _ h2)]; exact h2, ⟨h3.1, ?_⟩, h4⟩
    rcases h3.2 with hn | ⟨g, cap, cur, fz, hv, hg, hh, r⟩
    · exact .inl hn
    · exact .inr ⟨g, cap, cur, fz, hv, hg, by rw [hb.block g (lt _ _ hh)]; exact hh, r⟩
  rcases h with h | h
  · exact .inl (key _ h)
  · exact .inr (key _ h)
theorem own_kept {w w' : World} {b base : Nat} {A : Option Addr} {l c : Nat} {xs : List Value} (h : w.ownsRow base 3 1 (.slice A l c) l xs) (hk : Lib.OthersKept 5 (some b) w w') (hb : b < base) : w'.ownsRow base 3 1 (.slice A l c) l xs := by
  obtain ⟨h0, h | ⟨g, cap, cur, hv, h1, hh, r⟩⟩ := h
  · exact ⟨h0, .inl h⟩
  · exact ⟨h0, .inr ⟨g, cap, cur, hv, h1, hk g _ hh (by intro e; cases e; omega) (fun c fz e => by injection e with _ e2 _; exact absurd e2 (by decide)), r⟩⟩

theorem dec_len (u : Nat) (h : u < 10000) : (Lib.decDigits u).length ≤ 4 := by
  unfold Lib.decDigits
  split
  · simp
  · unfold Lib.decDigits
    split
    · simp
    · unfold Lib.decDigits
      split
      · simp
      · unfold Lib.decDigits
        split
        · simp
        · omega
/-- The first k members, written. -/
def parts (ms : List Nat) : Nat → List UInt8
  | 0 => []
  | k + 1 => parts ms k ++ ((if 0 < k then [44, 32] else []) ++ Lib.decDigits (ms.getD k 0))
theorem parts_len (ms : List Nat) (hm : ∀ m ∈ ms, m < 10000) (k : Nat) : (parts ms k).length ≤ 6 * k := by
  induction k with
  | zero => simp [parts]
  | succ k ih =>
    have hd : (Lib.decDigits (ms.getD k 0)).length ≤ 4 := by
      by_cases hk : k < ms.length
      · refine dec_len _ (hm _ ?_)
        rw [List.getD_eq_getElem?_getD, List.getElem?_eq_getElem hk]
        exact List.getElem_mem hk
      · rw [List.getD_eq_getElem?_getD, List.getElem?_eq_none (by omega)]
        exact dec_len 0 (by omega)
    have h2 : (if 0 < k then ([44, 32] : List UInt8) else []).length ≤ 2 := by split <;> simp
    simp only [parts, List.length_append]
    omega
/-- What Text returns. -/
def textR (n : Int) (ws : List Nat) : List UInt8 := if Bs.vld n ws = true then ([123] ++ parts (membR n ws) (membR n ws).length) ++ [125, 47] ++ Lib.decDigits n.toNat else []
theorem memb_lt {n : Int} {ws : List Nat} {m : Nat} (h : m ∈ membR n ws) : m < 4096 := by
  unfold membR at h
  split at h
  · next hv =>
    obtain ⟨h1, _⟩ := List.mem_filter.1 h
    have := (Bs.vld_iff.1 hv).2.1
    have := List.mem_range.1 h1
    omega
  · cases h
theorem byteCells_app (a b : List UInt8) : Lib.byteCells (a ++ b) = Lib.byteCells a ++ Lib.byteCells b := by simp [Lib.byteCells]
theorem strCells_of (l : List UInt8) : Lib.strCells ⟨l.toArray⟩ = Lib.byteCells l := rfl
theorem byteCells_len (l : List UInt8) : (Lib.byteCells l).length = l.length := by simp [Lib.byteCells]
theorem itoa_nat (m : Nat) : Lib.itoa (m : Int) = Lib.decDigits m := by
  unfold Lib.itoa
  rw [if_neg (by omega), Int.toNat_natCast]
theorem heap_new (w : World) (o : Obj) : (w.alloc o).heap[w.heap.size]? = some o := by
  show (w.heap.push o)[w.heap.size]? = _
  rw [Array.getElem?_push_size]

set_option maxHeartbeats 2000000 in
theorem text_b (n : Int) (A : Option Addr) (l c : Nat) (ws : List Nat) (r : List UInt8) (H : Hid (textR n ws = r)) (w : World) (hT : Tabs w) (hw : Wd w A l c ws) :
    Calls Tryd.prog 43 #[.agg #[.int .i64 n, .slice A l c]] w fun e w' => e = .returned (.string ⟨r.toArray⟩) ∧ Below w.heap.size w w' := by
  have HW := Lib.hid hw
  have HT := Lib.hid hT
  clear hw hT
  obtain ⟨v, hv⟩ : ∃ v, Bs.vld n ws = v := ⟨_, rfl⟩
  have HV := Lib.hid hv
  go_enter Tryd.func43, Tryd.ntmps43
  go_wp2_with fail
  go_at_call 18
  refine (valid_b n A l c ws v HV _ (HW.out.below (boxS_below w n A l c))).mono ?_
  rintro e w2 ⟨rfl, hb⟩
  have HC := Lib.hid ((boxS_cs w n A l c).next hb)
  have HB := Lib.hid ((boxS_below w n A l c).trans (hb.mono (by simp [boxS])))
  have HW2 := Lib.hid (HW.out.below HB.out)
  have HT2 := Lib.hid (HT.out.below HB.out)
  clear hb HV HW HT
  have c0 := HC.out.at 0 _ rfl
  have c1 := HC.out.at 1 _ rfl
  have hlt := HC.out.lt
  cases v with
  | false =>
    have hr : r = [] := by rw [← H.out]; unfold textR; rw [if_neg (by rw [hv]; simp)]
    subst hr
    clear H hv
    go_wp2_with fail
    go_ret
    exact ⟨rfl, HB.out⟩
  | true =>
    obtain ⟨m, rfl⟩ : ∃ m : Nat, n = m := ⟨n.toNat, by have := (Bs.vld_iff.1 hv).1; omega⟩
    have hn := Bs.vld_le hv
    obtain ⟨ms, hms⟩ : ∃ ms, membR m ws = ms := ⟨_, rfl⟩
    have HMS := Lib.hid hms
    have hmlt : ∀ k ∈ ms, k < 4096 := by rw [← hms]; exact fun k hk => memb_lt hk
    have hmlen : ms.length ≤ 4096 := by
      rw [← hms]; unfold membR; rw [if_pos hv, Int.toNat_natCast]
      exact Nat.le_trans (List.length_filter_le _ _) (by rw [List.length_range]; exact hn)
    have hr : r = ([123] ++ parts ms ms.length) ++ [125, 47] ++ Lib.decDigits m := by rw [← H.out]; unfold textR; rw [if_pos hv, hms, Int.toNat_natCast]
    have HR := Lib.hid hr
    have HML := Lib.hid hmlt
    have HPL := Lib.hid (parts_len ms fun k hk => Nat.lt_trans (hmlt k hk) (by decide))
    clear H hv hms hmlt hr
    obtain ⟨b, hbb⟩ : ∃ b, w2.heap.size = b := ⟨_, rfl⟩
    have HBB := Lib.hid hbb
    go_wp2_with fail
    go_at_call 58
    have hi0 : Lib.IsBuilderF 62 5 b b (Lib.byteCells []) (w2.alloc (.cells #[.pointer none, .slice none 0 0] 62)) := by
      refine .inl ⟨Nat.le_refl _, .slice none 0 0, by rw [← HBB.out]; exact heap_new w2 _, ⟨rfl, .inl ⟨rfl, rfl⟩⟩, by simp [Value.ownBlock]⟩
    refine (Tryd.hb_WriteByte b b _ 123 _ hi0 (by simp [Lib.byteCells]) (by simp; omega)).mono ?_
    rintro e w3 ⟨rfl, hb3, hbe3, _⟩
    have hbe3' : Below b w2 w3 := Below.trans ((Below.refl _ _).alloc (by omega) _) hbe3
    have hlt3 : b < w3.heap.size := by have := hbe3.size; simp at this; omega
    have HB3 := Lib.hid hbe3'
    have HI3 : Hid (Lib.IsBuilderF 62 5 b b (Lib.byteCells ([123] ++ parts ms 0)) w3) := .inr hb3
    have HBW3 := Lib.hid (show Below w2.heap.size w2 w3 by rw [hbb]; exact hbe3')
    clear hb3 hbe3 hbe3' hi0
    have HC3 := Lib.hid (HC.out.next HBW3.out)
    have HW3 := Lib.hid (HW2.out.below HBW3.out)
    have HT3 := Lib.hid (HT2.out.below HBW3.out)
    clear c0 c1
    have c0 := HC3.out.at 0 _ rfl
    have c1 := HC3.out.at 1 _ rfl
    have hbb' := HBB
    clear hbb hlt
    go_wp2_with fail
    go_at_call 39
    refine (members_b m A l c ws ms HMS _ HT3.out.tb HW3.out).mono ?_
    rintro e w4 ⟨⟨A4, c4, rfl, hO4⟩, hb4⟩
    have HI4 := Lib.hid (isb_below HI3.out hb4)
    have HO4 := Lib.hid (own_base hO4 (base' := b + 1) (by omega))
    have HB4 : Hid (Below b w2 w4) := HB3.out.trans (hb4.mono (by omega))
    have hlt4 : b < w4.heap.size := by have := hb4.size; omega
    clear hO4 hb4 HI3 c0 c1
    obtain ⟨L, hL⟩ : ∃ L, ms.length = L := ⟨_, rfl⟩
    rw [hL] at HO4 hmlen
    rw [hL]
    have HL := Lib.hid hL
    clear hL
    go_wp2_with fail
    go_loopw [13] (fun v wr => ∃ k : Nat, k ≤ L ∧ v = .int .i64 k ∧ Hid (Lib.IsBuilderF 62 5 b b (Lib.byteCells ([123] ++ parts ms k)) wr) ∧ Hid (wr.ownsRow (b + 1) 3 1 (.slice A4 L c4) L (ivals ms)) ∧ Hid (Below b w2 wr) ∧ b < wr.heap.size) (fun v _ => L - (intOf v).toNat)
    case atStart => exact ⟨0, by omega, rfl, HI4, HO4, HB4, by omega⟩
    case round =>
      obtain ⟨k, hk, rfl, HI, HO, HBR, hltr⟩ := hrel
      clear HI4 HO4 HB4 hlt4 HT3 HW3 HC3 HB3 hlt3
      have HWR := Lib.hid (show Below w2.heap.size w2 wr by rw [HBB.out]; exact HBR.out)
      have HT := Lib.hid (HT2.out.below HWR.out)
      have HC5 := Lib.hid (HC.out.next HWR.out)
      have hpk := HPL.out k
      have hcl : (Lib.byteCells ([123] ++ parts ms k)).length ≤ 30000 := by rw [byteCells_len, List.length_append]; show 1 + _ ≤ _; omega
      by_cases hlt : k < L
      · have hown := HO.out
        rw [← HL.out] at hown
        obtain ⟨g, f, hA, hg, hzc⟩ := (own_zs hown).2.mem (by rw [HL.out]; omega)
        subst hA
        have hcell := hzc k (by rw [HL.out]; exact hlt)
        obtain ⟨x, hx⟩ : ∃ x, ms.getD k 0 = x := ⟨_, rfl⟩
        have hix : (ints ms).getD k 0 = (x : Int) := by
          rw [← hx]
          simp [ints, List.getD_eq_getElem?_getD, show k < ms.length by rw [HL.out]; exact hlt]
        rw [hix] at hcell
        have hxm : x < 4096 := by
          refine HML.out x ?_
          rw [← hx, List.getD_eq_getElem?_getD, List.getElem?_eq_getElem (show k < ms.length by rw [HL.out]; exact hlt)]
          exact List.getElem_mem _
        have hdl : (⟨(Lib.itoa (x : Int)).toArray⟩ : ByteArray).size ≤ 4 := by
          rw [itoa_nat]
          exact dec_len x (by omega)
        have HX := Lib.hid hx
        have hlt' : (k : Int) < (L : Int) := by omega
        clear hx hix hzc hown
        by_cases hk0 : k = 0
        · have hkd : decide ((0 : Int) < (k : Int)) = false := decide_eq_false (by omega)
          have HJ : Hid (Lib.byteCells ([123] ++ parts ms k) ++ Lib.strCells ⟨(Lib.itoa (x : Int)).toArray⟩ = Lib.byteCells ([123] ++ parts ms (k + 1))) := by
            show _ = _
            rw [strCells_of, itoa_nat, ← byteCells_app]
            simp only [parts, HX.out, if_neg (show ¬ 0 < k by omega)]
            simp
          have hk0' : ¬ ((0 : Int) < (k : Int)) := by omega
          clear hk0 hkd
          go_wp2_with fail
          go_at_call 60
          refine (Tryd.strconv_Itoa (x : Int) (by omega) (by omega) _ HT.out.pow).mono ?_
          rintro e w5 ⟨rfl, kk, os, rfl⟩
          have hbg := below_grow wr kk os
          obtain ⟨w6, hw6⟩ : ∃ w6, Go.Sort.grow (wr.drewN kk) os = w6 := ⟨_, rfl⟩
          rw [hw6] at hbg ⊢
          clear hw6
          have HI6 := Lib.hid (isb_below HI.out hbg)
          have HO6 := Lib.hid (own_below HO.out hbg)
          have HB6 : Hid (Below b w2 w6) := HBR.out.trans (hbg.mono (by omega))
          have hlt6 : b < w6.heap.size := by have := hbg.size; omega
          clear hbg
          obtain ⟨tx, htx⟩ : ∃ tx : ByteArray, ⟨(Lib.itoa (x : Int)).toArray⟩ = tx := ⟨_, rfl⟩
          have htl : tx.size ≤ 4 := by rw [← htx]; exact hdl
          rw [htx] at HJ ⊢
          clear htx
          go_wp2_with fail
          go_at_call 59
          refine (Tryd.hb_WriteString b b _ tx _ HI6.out (by omega) (by omega)).mono ?_
          rintro e w7 ⟨rfl, hb7, hbe7, hok7⟩
          rw [HJ.out] at hb7
          have HI7 : Hid (Lib.IsBuilderF 62 5 b b (Lib.byteCells ([123] ++ parts ms (k + 1))) w7) := .inr hb7
          have HO7 := Lib.hid (own_kept HO6.out hok7 (by omega))
          have HB7 : Hid (Below b w2 w7) := HB6.out.trans hbe7
          have hlt7 : b < w7.heap.size := by have := hbe7.size; omega
          clear hb7 hbe7 hok7 HI6 HO6 HB6
          go_wp2_with fail
          go_roundw
          case rel => exact ⟨k + 1, by omega, by go_num, HI7, HO7, HB7, by omega⟩
          case measure => simp [intOf]; omega
        · have hk1 : 0 < k := by omega
          have hkd : decide ((0 : Int) < (k : Int)) = true := decide_eq_true (by omega)
          have HJ : Hid ((Lib.byteCells ([123] ++ parts ms k) ++ Lib.strCells ⟨#[44, 32]⟩) ++ Lib.strCells ⟨(Lib.itoa (x : Int)).toArray⟩ = Lib.byteCells ([123] ++ parts ms (k + 1))) := by
            show _ = _
            rw [show (⟨#[44, 32]⟩ : ByteArray) = ⟨([44, 32] : List UInt8).toArray⟩ from rfl, strCells_of, strCells_of, itoa_nat, ← byteCells_app, ← byteCells_app]
            simp only [parts, HX.out, if_pos hk1]
            simp
          go_wp2_with fail
          go_at_call 59
          refine (Tryd.hb_WriteString b b _ ⟨#[44, 32]⟩ _ HI.out (by show _ + 2 ≤ _; omega) (by omega)).mono ?_
          rintro e w5 ⟨rfl, hb5, hbe5, hok5⟩
          have HI5 : Hid (Lib.IsBuilderF 62 5 b b (Lib.byteCells ([123] ++ parts ms k) ++ Lib.strCells ⟨#[44, 32]⟩) w5) := .inr hb5
          have HO5 := Lib.hid (own_kept HO.out hok5 (by omega))
          have HB5 : Hid (Below b w2 w5) := HBR.out.trans hbe5
          have hlt5 : b < w5.heap.size := by have := hbe5.size; omega
          have HT5 := Lib.hid (HT2.out.below (show Below w2.heap.size w2 w5 by rw [HBB.out]; exact HB5.out))
          clear hb5 hbe5 hok5
          go_wp2_with fail
          go_at_call 60
          refine (Tryd.strconv_Itoa (x : Int) (by omega) (by omega) _ HT5.out.pow).mono ?_
          rintro e w6' ⟨rfl, kk, os, rfl⟩
          have hbg := below_grow w5 kk os
          obtain ⟨w6, hw6⟩ : ∃ w6, Go.Sort.grow (w5.drewN kk) os = w6 := ⟨_, rfl⟩
          rw [hw6] at hbg ⊢
          clear hw6
          have HI6 := Lib.hid (isb_below HI5.out hbg)
          have HO6 := Lib.hid (own_below HO5.out hbg)
          have HB6 : Hid (Below b w2 w6) := HB5.out.trans (hbg.mono (by omega))
          have hlt6 : b < w6.heap.size := by have := hbg.size; omega
          have hcl2 : (Lib.byteCells ([123] ++ parts ms k) ++ Lib.strCells ⟨#[44, 32]⟩).length ≤ 30100 := by rw [List.length_append]; show _ + 2 ≤ _; omega
          clear hbg
          obtain ⟨tx, htx⟩ : ∃ tx : ByteArray, ⟨(Lib.itoa (x : Int)).toArray⟩ = tx := ⟨_, rfl⟩
          have htl : tx.size ≤ 4 := by rw [← htx]; exact hdl
          rw [htx] at HJ ⊢
          clear htx
          go_wp2_with fail
          go_at_call 59
          refine (Tryd.hb_WriteString b b _ tx _ HI6.out (by omega) (by omega)).mono ?_
          rintro e w7 ⟨rfl, hb7, hbe7, hok7⟩
          rw [HJ.out] at hb7
          have HI7 : Hid (Lib.IsBuilderF 62 5 b b (Lib.byteCells ([123] ++ parts ms (k + 1))) w7) := .inr hb7
          have HO7 := Lib.hid (own_kept HO6.out hok7 (by omega))
          have HB7 : Hid (Below b w2 w7) := HB6.out.trans hbe7
          have hlt7 : b < w7.heap.size := by have := hbe7.size; omega
          clear hb7 hbe7 hok7 HI6 HO6 HB6
          go_wp2_with fail
          go_roundw
          case rel => exact ⟨k + 1, by omega, by go_num, HI7, HO7, HB7, by omega⟩
          case measure => simp [intOf]; omega
      · obtain rfl : k = L := by omega
        have c0 := HC5.out.at 0 _ rfl
        have HJ1 : Hid (Lib.byteCells ([123] ++ parts ms k) ++ Lib.strCells ⟨#[125, 47]⟩ = Lib.byteCells (([123] ++ parts ms k) ++ [125, 47])) := by
          show _ = _
          rw [show (⟨#[125, 47]⟩ : ByteArray) = ⟨([125, 47] : List UInt8).toArray⟩ from rfl, strCells_of, ← byteCells_app]
        have HJ2 : Hid (Lib.byteCells (([123] ++ parts ms k) ++ [125, 47]) ++ Lib.strCells ⟨(Lib.itoa (m : Int)).toArray⟩ = Lib.byteCells r) := by
          show _ = _
          rw [strCells_of, itoa_nat, ← byteCells_app, HR.out, HL.out]
        have hdm : (⟨(Lib.itoa (m : Int)).toArray⟩ : ByteArray).size ≤ 4 := by
          rw [itoa_nat]
          exact dec_len m (by omega)
        have hcl1 : (Lib.byteCells (([123] ++ parts ms k) ++ [125, 47])).length ≤ 30100 := by
          rw [← HJ1.out, List.length_append]; show _ + 2 ≤ _; omega
        clear HR HMS
        go_wp2_with fail
        go_at_call 59
        refine (Tryd.hb_WriteString b b _ ⟨#[125, 47]⟩ _ HI.out (by show _ + 2 ≤ _; omega) (by omega)).mono ?_
        rintro e w5 ⟨rfl, hb5, hbe5, _⟩
        rw [HJ1.out] at hb5
        have HI5 : Hid (Lib.IsBuilderF 62 5 b b (Lib.byteCells (([123] ++ parts ms k) ++ [125, 47])) w5) := .inr hb5
        have HB5 : Hid (Below b w2 w5) := HBR.out.trans hbe5
        have hlt5 : b < w5.heap.size := by have := hbe5.size; omega
        have HW5 := Lib.hid (show Below w2.heap.size w2 w5 by rw [HBB.out]; exact HB5.out)
        have HT5 := Lib.hid (HT2.out.below HW5.out)
        have HC6 := Lib.hid (HC.out.next HW5.out)
        clear hb5 hbe5 HI HO HBR HC5 HT HWR c0 HJ1
        have c0 := HC6.out.at 0 _ rfl
        go_wp2_with fail
        go_at_call 60
        refine (Tryd.strconv_Itoa (m : Int) (by omega) (by omega) _ HT5.out.pow).mono ?_
        rintro e w6' ⟨rfl, kk, os, rfl⟩
        have hbg := below_grow w5 kk os
        obtain ⟨w6, hw6⟩ : ∃ w6, Go.Sort.grow (w5.drewN kk) os = w6 := ⟨_, rfl⟩
        rw [hw6] at hbg ⊢
        clear hw6
        have HI6 := Lib.hid (isb_below HI5.out hbg)
        have HB6 : Hid (Below b w2 w6) := HB5.out.trans (hbg.mono (by omega))
        have hlt6 : b < w6.heap.size := by have := hbg.size; omega
        clear hbg c0
        obtain ⟨tx, htx⟩ : ∃ tx : ByteArray, ⟨(Lib.itoa (m : Int)).toArray⟩ = tx := ⟨_, rfl⟩
        have htl : tx.size ≤ 4 := by rw [← htx]; exact hdm
        rw [htx] at HJ2 ⊢
        clear htx
        go_wp2_with fail
        go_at_call 59
        refine (Tryd.hb_WriteString b b _ tx _ HI6.out (by omega) (by omega)).mono ?_
        rintro e w7 ⟨rfl, hb7, hbe7, _⟩
        rw [HJ2.out] at hb7
        have HI7 : Hid (Lib.IsBuilderF 62 5 b b (Lib.byteCells r) w7) := .inr hb7
        have HB7 : Hid (Below b w2 w7) := HB6.out.trans hbe7
        have hlt7 : b < w7.heap.size := by have := hbe7.size; omega
        clear hb7 hbe7 HI6 HB6
        go_wp2_with fail
        go_at_call 61
        refine (Tryd.hb_String b b r _ HI7.out (by omega)).mono ?_
        rintro e w8 ⟨rfl, _, hbe8, _⟩
        have HB8 : Hid (Below b w2 w8) := HB7.out.trans hbe8
        clear hbe8
        go_wp2_with fail
        go_ret
        exact ⟨rfl, HB.out.trans (HB8.out.mono (by rw [← HBB.out]; exact HB.out.size))⟩
end Go.Proofs.YtpapbpekihgnlaaDoor
