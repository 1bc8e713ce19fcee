/-
  The walks over the two Joins.
-/
import Derived.Test.YthenhajgmbanjaaLxN
import Derived.Test.YthenhajgmbanjaaShelfB
namespace Go.Proofs.Ythenhajgmbanjaa
open Go.RowKit

theorem isb_below {T e : TypeId} {B b : Nat} {bs : List Value} {w w' : World} (h : Lib.IsBuilderF T e B b bs w) (hb : Below w.heap.size w w') : Lib.IsBuilderF T e B b bs w' := by
  have key : ∀ p, Lib.BuilderAtF T e B b p bs w → Lib.BuilderAtF T e B b p bs w' := by
    rintro p ⟨h1, v, h2, h3, h4⟩
    have lt : ∀ (g : Nat) (o : Obj), w.heap[g]? = some o → g < w.heap.size := by
      intro g o hg
      rcases Nat.lt_or_ge g w.heap.size with h | h
      · exact h
      · rw [Array.getElem?_eq_none h] at hg; cases hg
    refine ⟨h1, v, by rw [hb.block b (lt _ _ h2)]; exact h2, ⟨h3.1, ?_⟩, h4⟩
    rcases h3.2 with hn | ⟨g, cap, cur, fz, hv, hg, hh, r⟩
    · exact .inl hn
    · exact .inr ⟨g, cap, cur, fz, hv, hg, by rw [hb.block g (lt _ _ hh)]; exact hh, r⟩
  rcases h with h | h
  · exact .inl (key _ h)
  · exact .inr (key _ h)
theorem joinF_snoc (bs : List Lx.Bytes) (t : Lx.Bytes) : Lx.joinF (bs ++ [t]) = if bs = [] then t else Lx.joinF bs ++ 32 :: t := by
  induction bs with
  | nil => rfl
  | cons b bs ih =>
    rw [if_neg (by simp)]
    cases bs with
    | nil => rfl
    | cons c r =>
      rw [if_neg (by simp)] at ih
      show b ++ 32 :: Lx.joinF ((c :: r) ++ [t]) = _
      rw [ih]
      show _ = (b ++ 32 :: Lx.joinF (c :: r)) ++ 32 :: t
      simp
/-- The join of the first k tokens. -/
def jpre (ts : List Lx.Tok) (k : Nat) : Lx.Bytes := Lx.joinF ((ts.take k).map (·.text))
theorem jpre_zero (ts : List Lx.Tok) : jpre ts 0 = [] := rfl
theorem jpre_one (ts : List Lx.Tok) (h : 0 < ts.length) : jpre ts 1 = ts[0].text := by
  cases ts with
  | nil => simp at h
  | cons t ts => rfl
theorem jpre_succ (ts : List Lx.Tok) (k : Nat) (hk : 0 < k) (h : k < ts.length) : jpre ts (k + 1) = jpre ts k ++ 32 :: ts[k].text := by
  unfold jpre
  rw [List.take_succ_eq_append_getElem h, List.map_append, List.map_cons, List.map_nil, joinF_snoc, if_neg]
  intro he
  have := congrArg List.length he
  rw [List.length_map, List.length_take, List.length_nil] at this
  omega
theorem byteCells_app (a b : Lx.Bytes) : Lib.byteCells (a ++ b) = Lib.byteCells a ++ Lib.byteCells b := by simp [Lib.byteCells]
theorem strCells_of (tx : ByteArray) : Lib.strCells tx = Lib.byteCells tx.data.toList := rfl
theorem byteCells_len (l : Lx.Bytes) : (Lib.byteCells l).length = l.length := by simp [Lib.byteCells]
theorem tok_kept {w w' : World} {b : Nat} {cs : Array Value} (h : Lib.OthersKept 5 (some b) (w.alloc (.cells cs 31)) w') (hb : w.heap.size ≠ b) (i : Nat) : w'.cell? ⟨w.heap.size, i, none⟩ = cs[i]? := by
  have h1 := h w.heap.size _ (heap_alloc_new w (.cells cs 31)) (by simpa using hb) (fun c fz e => by simp at e)
  simp [World.cell?, h1]

set_option maxHeartbeats 1000000 in
theorem join_any (ts : List Lx.Tok) (n : Nat) (A : Option Addr) (c : Nat) (w : World) (HN : Hid (n = ts.length)) (hn : n ≤ 9000) (hr : Rd w 3 A n (tvals ts)) (HL : Hid (∀ k, (jpre ts k).length ≤ 9000)) (HT : Hid (∀ (k : Nat) (h : k < ts.length), ts[k].text.length ≤ 9000)) :
    Calls Try.prog 20 #[.slice A n c] w fun e w' => e = .returned (.string ⟨(jpre ts n).toArray⟩) ∧ Below w.heap.size w w' := by
  obtain ⟨r, hrr⟩ : ∃ r : ByteArray, r = ⟨(jpre ts n).toArray⟩ := ⟨_, rfl⟩
  rw [← hrr]
  have HR := Lib.hid hrr
  have HRd := Lib.hid hr
  clear hrr hr
  go_enter Try.func20, Try.ntmps20
  go_wp2_with fail
  go_loopw [8] (fun v wr => ∃ k : Nat, k ≤ n ∧ v = .int .i64 k ∧ Lib.IsBuilderF 42 5 w.heap.size w.heap.size (Lib.byteCells (jpre ts k)) wr ∧ Below w.heap.size w wr ∧ w.heap.size < wr.heap.size) (fun v _ => n - (intOf v).toNat)
  case atStart =>
    refine ⟨0, by omega, rfl, .inl ⟨Nat.le_refl _, .slice none 0 0, heap_alloc_new w _, ⟨rfl, .inl ⟨rfl, rfl⟩⟩, by simp [Value.ownBlock]⟩, (Below.refl _ _).alloc (Nat.le_refl _) _, by simp⟩
  case round =>
    obtain ⟨k, hk, rfl, hib, hbr, hlt0⟩ := hrel
    by_cases hlt : k < n
    · obtain ⟨g, rfl, hg, hc⟩ := HRd.out.2 (by omega)
      have hlt1 : k < ts.length := by rw [← HN.out]; exact hlt
      obtain ⟨x0, x1, x2⟩ := tval_at ts k hlt1
      have a0 := (hbr.cell (p := ⟨g, k * 3, none⟩) hg).trans (hc _ _ x0)
      have a1 := (hbr.cell (p := ⟨g, k * 3 + 1, none⟩) hg).trans (hc _ _ x1)
      have a2 := (hbr.cell (p := ⟨g, k * 3 + 2, none⟩) hg).trans (hc _ _ x2)
      have hjl := HL.out k
      have htl := HT.out k hlt1
      have htl2 : (⟨ts[k].text.toArray⟩ : ByteArray).size = ts[k].text.length := by rw [← len_at]
      obtain ⟨p, hp⟩ : ∃ p : Int, p = ((ts[k].kind : Nat) : Int) := ⟨_, rfl⟩
      obtain ⟨q, hq⟩ : ∃ q : Int, q = ((ts[k].at_ : Nat) : Int) := ⟨_, rfl⟩
      obtain ⟨tx, htx⟩ : ∃ tx : ByteArray, tx = ⟨ts[k].text.toArray⟩ := ⟨_, rfl⟩
      have hts : tx.size ≤ 9000 := by rw [htx, htl2]; exact htl
      rw [← hp] at a0
      rw [← htx] at a1
      rw [← hq] at a2
      have HTX : Hid (tx.data.toList = ts[k].text) := by show _ = _; rw [htx]
      clear x0 x1 x2 hp hq htx htl htl2 hc
      have hbl : (Lib.byteCells (jpre ts k)).length ≤ 9000 := by rw [byteCells_len]; exact hjl
      have hBe : Below w.heap.size w (wr.alloc (.cells #[.int .i64 p, .string tx, .int .i64 q] 31)) := hbr.alloc hbr.size _
      have hib1 : Lib.IsBuilderF 42 5 w.heap.size w.heap.size (Lib.byteCells (jpre ts k)) (wr.alloc (.cells #[.int .i64 p, .string tx, .int .i64 q] 31)) := isb_below hib ((Below.refl _ _).alloc (Nat.le_refl _) _)
      by_cases hk0 : k = 0
      · subst hk0
        have HJ : Hid (Lib.byteCells (jpre ts 0) ++ Lib.strCells tx = Lib.byteCells (jpre ts (0 + 1))) := by
          show _ = _
          rw [jpre_zero, Nat.zero_add, jpre_one ts hlt1, strCells_of, HTX.out]; rfl
        clear hib
        go_wp2_with fail
        refine (Try.hb_WriteString w.heap.size w.heap.size _ tx _ hib1 (by omega) (by simp; omega)).mono ?_
        rintro e w2 ⟨rfl, hb2, hbe2, _⟩
        have hz2 := hbe2.size
        have hbe3 := hBe.trans hbe2
        rw [HJ.out] at hb2
        have HB2 := Lib.hid hb2
        clear hb2 hbe2 hib1 hBe hbl
        go_wp2_with fail
        go_roundw
        case rel => exact ⟨0 + 1, by omega, by go_num, .inr HB2.out, hbe3, by simp at hz2; omega⟩
        case measure => simp [intOf]; omega
      · have hk1 : 0 < k := by omega
        have HJ : Hid ((Lib.byteCells (jpre ts k) ++ [.int .u8 32]) ++ Lib.strCells tx = Lib.byteCells (jpre ts (k + 1))) := by
          show _ = _
          rw [jpre_succ ts k hk1 hlt1, strCells_of, HTX.out, byteCells_app, List.append_assoc]; rfl
        clear hib hk0
        go_wp2_with fail
        refine (Try.hb_WriteByte w.heap.size w.heap.size _ 32 _ hib1 (by omega) (by simp; omega)).mono ?_
        rintro e w2 ⟨rfl, hb2, hbe2, hok⟩
        have hz2 := hbe2.size
        have hbe3 := hBe.trans hbe2
        have t1 := tok_kept hok (by omega) 1
        have HB2 := Lib.hid hb2
        clear hb2 hbe2 hok hib1 hBe
        go_wp2_with fail
        refine (Try.hb_WriteString w.heap.size w.heap.size _ tx _ (.inr HB2.out) (by rw [List.length_append]; simp; omega) hbe3.size).mono ?_
        rintro e w3 ⟨rfl, hb3, hbe4, _⟩
        have hz3 := hbe4.size
        have hbe5 := hbe3.trans hbe4
        rw [HJ.out] at hb3
        have HB3 := Lib.hid hb3
        clear hb3 hbe4 hbe3 hbl HB2
        go_wp2_with fail
        go_roundw
        case rel => exact ⟨k + 1, by omega, by go_num, .inr HB3.out, hbe5, by simp at hz2; omega⟩
        case measure => simp [intOf]; omega
    · have hkn : k = n := by omega
      subst hkn
      go_wp2_with fail
      refine (Try.hb_String w.heap.size w.heap.size _ _ hib (by omega)).mono ?_
      rw [← HR.out]
      rintro e w2 ⟨rfl, _, hbe2, _⟩
      go_wp2_with fail
      go_ret
      exact ⟨rfl, hbr.trans hbe2⟩

set_option maxHeartbeats 1000000 in
theorem rjoin_any (ts : List Lx.Tok) (n : Nat) (A : Option Addr) (c : Nat) (w : World) (HN : Hid (n = ts.length)) (hn : n ≤ 9000) (hr : Rd w 3 A n (tvals ts)) (HL : Hid (∀ k, (jpre ts k).length ≤ 9000)) (HT : Hid (∀ (k : Nat) (h : k < ts.length), ts[k].text.length ≤ 9000)) :
    Calls Try.prog 21 #[.slice A n c] w fun e w' => e = .returned (.string ⟨(jpre ts n).toArray⟩) ∧ w = w' := by
  obtain ⟨r, hrr⟩ : ∃ r : ByteArray, r = ⟨(jpre ts n).toArray⟩ := ⟨_, rfl⟩
  rw [← hrr]
  have HR := Lib.hid hrr
  have HRd := Lib.hid hr
  clear hrr hr
  go_enter Try.func21, Try.ntmps21
  go_wp2_with fail
  go_loop [3, 4] (fun u v => ∃ (x : ByteArray) (k : Nat), k ≤ n ∧ x.size ≤ 9000 ∧ u = .string x ∧ v = .int .i64 k ∧ Hid (x.data.toList = jpre ts k)) (fun _ v => n - (intOf v).toNat)
  case atStart => exact ⟨⟨#[]⟩, 0, by omega, by decide, rfl, rfl, rfl⟩
  case round =>
    obtain ⟨x, k, hk, hxz, rfl, rfl, HX⟩ := hrel
    by_cases hlt : k < n
    · obtain ⟨g, rfl, hg, hc⟩ := HRd.out.2 (by omega)
      have hlt1 : k < ts.length := by rw [← HN.out]; exact hlt
      obtain ⟨_, x1, _⟩ := tval_at ts k hlt1
      have a1 := hc _ _ x1
      have hjl := HL.out (k + 1)
      have htl := HT.out k hlt1
      have htl2 : (⟨ts[k].text.toArray⟩ : ByteArray).size = ts[k].text.length := by rw [← len_at]
      obtain ⟨tx, htx⟩ : ∃ tx : ByteArray, tx = ⟨ts[k].text.toArray⟩ := ⟨_, rfl⟩
      have hts : tx.size ≤ 9000 := by rw [htx, htl2]; exact htl
      rw [← htx] at a1
      have HTX : Hid (tx.data.toList = ts[k].text) := by show _ = _; rw [htx]
      clear x1 htx htl htl2 hc
      by_cases hk0 : k = 0
      · subst hk0
        have HJ : Hid ((x ++ tx).data.toList = jpre ts (0 + 1)) := by
          show _ = _
          rw [ByteArray.data_append, Array.toList_append, HX.out, jpre_zero, Nat.zero_add, jpre_one ts hlt1, HTX.out]; rfl
        have hxz2 : (x ++ tx).size ≤ 9000 := by rw [← len_at, HJ.out]; exact hjl
        go_wp2_with fail
        go_round
        case rel => exact ⟨x ++ tx, 0 + 1, by omega, hxz2, rfl, by go_num, HJ⟩
        case measure => simp [intOf]; omega
      · have hk1 : 0 < k := by omega
        have HJ : Hid ((x ++ ⟨#[32]⟩ ++ tx).data.toList = jpre ts (k + 1)) := by
          show _ = _
          rw [jpre_succ ts k hk1 hlt1]
          simp only [ByteArray.data_append, Array.toList_append, HX.out, HTX.out, List.append_assoc]
          rfl
        have hxz2 : (x ++ ⟨#[32]⟩ ++ tx).size ≤ 9000 := by rw [← len_at, HJ.out]; exact hjl
        clear hk0
        go_wp2_with fail
        go_round
        case rel => exact ⟨x ++ ⟨#[32]⟩ ++ tx, k + 1, by omega, hxz2, rfl, by go_num, HJ⟩
        case measure => simp [intOf]; omega
    · have hkn : k = n := by omega
      subst hkn
      go_wp2_with fail
      go_ret
      exact ⟨congrArg (fun z => Ending.returned (Value.string z)) ((bstr_eq HX.out).trans HR.out.symm), rfl⟩
end Go.Proofs.Ythenhajgmbanjaa
