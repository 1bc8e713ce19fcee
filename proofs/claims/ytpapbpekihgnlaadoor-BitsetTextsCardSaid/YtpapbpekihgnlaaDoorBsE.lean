/-
  The walks over slices.Clone at words, invert and All.
-/
import Derived.Test.YtpapbpekihgnlaaDoorBsD
import Derived.Lib.SliceRun
import Derived.Laws.BitsAllLaws
namespace Go.Proofs.YtpapbpekihgnlaaDoor
open Go.RowKit

/-- A list of words in a row of the call's own (from block B on). -/
structure Ow (W : World) (B : Nat) (A : Option Addr) (l c : Nat) (ws : List Nat) : Prop where
  len : ws.length = l
  cap : l ≤ c
  big : c ≤ maxLen
  fits : Bs.fits ws
  mem : 0 < l → ∃ g, A = some ⟨g, 0, none⟩ ∧ B ≤ g ∧ Cs W g (vals ws)
theorem Ow.wd {W : World} {B : Nat} {A : Option Addr} {l c : Nat} {ws : List Nat} (h : Ow W B A l c ws) : Wd W A l c ws :=
  ⟨h.len, h.cap, h.big, h.fits, fun h0 => by
    obtain ⟨g, rfl, _, hc⟩ := h.mem h0
    exact ⟨g, 0, rfl, hc.lt, fun j hj => by rw [Nat.zero_add]; exact hc.at j _ (vals_get ws j (by rw [h.len]; exact hj))⟩⟩
theorem Ow.below {W W' : World} {B : Nat} {A : Option Addr} {l c : Nat} {ws : List Nat} (h : Ow W B A l c ws) (hb : Below W.heap.size W W') : Ow W' B A l c ws :=
  ⟨h.len, h.cap, h.big, h.fits, fun h0 => by
    obtain ⟨g, h1, h2, h3⟩ := h.mem h0
    exact ⟨g, h1, h2, h3.next hb⟩⟩
theorem Ow.mono {W : World} {B B' : Nat} {A : Option Addr} {l c : Nat} {ws : List Nat} (h : Ow W B A l c ws) (hb : B' ≤ B) : Ow W B' A l c ws :=
  ⟨h.len, h.cap, h.big, h.fits, fun h0 => by
    obtain ⟨g, h1, h2, h3⟩ := h.mem h0
    exact ⟨g, h1, Nat.le_trans hb h2, h3⟩⟩

set_option maxHeartbeats 1000000 in
set_option maxRecDepth 100000 in
theorem clone_b (A : Option Addr) (l c : Nat) (ws : List Nat) (hl : l ≤ 64) (w : World) (hw : Wd w A l c ws) :
    Calls Tryd.prog 55 #[.slice A l c] w fun e w' => (∃ A' c', e = .returned (.slice A' l c') ∧ Ow w' w.heap.size A' l c' ws) ∧ Below w.heap.size w w' := by
  have q22 : ∀ (w : World) (a : Option Addr) (n c n' c' : Nat), (binOp .eql 22 (.slice a n c) (.slice none n' c')).run Tryd.prog w = .ok (.bool a.isNone) w := fun w a n c n' c' => Lib.run_eql_slice_nil w _ _ a n c n' c' Tryd.underlying22
  have HW := Lib.hid hw
  clear hw
  cases A with
  | none =>
    have hl0 : l = 0 := by
      rcases Nat.eq_zero_or_pos l with h | h
      · exact h
      · obtain ⟨g, f, hA, _⟩ := HW.out.mem h; cases hA
    subst hl0
    go_enter Tryd.func55, Tryd.ntmps55
    go_wp2_with fail
    go_ret
    exact ⟨⟨none, 0, rfl, HW.out.len, Nat.le_refl _, Nat.zero_le _, HW.out.fits, fun h => absurd h (by omega)⟩, Below.refl _ _⟩
  | some ad =>
    obtain ⟨i0, hi, hz0, hz1, hz2⟩ := info_parts (P := Tryd.prog) (e := 48) (z := .int .u64 0) (size := 1) (bytes := 8) (by kernel_rfl)
    go_enter Tryd.func55, Tryd.ntmps55
    go_wp2_with (at_builtin; refine wpList_append_own _ rfl _ _ 22 rfl w.heap.size 48 i0 (.int .u64 0) 1 8 Tryd.underlying22 hi hz0 hz1 hz2 rfl (by decide) _ _ _ rfl (World.ownsRow_made w #[] 0 (Nat.le_refl _) (Nat.zero_le _) rfl) ad l c (vals ws) rfl ?qc1 ?qc2 ?qc3 ?qc4 ?qc5 ?qc6 ?_)
    case qc1 => rw [vals_len, HW.out.len]; omega
    case qc2 =>
      intro j u hj
      have hjl : j < ws.length := by
        have := (List.getElem?_eq_some_iff.1 hj).1
        rwa [vals_len] at this
      obtain ⟨g, f, hA, hg, hc⟩ := HW.out.mem (by have := HW.out.len; omega)
      cases hA
      rw [Addr.add_lit]
      refine Lib.cell?_alloc_some _ ?_
      rw [hc j (by have := HW.out.len; omega)]
      rw [vals_get ws j hjl] at hj
      exact hj
    case qc3 => intro u hu; obtain ⟨x, _, rfl⟩ := List.mem_map.1 hu; rfl
    case qc4 => unfold maxLen; omega
    case qc5 => omega
    case qc6 => simp
    intro v' w1 hown hgrow _
    go_wp2
    go_ret
    have hlen := HW.out.len
    have hB : Below w.heap.size w w1 := ((Below.refl _ w).alloc (Nat.le_refl _) _).grown hgrow (by simp) (by intro k hk; simp [Value.ownBlock] at hk; omega)
    have hown' : w1.ownsRow w.heap.size 48 1 v' ws.length (vals ws) := by rw [hlen]; simpa using hown
    refine ⟨?_, hB⟩
    rcases own_cs hown' with ⟨rfl, h0⟩ | ⟨g, c', rfl, h1, h2, h3, h4⟩
    · have : l = 0 := by rw [← hlen, h0]; rfl
      subst this
      exact ⟨none, 0, rfl, hlen, Nat.le_refl _, Nat.zero_le _, HW.out.fits, fun h => absurd h (by omega)⟩
    · rw [hlen]
      exact ⟨some ⟨g, 0, none⟩, c', rfl, hlen, by omega, h4, HW.out.fits, fun _ => ⟨g, rfl, h1, h2⟩⟩

/-- The list in which the first k words have been turned. -/
def part (ws : List Nat) (F : Nat → Nat) (k : Nat) : List Nat := Bs.tab ws.length fun j => if j < k then F j else ws.getD j 0
theorem part_zero (ws : List Nat) (F : Nat → Nat) : part ws F 0 = ws := by
  have h := Bs.tab_self ws
  unfold part
  refine Eq.trans (Bs.tab_congr fun j _ => ?_) h
  simp
theorem part_all (ws : List Nat) (F : Nat → Nat) {k : Nat} (h : ws.length ≤ k) : part ws F k = Bs.tab ws.length F := Bs.tab_congr fun j hj => if_pos (by omega)
theorem part_len (ws : List Nat) (F : Nat → Nat) (k : Nat) : (part ws F k).length = ws.length := Bs.tab_len _ _
theorem part_get (ws : List Nat) (F : Nat → Nat) (k : Nat) (h : k < ws.length) : (part ws F k).getD k 0 = ws.getD k 0 := by
  unfold part
  rw [Bs.tab_get, if_pos h, if_neg (Nat.lt_irrefl _)]
theorem getD_set (xs : List Nat) (k x j : Nat) : (xs.set k x).getD j 0 = if j = k ∧ k < xs.length then x else xs.getD j 0 := by
  rw [List.getD_eq_getElem?_getD, List.getD_eq_getElem?_getD, List.getElem?_set]
  by_cases h : k = j
  · subst h
    by_cases h2 : k < xs.length
    · simp [h2]
    · simp [h2]
  · rw [if_neg h, if_neg (by omega)]
theorem tab_set (L : Nat) (g : Nat → Nat) (k x : Nat) : (Bs.tab L g).set k x = Bs.tab L fun j => if j = k then x else g j := by
  refine List.ext_getElem (by simp [Bs.tab]) fun j h1 h2 => ?_
  have hj : j < L := by simpa [Bs.tab] using h2
  have e := getD_set (Bs.tab L g) k x j
  rw [List.getD_eq_getElem?_getD, List.getElem?_eq_getElem h1, Option.getD_some] at e
  rw [e]
  have e2 : (Bs.tab L fun j => if j = k then x else g j)[j] = if j = k then x else g j := by simp [Bs.tab]
  rw [e2, Bs.tab_len, Bs.tab_get, if_pos hj]
  by_cases hk : j = k
  · subst hk; simp [hj]
  · simp [hk]
theorem part_step (ws : List Nat) (F : Nat → Nat) (k : Nat) : (part ws F k).set k (F k) = part ws F (k + 1) := by
  unfold part
  rw [tab_set]
  refine Bs.tab_congr fun j hj => ?_
  by_cases h : j = k
  · subst h; simp
  · have : (j < k + 1) ↔ j < k := by omega
    simp [h, this]
theorem fits_set {xs : List Nat} (h : Bs.fits xs) {k x : Nat} (hx : x < 2 ^ 64) : Bs.fits (xs.set k x) := by
  intro j
  rw [getD_set]
  split
  · exact hx
  · exact h j
theorem Ow.other {W : World} {B : Nat} {A : Option Addr} {l c : Nat} {ws : List Nat} (h : Ow W B A l c ws) {p : Addr} (hp : p.block < B) (v : Value) : Ow (W.setCell p v) B A l c ws :=
  ⟨h.len, h.cap, h.big, h.fits, fun h0 => by
    obtain ⟨g, h1, h2, h3⟩ := h.mem h0
    exact ⟨g, h1, h2, h3.other (by omega) v⟩⟩
theorem Ow.set {W : World} {B g l c : Nat} {ws : List Nat} (h : Ow W B (some ⟨g, 0, none⟩) l c ws) (k x : Nat) (hk : k < l) (hx : x < 2 ^ 64) : Ow (W.setCell ⟨g, k, none⟩ (.int .u64 x)) B (some ⟨g, 0, none⟩) l c (ws.set k x) := by
  obtain ⟨g', hg, h2, h3⟩ := h.mem (by omega)
  cases hg
  refine ⟨by rw [List.length_set]; exact h.len, h.cap, h.big, fits_set h.fits hx, fun _ => ⟨g, rfl, h2, ?_⟩⟩
  rw [← vals_set]
  exact h3.set k _ (by rw [vals_len, h.len]; exact hk)

/-- Behind the entry of a function that takes a set and returns one: its box, its result's cell. -/
theorem box2 {w w2 : World} {n : Int} {A : Option Addr} {l c : Nat} (hb : Below ((boxS w n A l c).alloc (.cells #[.int .i64 0, .slice none 0 0] 24)).heap.size ((boxS w n A l c).alloc (.cells #[.int .i64 0, .slice none 0 0] 24)) w2) :
    Cs w2 w.heap.size [.int .i64 n, .slice A l c] ∧ Cs w2 (w.heap.size + 1) [.int .i64 0, .slice none 0 0] ∧ Below w.heap.size w w2 := by
  refine ⟨Cs.next ((boxS_cs w n A l c).alloc _) hb, Cs.next (Cs.new1 w _ _ _) hb, ?_⟩
  refine Below.trans ?_ (hb.mono (by simp [boxS]; omega))
  unfold boxS
  go_grown

theorem not_word (x : Nat) (hx : x < 2 ^ 64) : bits .xor .u64 (if IntKind.u64.signed = true then -1 else IntKind.u64.max) (x : Int) = ((18446744073709551615 - x : Nat) : Int) := by
  have h1 : (if IntKind.u64.signed = true then -1 else IntKind.u64.max) = ((18446744073709551615 : Nat) : Int) := by decide
  rw [h1, u64_xor_nat _ _ (by decide) hx]
  congr 1
  refine Nat.eq_of_testBit_eq fun j => ?_
  rw [Nat.testBit_xor, Bs.not_bit hx, show 18446744073709551615 = 2 ^ 64 - 1 from rfl, Nat.testBit_two_pow_sub_one]
  by_cases hj : j < 64
  · simp [hj]
  · rw [Nat.testBit_lt_two_pow (Nat.lt_of_lt_of_le hx (Nat.pow_le_pow_right (by omega) (by omega)))]
    simp [hj]

theorem pow_word (r : Nat) (hr : r < 64) : IntKind.u64.wrap ((2 : Int) ^ r) = ((2 ^ r : Nat) : Int) := by
  have hp : 2 ^ r < 2 ^ 64 := Nat.pow_lt_pow_right (by omega) hr
  have hpw : ((2 : Int) ^ r) = ((2 ^ r : Nat) : Int) := by rw [Int.natCast_pow]; rfl
  rw [hpw]
  generalize 2 ^ r = y at *
  exact IntWalk.u64_in _ (by omega)
theorem mask_word (x r : Nat) (hx : x < 2 ^ 64) (hr : r < 64) : bits .and .u64 (x : Int) (IntKind.u64.wrap (IntKind.u64.wrap ((2 : Int) ^ r) - 1)) = ((x &&& (2 ^ r - 1) : Nat) : Int) := by
  have hp : 2 ^ r < 2 ^ 64 := Nat.pow_lt_pow_right (by omega) hr
  have h1 := Nat.two_pow_pos r
  rw [pow_word r hr]
  generalize 2 ^ r = y at *
  rw [show ((y : Int) - 1) = ((y - 1 : Nat) : Int) by omega, IntWalk.u64_in _ (by omega)]
  exact u64_and_nat _ _ hx (by omega)

set_option maxHeartbeats 1000000 in
theorem invert_b (n : Nat) (A : Option Addr) (l c : Nat) (ws : List Nat) (hv : Bs.vld n ws = true) (w : World) (hw : Wd w A l c ws) :
    Calls Tryd.prog 48 #[.agg #[.int .i64 n, .slice A l c]] w fun e w' => (∃ A' c', e = .returned (.agg #[.int .i64 n, .slice A' l c']) ∧ Ow w' w.heap.size A' l c' (Bs.mk n fun i => !Bs.bit ws i)) ∧ Below w.heap.size w w' := by
  have hn := Bs.vld_le hv
  have hl : l = (n + 63) / 64 := by rw [← hw.len]; exact Bs.vld_len hv
  have hl6 : l ≤ 64 := by omega
  have HL := Lib.hid hl
  have HLN := Lib.hid hw.len
  have HV := Lib.hid hv
  have HW := Lib.hid (hw.below (boxS_below w n A l c))
  have HF := Lib.hid hw.fits
  clear hl hv hw
  go_enter Tryd.func48, Tryd.ntmps48
  go_wp2_with fail
  go_at_call 55
  refine (clone_b A l c ws hl6 _ (HW.out.below ((Below.refl _ _).alloc (Nat.le_refl _) _))).mono ?_
  rintro e w2 ⟨⟨A', c', rfl, hO⟩, hb⟩
  obtain ⟨hc, hr, hb1⟩ := box2 hb
  have hO2 : Ow w2 (w.heap.size + 2) A' l c' ws := hO.mono (by simp [boxS])
  have HC := Lib.hid hc
  have HR := Lib.hid hr
  have HO := Lib.hid (show Ow w2 (w.heap.size + 2) A' l c' (part ws (fun j => 18446744073709551615 - ws.getD j 0) 0) by rw [part_zero]; exact hO2)
  have HB := Lib.hid hb1
  clear hb hc hr hb1 hO hO2 HW
  go_wp2_with fail
  go_loopw [11] (fun v wr => ∃ k : Nat, k ≤ l ∧ v = .int .i64 k ∧ Hid (Cs wr w.heap.size [.int .i64 n, .slice A l c]) ∧ Hid (Cs wr (w.heap.size + 1) [.int .i64 0, .slice none 0 0]) ∧ Hid (Ow wr (w.heap.size + 2) A' l c' (part ws (fun j => 18446744073709551615 - ws.getD j 0) k)) ∧ Hid (Below w.heap.size w wr)) (fun v _ => l - (intOf v).toNat)
  case atStart => exact ⟨0, by omega, rfl, HC, HR, HO, HB⟩
  case round =>
    clear HC HR HO HB
    obtain ⟨k, hk, rfl, HC, HR, HO, HB⟩ := hrel
    by_cases hlt : k < l
    · obtain ⟨g, hA, hg, hcs⟩ := HO.out.mem (by omega)
      subst hA
      have hx := HF.out k
      obtain ⟨x, hxx⟩ : ∃ x, ws.getD k 0 = x := ⟨_, rfl⟩
      rw [hxx] at hx
      have hcell := hcs.at k _ (vals_get _ k (by rw [part_len, HLN.out]; exact hlt))
      rw [part_get _ _ _ (by rw [HLN.out]; exact hlt), hxx] at hcell
      have hfz := hcs.free k
      have hgl := hcs.lt
      have HO2 := Lib.hid (HO.out.set k (18446744073709551615 - x) hlt (by omega))
      have HS := Lib.hid hcs
      clear hcs
      go_wp2_with fail
      rw [not_word x hx]
      go_roundw
      case rel => exact ⟨k + 1, by omega, by go_num, HC.out.other (by show g ≠ _; omega) _, HR.out.other (by show g ≠ _; omega) _, (by rw [← part_step]; have := HO2; rw [← hxx]; rw [← hxx] at this; exact this), HB.out.setCell (by show _ ≤ g; omega) _⟩
      case measure => simp [intOf]; omega
    · obtain rfl : k = l := by omega
      rw [part_all _ _ (by rw [HLN.out]; exact Nat.le_refl _)] at HO
      have c0 := HC.out.at 0 _ rfl
      have r0 := HR.out.at 0 _ rfl
      have r1 := HR.out.at 1 _ rfl
      have f0 := HR.out.free 0
      have f1 := HR.out.free 1
      by_cases h64 : n % 64 = 0
      · have hy : Bs.tab ws.length (fun j => 18446744073709551615 - ws.getD j 0) = Bs.mk n fun i => !Bs.bit ws i := by
          rw [← Bs.inv_mk HV.out HF.out]
          refine Bs.tab_congr fun j _ => ?_
          unfold Bs.inv
          rw [if_neg (by omega)]
        rw [hy] at HO
        clear hy
        have hd : ((n : Int) % 64 != 0) = false := by simp; omega
        go_wp2_with fail
        have k0 := World.cell?_setCell_same wr ⟨w.heap.size + 1, 0, none⟩ (.int .i64 n) r0
        have k1 := World.cell?_setCell_same (wr.setCell ⟨w.heap.size + 1, 0, none⟩ (.int .i64 n)) ⟨w.heap.size + 1, 1, none⟩ (.slice A' k c') (((HR.out.set 0 (.int .i64 n) (by simp)).at 1 _ rfl))
        refine bodyPost_ret (v := .agg #[.int .i64 n, .slice A' k c']) (by simp [results, Tryd.results48, go_sem, k0, k1]) rfl ?_
        exact ⟨⟨A', c', rfl, ((HO.out.other (by show w.heap.size + 1 < _; omega) _).other (by show w.heap.size + 1 < _; omega) _).mono (by omega)⟩, (HB.out.setCell (by show _ ≤ w.heap.size + 1; omega) _).setCell (by show _ ≤ w.heap.size + 1; omega) _⟩
      · have hl1 : 0 < k := by have := HL.out; omega
        obtain ⟨p, rfl⟩ : ∃ p, k = p + 1 := ⟨k - 1, by omega⟩
        obtain ⟨g, hA, hg, hcs⟩ := HO.out.mem (by omega)
        subst hA
        have hx := HF.out p
        obtain ⟨x, hxx⟩ : ∃ x, ws.getD p 0 = x := ⟨_, rfl⟩
        rw [hxx] at hx
        have hcell := hcs.at p _ (vals_get _ p (by rw [Bs.tab_len, HLN.out]; omega))
        rw [Bs.tab_get, if_pos (by rw [HLN.out]; omega), hxx] at hcell
        have hfz := hcs.free p
        have hgl := hcs.lt
        have HS := Lib.hid hcs
        have hd : ((n : Int) % 64 != 0) = true := by simp; omega
        have hp1 : (((p + 1 : Nat) : Int) - 1) = (p : Int) := by omega
        clear hcs
        go_wp2_with fail
        go_region
        rw [mask_word _ _ (Nat.lt_of_le_of_lt (Nat.sub_le _ _) (by decide)) (by omega)]
        obtain ⟨y, hy⟩ : ∃ y, (18446744073709551615 - x) &&& (2 ^ (n % 64) - 1) = y := ⟨_, rfl⟩
        have hy2 : y < 2 ^ 64 := by rw [← hy]; exact Nat.lt_of_le_of_lt Nat.and_le_left (Nat.lt_of_le_of_lt (Nat.sub_le _ _) (by decide))
        have hinv : (Bs.tab ws.length fun j => 18446744073709551615 - ws.getD j 0).set p y = Bs.mk n fun i => !Bs.bit ws i := by
          rw [← Bs.inv_mk HV.out HF.out, tab_set]
          refine Bs.tab_congr fun j _ => ?_
          unfold Bs.inv
          by_cases hj : j = p
          · rw [if_pos hj, if_pos ⟨h64, by rw [HLN.out]; omega⟩, hj, hxx, hy]
          · rw [if_neg hj, if_neg (by rw [HLN.out]; omega)]
        rw [hy]
        have HO3 := Lib.hid ((HO.out.set p y (by omega) hy2).below (Below.refl _ _).drew)
        rw [hinv] at HO3
        have HC3 := Lib.hid ((HC.out.other (p := ⟨g, p, none⟩) (by show g ≠ _; omega) (.int .u64 y)).drew)
        have HR3 := Lib.hid ((HR.out.other (p := ⟨g, p, none⟩) (by show g ≠ _; omega) (.int .u64 y)).drew)
        have HB3 := Lib.hid ((HB.out.setCell (p := ⟨g, p, none⟩) (by show _ ≤ g; omega) (.int .u64 y)).drew)
        clear HO HS HC HR HB c0 r0 r1 f0 f1 hcell hfz hgl hinv hy
        obtain ⟨w3, hw3⟩ : ∃ w3, (wr.setCell ⟨g, p, none⟩ (.int .u64 y)).drew = w3 := ⟨_, rfl⟩
        rw [hw3] at HO3 HC3 HR3 HB3 ⊢
        clear hw3
        have c0 := HC3.out.at 0 _ rfl
        have r0 := HR3.out.at 0 _ rfl
        have r1 := HR3.out.at 1 _ rfl
        have f0 := HR3.out.free 0
        have f1 := HR3.out.free 1
        go_wp2_with fail
        have k0 := World.cell?_setCell_same w3 ⟨w.heap.size + 1, 0, none⟩ (.int .i64 n) r0
        have k1 := World.cell?_setCell_same (w3.setCell ⟨w.heap.size + 1, 0, none⟩ (.int .i64 n)) ⟨w.heap.size + 1, 1, none⟩ (.slice (some ⟨g, 0, none⟩) (p + 1) c') (((HR3.out.set 0 (.int .i64 n) (by simp)).at 1 _ rfl))
        refine bodyPost_ret (v := .agg #[.int .i64 n, .slice (some ⟨g, 0, none⟩) (p + 1) c']) (by simp [results, Tryd.results48, go_sem, k0, k1]) rfl ?_
        exact ⟨⟨_, c', rfl, ((HO3.out.other (by show w.heap.size + 1 < _; omega) _).other (by show w.heap.size + 1 < _; omega) _).mono (by omega)⟩, (HB3.out.setCell (by show _ ≤ w.heap.size + 1; omega) _).setCell (by show _ ≤ w.heap.size + 1; omega) _⟩
end Go.Proofs.YtpapbpekihgnlaaDoor
