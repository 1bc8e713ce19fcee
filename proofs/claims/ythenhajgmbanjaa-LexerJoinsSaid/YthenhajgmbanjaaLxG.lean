/-
  The walk over the program's Lex.
-/
import Derived.Test.YthenhajgmbanjaaLxF
namespace Go.Proofs.Ythenhajgmbanjaa
open Go.RowKit

/-- The cells of a slice: n elements of 'size' cells each. -/
def Rd (w : World) (size : Nat) (A : Option Addr) (n : Nat) (xs : List Value) : Prop :=
  xs.length = n * size ∧ (0 < n → ∃ g, A = some ⟨g, 0, none⟩ ∧ g < w.heap.size ∧ ∀ (j : Nat) u, xs[j]? = some u → w.cell? ⟨g, j, none⟩ = some u)
theorem Rd.below {w w' : World} {size : Nat} {A : Option Addr} {n : Nat} {xs : List Value} (h : Rd w size A n xs) (hb : Below w.heap.size w w') : Rd w' size A n xs :=
  ⟨h.1, fun h0 => by
    obtain ⟨g, hA, hg, hc⟩ := h.2 h0
    exact ⟨g, hA, Nat.lt_of_lt_of_le hg hb.size, fun j u hu => (hb.cell (p := ⟨g, j, none⟩) hg).trans (hc j u hu)⟩⟩
theorem Rd.of_own {w : World} {base e size n c : Nat} {A : Option Addr} {xs : List Value} (h : w.ownsRow base e size (.slice A n c) n xs) : Rd w size A n xs := by
  refine ⟨h.1, fun h0 => ?_⟩
  rcases h.2 with ⟨_, h1⟩ | ⟨g, cap, cur, hv, hg, hh, r1, r2, r3, r4⟩
  · omega
  · simp only [Value.slice.injEq] at hv
    obtain ⟨rfl, -, rfl⟩ := hv
    have hlt : g < w.heap.size := by
      rcases Nat.lt_or_ge g w.heap.size with h | h
      · exact h
      · rw [Array.getElem?_eq_none h] at hh; cases hh
    refine ⟨g, rfl, hlt, fun j u hu => ?_⟩
    have hj : j < n * size := by
      have := (List.getElem?_eq_some_iff.1 hu).1
      rw [h.1] at this; exact this
    rw [h.cellAt j hj]; exact hu
theorem own_below {w w' : World} {base e size n : Nat} {v : Value} {xs : List Value} (h : w.ownsRow base e size v n xs) (hb : Below w.heap.size w w') : w'.ownsRow base e size v n xs := by
  obtain ⟨h1, h2⟩ := h
  refine ⟨h1, ?_⟩
  rcases h2 with h2 | ⟨g, cap, cur, hv, hg, hh, r⟩
  · exact .inl h2
  · refine .inr ⟨g, cap, cur, hv, hg, ?_, r⟩
    have hlt : g < w.heap.size := by
      rcases Nat.lt_or_ge g w.heap.size with h | h
      · exact h
      · rw [Array.getElem?_eq_none h] at hh; cases hh
    rw [hb.block g hlt]; exact hh
theorem own_cap {w : World} {base e size n c : Nat} {A : Option Addr} {xs : List Value} (h : w.ownsRow base e size (.slice A n c) n xs) : n ≤ c := by
  rcases h.2 with ⟨_, h1⟩ | ⟨g, cap, cur, hv, hg, hh, r1, r2, r3, r4⟩
  · omega
  · simp only [Value.slice.injEq] at hv
    obtain ⟨_, _, rfl⟩ := hv
    exact r1
theorem own_form {w : World} {base e size n : Nat} {v : Value} {xs : List Value} (h : w.ownsRow base e size v n xs) : ∃ A c, v = .slice A n c := by
  rcases h.2 with ⟨h1, h2⟩ | ⟨g, cap, cur, hv, _⟩
  · subst h2; exact ⟨_, _, h1⟩
  · exact ⟨_, _, hv⟩

def tcells (t : Lx.Tok) : List Value := [.int .i64 t.kind, .string ⟨t.text.toArray⟩, .int .i64 t.at_]
def tvals (ts : List Lx.Tok) : List Value := ts.flatMap tcells
theorem tvals_snoc (ts : List Lx.Tok) (t : Lx.Tok) : tvals (ts ++ [t]) = tvals ts ++ tcells t := by simp [tvals]
theorem tvals_len (ts : List Lx.Tok) : (tvals ts).length = ts.length * 3 := by
  induction ts with
  | nil => rfl
  | cons t ts ih => simp only [tvals, List.flatMap_cons, List.length_append, List.length_cons] at ih ⊢; rw [ih]; simp [tcells]; omega

def resAt (r : List Lx.Tok × Option (Nat × Nat)) : Nat := match r.2 with | none => 0 | some x => x.1
def resCode (r : List Lx.Tok × Option (Nat × Nat)) : Nat := match r.2 with | none => 0 | some x => x.2
def resToks (r : List Lx.Tok × Option (Nat × Nat)) : List Lx.Tok := match r.2 with | none => r.1 | some _ => []
/-- What Lex hands back. -/
def LexPost (r : List Lx.Tok × Option (Nat × Nat)) (w : World) (e : Ending) (w' : World) : Prop :=
  (∃ A c, e = .returned (.tuple #[.slice A (resToks r).length c, .int .i64 (resAt r), .int .i64 (resCode r)]) ∧ Rd w' 3 A (resToks r).length (tvals (resToks r)) ∧ (resToks r).length ≤ c) ∧ Below w.heap.size w w'
def pre (acc : List Lx.Tok) (r : List Lx.Tok × Option (Nat × Nat)) : List Lx.Tok × Option (Nat × Nat) := (acc ++ r.1, r.2)
theorem lexPost_done (r : List Lx.Tok × Option (Nat × Nat)) (w w' : World) (acc : List Lx.Tok) (A : Option Addr) (c n : Nat) (hr : r = (acc, none)) (hn : n = acc.length) (hown : w'.ownsRow w.heap.size 31 3 (.slice A n c) n (tvals acc)) (hb : Below w.heap.size w w') :
    LexPost r w (.returned (.tuple #[.slice A n c, .int .i64 0, .int .i64 0])) w' := by
  subst hr hn
  exact ⟨⟨A, c, rfl, Rd.of_own hown, own_cap hown⟩, hb⟩
theorem lexPost_err (r : List Lx.Tok × Option (Nat × Nat)) (w w' : World) (ts : List Lx.Tok) (i c : Nat) (hr : r = (ts, some (i, c))) (hb : Below w.heap.size w w') :
    LexPost r w (.returned (.tuple #[.slice none 0 0, .int .i64 i, .int .i64 c])) w' := by
  subst hr
  exact ⟨⟨none, 0, rfl, ⟨by simp [resToks, tvals], fun h => absurd h (by simp [resToks])⟩, by simp [resToks]⟩, hb⟩
theorem tokInfo : (Try.prog.info? 31).map (fun i => (i.zero, i.size, i.bytes)) = some (some (.agg #[.int .i64 0, .string ⟨#[]⟩, .int .i64 0]), 3, 32) := by kernel_rfl

/-- What a token does to the rest. -/
theorem lex_step (s : ByteArray) (k n : Nat) (acc : List Lx.Tok) (hlt : k < s.size) (h1 : Lx.white s[k] = false) (h2 : (s[k] == 35) = false) (h0 : (Lx.tokOf (s.data.toList.drop k)).1 = 0) (hn : n = (Lx.tokOf (s.data.toList.drop k)).2.2) :
    pre acc (Lx.lex k (s.data.toList.drop k)) = pre (acc ++ [⟨(Lx.tokOf (s.data.toList.drop k)).2.1, (s.data.toList.drop k).take n, k⟩]) (Lx.lex (k + n) (s.data.toList.drop (k + n))) := by
  subst hn
  have hd := drop_at s k hlt
  have h := Lx.lex_tok k s[k] (s.data.toList.drop (k + 1)) h1 h2 (by rw [← hd]; exact h0)
  rw [← hd] at h
  rw [h, List.drop_drop]
  simp [pre, Lx.cons]
theorem lex_stop (s : ByteArray) (k : Nat) (acc : List Lx.Tok) (hlt : k < s.size) (h1 : Lx.white s[k] = false) (h2 : (s[k] == 35) = false) (h0 : (Lx.tokOf (s.data.toList.drop k)).1 ≠ 0) :
    pre acc (Lx.lex k (s.data.toList.drop k)) = (acc, some (k, (Lx.tokOf (s.data.toList.drop k)).1)) := by
  have hd := drop_at s k hlt
  have h := Lx.lex_err k s[k] (s.data.toList.drop (k + 1)) h1 h2 (by rw [← hd]; exact h0)
  rw [← hd] at h
  rw [h]
  simp [pre]

theorem next_err (s : ByteArray) (i c : Nat) (w : World) (hs : s.size ≤ 9000) (hi : i < s.size) (hm : ML w) (HC : Hid (c = (Lx.tokOf (s.data.toList.drop i)).1)) :
    Calls Try.prog 22 #[.string s, .int .i64 i] w fun e w' => (∃ (k : Int) (tx : ByteArray) (a : Int), e = .returned (.tuple #[.agg #[.int .i64 k, .string tx, .int .i64 a], .int .i64 c])) ∧ Below w.heap.size w w' := by
  have h : c = (Lx.tokOf (s.data.toList.drop i)).1 := HC
  rw [h]
  refine (next_any s i w hs hi hm).mono ?_
  rintro e w' ⟨⟨k, tx, a, he, _⟩, hb⟩
  exact ⟨⟨k, tx, a, he⟩, hb⟩
theorem next_ok (s : ByteArray) (i k m : Nat) (w : World) (hs : s.size ≤ 9000) (hi : i < s.size) (hm : ML w) (HC : Hid ((Lx.tokOf (s.data.toList.drop i)).1 = 0)) (HK : Hid (k = (Lx.tokOf (s.data.toList.drop i)).2.1)) (HM : Hid (m = (Lx.tokOf (s.data.toList.drop i)).2.2)) :
    Calls Try.prog 22 #[.string s, .int .i64 i] w fun e w' => (∃ (tx : ByteArray), e = .returned (.tuple #[.agg #[.int .i64 k, .string tx, .int .i64 i], .int .i64 0]) ∧ tx.data.toList = (s.data.toList.drop i).take m) ∧ Below w.heap.size w w' := by
  have h1 : k = (Lx.tokOf (s.data.toList.drop i)).2.1 := HK
  have h2 : m = (Lx.tokOf (s.data.toList.drop i)).2.2 := HM
  refine (next_any s i w hs hi hm).mono ?_
  rintro e w' ⟨⟨k', tx, a, he, hd⟩, hb⟩
  obtain ⟨e1, e2, e3⟩ := hd HC.out
  refine ⟨⟨tx, ?_, ?_⟩, hb⟩
  · rw [he, HC.out, e1, e3, h1]; rfl
  · rw [e2, h2]

set_option maxHeartbeats 1000000 in
theorem lex_any (s : ByteArray) (w : World) (hs : s.size ≤ 8192) (hm : ML w) :
    Calls Try.prog 11 #[.string s] w (LexPost (Lx.lex 0 s.data.toList) w) := by
  obtain ⟨r, hr⟩ : ∃ r, r = Lx.lex 0 s.data.toList := ⟨_, rfl⟩
  rw [← hr]
  have HR := Lib.hid hr
  clear hr
  have hmp := hm.pos
  obtain ⟨i0, hi, hz0, hz1, hz2⟩ := info_parts tokInfo
  go_enter Try.func11, Try.ntmps11
  go_wp2_with fail
  go_loopw [5, 6] (fun u v wr => ∃ (k : Nat) (acc : List Lx.Tok) (n : Nat) (A : Option Addr) (c : Nat), k ≤ s.size ∧ n ≤ k ∧ Hid (n = acc.length) ∧ u = .slice A n c ∧ v = .int .i64 k ∧ wr.ownsRow w.heap.size 31 3 (.slice A n c) n (tvals acc) ∧ Below w.heap.size w wr ∧ Hid (r = pre acc (Lx.lex k (s.data.toList.drop k))))
    (fun _ v _ => s.size - (intOf v).toNat)
  case atStart => exact ⟨0, [], 0, none, 0, by omega, by omega, rfl, rfl, rfl, World.ownsRow_nil _ _ _ _, Below.refl _ _, by show r = _; rw [HR.out]; simp [pre]⟩
  case round =>
    obtain ⟨k, acc, n, A, c, hk, hnk, HNL, rfl, rfl, hown, hbel, H⟩ := hrel
    by_cases hlt : k < s.size
    · by_cases hw : Lx.white s[k] = true
      · have hc : ((s[k].toNat : Int) == 32) = true ∨ (((s[k].toNat : Int) == 32) = false ∧ ((s[k].toNat : Int) == 9) = true) ∨ (((s[k].toNat : Int) == 32) = false ∧ ((s[k].toNat : Int) == 9) = false ∧ ((s[k].toNat : Int) == 10) = true) := by
          unfold Lx.white at hw
          rw [show (32 : Int) = ((32 : UInt8).toNat : Int) from rfl, show (9 : Int) = ((9 : UInt8).toNat : Int) from rfl, show (10 : Int) = ((10 : UInt8).toNat : Int) from rfl, u8_beq, u8_beq, u8_beq]
          cases e1 : s[k] == 32 <;> cases e2 : s[k] == 9 <;> simp_all
        have HW : Hid (Lx.lex k (s.data.toList.drop k) = Lx.lex (k + 1) (s.data.toList.drop (k + 1))) := lex_space s k hlt hw
        clear hw
        rcases hc with hc | ⟨hc1, hc2⟩ | ⟨hc1, hc2, hc3⟩
        all_goals
          go_wp2_with fail
          go_roundw
          case rel => exact ⟨k + 1, acc, n, A, c, by omega, by omega, HNL, rfl, by go_num, hown, hbel, by show r = _; rw [H.out, HW.out]⟩
          case measure => simp [intOf]; omega
      · have hw' : Lx.white s[k] = false := by simpa using hw
        have hc : ((s[k].toNat : Int) == 32) = false ∧ ((s[k].toNat : Int) == 9) = false ∧ ((s[k].toNat : Int) == 10) = false := by
          unfold Lx.white at hw'
          rw [show (32 : Int) = ((32 : UInt8).toNat : Int) from rfl, show (9 : Int) = ((9 : UInt8).toNat : Int) from rfl, show (10 : Int) = ((10 : UInt8).toNat : Int) from rfl, u8_beq, u8_beq, u8_beq]
          cases e1 : s[k] == 32 <;> cases e2 : s[k] == 9 <;> simp_all
        obtain ⟨hc1, hc2, hc3⟩ := hc
        have HW := Lib.hid hw'
        clear hw hw'
        by_cases hh : s[k] = 35
        · have h1 : ((s[k].toNat : Int) == 35) = true := by rw [hh]; rfl
          have HH : Hid (s[k] = 35) := hh
          clear hh
          go_wp2_with fail
          obtain ⟨wo, rfl⟩ : ∃ wo : World, wo = wr := ⟨_, rfl⟩
          go_loop [6] (fun v => ∃ j : Nat, k ≤ j ∧ j ≤ s.size ∧ v = .int .i64 j ∧ Hid (Lx.skipc (s.data.toList.drop k) = j - k + Lx.skipc (s.data.toList.drop j))) (fun v => s.size - (intOf v).toNat)
          case atStart => exact ⟨k, Nat.le_refl _, hk, rfl, by show _ = _; omega⟩
          case round =>
            obtain ⟨j, hkj, hj, rfl, H2⟩ := hrel
            by_cases hlt2 : j < s.size
            · by_cases hn : s[j] = 10
              · have h2 : ((s[j].toNat : Int) == 10) = true := by rw [hn]; rfl
                have HN : Hid (Lx.skipc (s.data.toList.drop j) = 0) := skipc_nl s j hlt2 hn
                have hne : k < j := by
                  rcases Nat.lt_or_ge k j with h | h
                  · exact h
                  · have e : k = j := by omega
                    subst e
                    have := HH.out
                    rw [hn] at this
                    exact absurd this (by decide)
                clear hn
                go_wp2_with fail
                go_roundw
                case rel => exact ⟨j, acc, n, A, c, by omega, by omega, HNL, rfl, rfl, hown, hbel, by show r = _; rw [H.out, (comment_to s k k j hlt hkj rfl HH H2 HN).out]⟩
                case measure => simp [intOf]; omega
              · have h2 : (s[j] == 10) = false := by simpa using hn
                have h3 : ((s[j].toNat : Int) == 10) = false := by rw [show (10 : Int) = ((10 : UInt8).toNat : Int) from rfl, u8_beq]; exact h2
                have HS : Hid (Lx.skipc (s.data.toList.drop j) = Lx.skipc (s.data.toList.drop (j + 1)) + 1) := skipc_at s j hlt2 h2
                clear hn h2
                go_wp2_with fail
                go_round
                case rel => exact ⟨j + 1, by omega, by omega, by go_num, by show _ = _; rw [H2.out, HS.out]; omega⟩
                case measure => simp [intOf]; omega
            · have HN : Hid (Lx.skipc (s.data.toList.drop j) = 0) := skipc_end s j (by omega)
              go_wp2_with fail
              go_roundw
              case rel => exact ⟨j, acc, n, A, c, by omega, by omega, HNL, rfl, rfl, hown, hbel, by show r = _; rw [H.out, (comment_to s k k j hlt hkj rfl HH H2 HN).out]⟩
              case measure => simp [intOf]; omega
        · have h1 : (s[k] == 35) = false := by simpa using hh
          have h2 : ((s[k].toNat : Int) == 35) = false := by rw [show (35 : Int) = ((35 : UInt8).toNat : Int) from rfl, u8_beq]; exact h1
          have H1 := Lib.hid h1
          clear hh h1
          by_cases hcode : (Lx.tokOf (s.data.toList.drop k)).1 = 0
          · obtain ⟨m, hmm⟩ : ∃ m, m = (Lx.tokOf (s.data.toList.drop k)).2.2 := ⟨_, rfl⟩
            obtain ⟨kd, hkd⟩ : ∃ kd, kd = (Lx.tokOf (s.data.toList.drop k)).2.1 := ⟨_, rfl⟩
            have hpos : 0 < m := by rw [hmm]; exact Lx.tok_pos _ hcode
            have hle : k + m ≤ s.size := by
              have := Lx.tok_le (s.data.toList.drop k)
              rw [← hmm, List.length_drop, len_at] at this
              omega
            have HS := Lib.hid (lex_step s k m acc hlt HW.out H1.out hcode hmm)
            have HC := Lib.hid hcode
            have HM := Lib.hid hmm
            have HK := Lib.hid hkd
            clear hcode hmm hkd
            go_wp2_with fail
            refine (next_ok s k kd m wr (by omega) hlt (hm.below hmp hbel) HC HK HM).mono ?_
            rintro e w1 ⟨⟨tx, rfl, htx⟩, hb1⟩
            have HTX := Lib.hid htx
            have hts : tx.size = m := by
              rw [← len_at tx, htx, List.length_take, List.length_drop, len_at]; omega
            have HTS := Lib.hid hts
            have hown1 := own_below hown hb1
            have hsz1 := hb1.size
            have hbel1 : Below w.heap.size w w1 := hbel.trans (hb1.mono hbel.size)
            clear htx hts hb1 hown
            go_wp2_with (at_builtin; refine wpList_append_own _ rfl _ _ 23 rfl w.heap.size 31 i0 (.agg #[.int .i64 0, .string ⟨#[]⟩, .int .i64 0]) 3 32 Try.underlying23 hi hz0 hz1 hz2 rfl (by decide) _ n (tvals acc) rfl ((hown1.alloc _).alloc _) ⟨w1.heap.size + 1, 0, none⟩ 1 1 [.int .i64 kd, .string tx, .int .i64 k] rfl rfl ?c1 ?c2 ?c3 ?c4 ?c5 ?_)
            case c1 =>
              intro j u hj
              match j, hj with
              | 0, hj => simp at hj; subst hj; simp [Addr.add]
              | 1, hj => simp at hj; subst hj; simp [Addr.add]
              | 2, hj => simp at hj; subst hj; simp [Addr.add]
            case c2 => intro u hu; simp at hu; rcases hu with rfl | rfl | rfl <;> rfl
            case c3 => unfold maxLen; omega
            case c4 => omega
            case c5 => simp; have := hbel1.size; omega
            · intro v' w2 hown2 hgrow _
              have hcell := hgrow.cell (a := ⟨w1.heap.size, 1, none⟩) (v := .string tx) (by simp) (fun e => by have := (hown1.lt _ e.symm).2; exact absurd this (Nat.lt_irrefl _))
              have hbel2 : Below w.heap.size w w2 := ((hbel1.alloc hbel1.size _).alloc (by simp; have := hbel1.size; omega) _).grown hgrow (by simp; have := hbel1.size; omega) (fun q hq => (hown1.lt q hq).1)
              have HV := Lib.hid (own_form hown2)
              have hmz : (tx.size : Int) ≤ 8192 := by have := HTS.out; omega
              have hkz : k + tx.size ≤ s.size := by have := HTS.out; omega
              have hpz : 0 < tx.size := by have := HTS.out; omega
              clear hgrow hown1 hsz1 hbel hbel1 hle hpos
              go_wp2_with fail
              go_roundw
              case rel =>
                obtain ⟨A', c', hv⟩ := HV.out
                subst hv
                refine ⟨k + tx.size, acc ++ [⟨kd, (s.data.toList.drop k).take m, k⟩], n + 1, A', c', by omega, by omega, by show n + 1 = _; rw [HNL.out]; simp, rfl, by go_num, ?_, hbel2, ?_⟩
                · rw [tvals_snoc]
                  have e1 : tcells ⟨kd, (s.data.toList.drop k).take m, k⟩ = [.int .i64 kd, .string tx, .int .i64 k] := by
                    unfold tcells; rw [bstr_eq HTX.out]
                  rw [e1]; exact hown2
                · show r = _
                  rw [H.out, HS.out, HTS.out, ← HK.out]
              case measure => simp [intOf]; omega
          · have HS := Lib.hid (lex_stop s k acc hlt HW.out H1.out hcode)
            obtain ⟨cd, hcd⟩ : ∃ cd, cd = (Lx.tokOf (s.data.toList.drop k)).1 := ⟨_, rfl⟩
            have hc0 : ((cd : Int) == 0) = false := by rw [beq_eq_false_iff_ne]; omega
            have HC := Lib.hid hcd
            have HCN := Lib.hid hcode
            clear hcode hcd
            go_wp2_with fail
            refine (next_err s k cd wr (by omega) hlt (hm.below hmp hbel) HC).mono ?_
            rintro e w1 ⟨⟨kd, tx, a, rfl⟩, hb1⟩
            go_wp2_with fail
            go_ret3
            exact lexPost_err r w _ acc k cd (by rw [H.out, HS.out, HC.out]) ((hbel.trans (hb1.mono hbel.size)).alloc (by have := hb1.size; have := hbel.size; omega) _)
    · have he : k = s.size := by omega
      subst he
      have HE : Hid (r = (acc, none)) := by
        show r = _
        rw [H.out, drop_end s _ (Nat.le_refl _), Lx.lex_nil]; simp [pre]
      clear H
      go_wp2_with fail
      go_ret3
      exact lexPost_done r w _ acc A c n HE.out HNL.out hown hbel
end Go.Proofs.Ythenhajgmbanjaa
