/-
  Worlds that keep blocks, and rows of integers whose block is known (a part of FlDf, for the seat of the runs); no program is in sight here.
  The walks over the reference's at and Start.
  The walks over the reference's set and HatchValues.
-/
import Derived.Test.YtjpjmoejdkmglaaGreatFlMm
import Derived.Test.YtjpjmoejdkmglaaGreatJK
import Derived.Test.YtjpjmoejdkmglaaGreatJG
import Derived.Test.YtjpjmoejdkmglaaGreatFlMd
import Derived.Deep.AppendLies
import Derived.Test.YtjpjmoejdkmglaaGreatJH
import Derived.StillTailTactics
namespace Go.Proofs.YtjpjmoejdkmglaaGreat
open Go.RowKit

/-- From world to world: the blocks of S are there and unchanged, and they are of S'. -/
def Keeps (S S' : Nat → Prop) (w w' : World) : Prop := ∀ b, b < w.heap.size → S b → S' b ∧ b < w'.heap.size ∧ ∀ j, w'.cell? ⟨b, j, none⟩ = w.cell? ⟨b, j, none⟩
theorem Keeps.below {S : Nat → Prop} {w w' : World} (hb : Below w.heap.size w w') : Keeps S S w w' := fun b h hs => ⟨hs, Nat.lt_of_lt_of_le h hb.size, fun j => hb.cell (p := ⟨b, j, none⟩) h⟩
theorem Keeps.mono {S S' : Nat → Prop} {w : World} (h : ∀ b, b < w.heap.size → S b → S' b) : Keeps S S' w w := fun b hb hs => ⟨h b hb hs, hb, fun _ => rfl⟩
theorem Keeps.fr {S T : Nat → Prop} {w w' : World} (hf : Fr T w w') (h : ∀ b, S b → ¬ T b) : Keeps S S w w' := fun b hb hs => ⟨hs, Nat.lt_of_lt_of_le hb hf.size, fun j => hf.cell (p := ⟨b, j, none⟩) hb (h b hs)⟩
theorem Keeps.trans {S S' S'' : Nat → Prop} {w w' w'' : World} (h : Keeps S S' w w') (k : Keeps S' S'' w' w'') : Keeps S S'' w w'' := fun b hb hs => by
  obtain ⟨h1, h2, h3⟩ := h b hb hs
  obtain ⟨k1, k2, k3⟩ := k b h2 h1
  exact ⟨k1, k2, fun j => (k3 j).trans (h3 j)⟩
/-- Integers whose block is in S. -/
def ZsN (S : Nat → Prop) (w : World) (A : Option Addr) (l c : Nat) (zs : List Int) : Prop := Zs w A l c zs ∧ (0 < l → ∀ ad, A = some ad → S ad.block)
theorem ZsN.to {S S' : Nat → Prop} {w w' : World} {A : Option Addr} {l c : Nat} {zs : List Int} (h : ZsN S w A l c zs) (hb : Keeps S S' w w') : ZsN S' w' A l c zs := by
  refine ⟨⟨h.1.len, h.1.cap, h.1.big, fun h0 => ?_⟩, fun h0 ad ha => ?_⟩
  · obtain ⟨g, f, h1, h2, h3⟩ := h.1.mem h0
    obtain ⟨b1, b2, b3⟩ := hb g h2 (h.2 h0 _ h1)
    exact ⟨g, f, h1, b2, fun j hj => (b3 _).trans (h3 j hj)⟩
  · obtain ⟨g, f, h1, h2, h3⟩ := h.1.mem h0
    obtain ⟨b1, b2, b3⟩ := hb g h2 (h.2 h0 _ h1)
    rw [ha] at h1
    cases h1
    exact b1
theorem Zs.zsN {w : World} {A : Option Addr} {l c : Nat} {zs : List Int} (h : Zs w A l c zs) : ZsN (fun b => b < w.heap.size) w A l c zs := ⟨h, fun h0 ad ha => by
  obtain ⟨g, f, h1, h2, h3⟩ := h.mem h0
  rw [ha] at h1
  cases h1
  exact h2⟩

set_option maxHeartbeats 1000000 in
theorem rat_b (zs : List Int) (A : Option Addr) (l c i : Nat) (w : World) (hz : Zs w A l c zs) :
    Calls Tryz.prog 52 #[.slice A l c, .int .i64 (i : Nat)] w fun e w' => e = .returned (.tuple #[.int .i64 (zs.getD i 0), .bool (decide (i < l))]) ∧ w = w' := by
  have hlm : l ≤ 9223372036854775807 := by have h1 := hz.cap; have h2 := hz.big; unfold maxLen at h2; omega
  by_cases h : i < l
  · obtain ⟨g, f, hA, hg, hc⟩ := hz.mem (by omega)
    subst hA
    have c0 := hc i h
    have h1 : ¬ (l : Int) ≤ (i : Int) := by omega
    have h2 : (i : Int) < (l : Int) := by omega
    rw [decide_eq_true h]
    clear hc hz
    go_enter Tryz.func52, Tryz.ntmps52
    go_wp2_with fail
    go_ret2
    exact ⟨rfl, rfl⟩
  · have h1 : (l : Int) ≤ (i : Int) := by omega
    have h3 : zs.getD i 0 = 0 := by rw [List.getD_eq_getElem?_getD, List.getElem?_eq_none (by rw [hz.len]; omega)]; rfl
    rw [h3, decide_eq_false h]
    clear hz h3
    go_enter Tryz.func52, Tryz.ntmps52
    go_wp2_with fail
    go_ret2
    exact ⟨rfl, rfl⟩

set_option maxRecDepth 100000 in
set_option maxHeartbeats 16000000 in
theorem rstart_b (vs : List Vr) (S P Q : List Int) (Av : Option Addr) (lv cv : Nat) (As : Option Addr) (ls cs : Nat) (Ap : Option Addr) (lp cp : Nat) (Ar : Option Addr) (lr cr : Nat) (w : World) (hv : VOk w Av lv cv vs) (hzs : Zs w As ls cs S) (hzp : Zs w Ap lp cp P) (hzr : Zs w Ar lr cr Q) (hlv : lv ≤ 1000)
    (hkd : ∀ v ∈ vs, (0 ≤ v.kind ∧ v.kind ≤ 3) ∧ (v.kind = 0 → v.low ≤ v.init ∧ v.init ≤ v.high)) (r : Int) (vals : List Int) (H : Hid (startP vs ⟨S, P, Q⟩ = (r, vals))) :
    Calls Tryz.prog 23 #[.slice Av lv cv, .agg #[.slice As ls cs, .slice Ap lp cp, .slice Ar lr cr]] w fun e w' => ((r ≠ 0 ∧ e = .returned (.tuple #[.slice none 0 0, .int .i64 r])) ∨ (r = 0 ∧ ∃ A' c', e = .returned (.tuple #[.slice A' vals.length c', .int .i64 0]) ∧ ZsN (fun b => w.heap.size ≤ b) w' A' vals.length c' vals)) ∧ Below w.heap.size w w' := by
  have hba := (Below.refl w.heap.size w).alloc (Nat.le_refl _) (.cells #[.slice As ls cs, .slice Ap lp cp, .slice Ar lr cr] 29)
  have hbb := hba.alloc hba.size (.cells #[] 3)
  have HB := Lib.hid hbb
  have HN := Lib.hid ((Cs.new w #[.slice As ls cs, .slice Ap lp cp, .slice Ar lr cr] 29).alloc (.cells #[] 3))
  have HW : Hid (((w.alloc (.cells #[.slice As ls cs, .slice Ap lp cp, .slice Ar lr cr] 29)).alloc (.cells #[] 3)).ownsRow w.heap.size 3 1 (.slice (some ⟨w.heap.size + 1, 0, none⟩) 0 0) 0 (iv [])) := Lib.hid (by
    have := World.ownsRow_made (base := w.heap.size) (e := 3) (size := 1) (w.alloc (.cells #[.slice As ls cs, .slice Ap lp cp, .slice Ar lr cr] 29)) #[] 0 (by simp) (Nat.zero_le _) rfl
    rwa [show (w.alloc (.cells #[.slice As ls cs, .slice Ap lp cp, .slice Ar lr cr] 29)).heap.size = w.heap.size + 1 by simp] at this)
  have HNA : Hid ((Value.slice (some ⟨w.heap.size + 1, 0, none⟩) 0 0).ownBlock ≠ some w.heap.size) := Lib.hid (fun e => by simp [Value.ownBlock] at e)
  have HV := Lib.hid hv
  have HZS := Lib.hid hzs
  have HZP := Lib.hid hzp
  have HZR := Lib.hid hzr
  have HKD := Lib.hid hkd
  have HST : Hid (startS (vs.drop 0) ⟨S.drop 0, P.drop 0, Q.drop 0⟩ [] false = startS vs ⟨S, P, Q⟩ [] false) := Lib.hid (by simp only [List.drop_zero])
  obtain ⟨i0, hi0, hz0, hzz1, hz2⟩ := info_parts infoI
  have HI := Lib.hid (And.intro hi0 (And.intro hz0 (And.intro hzz1 hz2)))
  have hlsm : ls ≤ 9223372036854775807 := by have h1 := hzs.cap; have h2 := hzs.big; unfold maxLen at h2; omega
  have hlpm : lp ≤ 9223372036854775807 := by have h1 := hzp.cap; have h2 := hzp.big; unfold maxLen at h2; omega
  have hlrm : lr ≤ 9223372036854775807 := by have h1 := hzr.cap; have h2 := hzr.big; unfold maxLen at h2; omega
  clear hba hbb hv hzs hzp hzr hkd hi0 hz0 hzz1 hz2
  go_enter Tryz.func23, Tryz.ntmps23
  go_upto_region 3 with fail
  obtain ⟨w1, hw1⟩ : ∃ w1, (w.alloc (.cells #[.slice As ls cs, .slice Ap lp cp, .slice Ar lr cr] 29)).alloc (.cells #[] 3) = w1 := ⟨_, rfl⟩
  rw [hw1] at HB HN HW
  rw [hw1]
  clear hw1
  go_wp2_with fail
  go_loopw [6, 7, 8, 9, 10, 11, 13, 14] (fun va vb vd vv vf vi _ _ wr => ∃ (k a b d : Nat) (Ax : Option Addr) (cx : Nat) (vl : List Int) (out : Bool), k ≤ lv ∧ (a ≤ k ∧ a ≤ ls) ∧ (b ≤ k ∧ b ≤ lp) ∧ (d ≤ k ∧ d ≤ lr) ∧ va = .int .i64 a ∧ vb = .int .i64 b ∧ vd = .int .i64 d ∧ vv = .slice Ax k cx ∧ vf = .bool (!out) ∧ vi = .int .i64 k ∧ Hid (startS (vs.drop k) ⟨S.drop a, P.drop b, Q.drop d⟩ vl out = startS vs ⟨S, P, Q⟩ [] false) ∧ Hid (vl.length = k) ∧ Hid (wr.ownsRow w.heap.size 3 1 (.slice Ax k cx) k (iv vl)) ∧ Hid (Below w.heap.size w wr) ∧ Hid (Cs wr w.heap.size [.slice As ls cs, .slice Ap lp cp, .slice Ar lr cr]) ∧ Hid ((Value.slice Ax k cx).ownBlock ≠ some w.heap.size)) (fun _ _ _ _ _ vi _ _ _ => lv - (intOf vi).toNat)
  case atStart => exact ⟨0, 0, 0, 0, _, 0, [], false, by omega, by omega, by omega, by omega, rfl, rfl, rfl, rfl, rfl, rfl, HST, rfl, HW, HB, HN, HNA⟩
  case round =>
    clear HST HB HN HW HNA
    obtain ⟨k, a, b, d, Ax, cx, vl, out, hk, ⟨hak, hal⟩, ⟨hbk, hbl⟩, ⟨hdk, hdl⟩, rfl, rfl, rfl, rfl, rfl, rfl, HST, HLN, HW, HB, HN, HNA⟩ := hrel
    have m0 := HN.out.at 0 _ rfl
    have m1 := HN.out.at 1 _ rfl
    have m2 := HN.out.at 2 _ rfl
    by_cases hlt : k < lv
    · obtain ⟨nm, kd, lo, hi, ii, g, f, hx, hsz, hA, hg, k0, k1, k2, k3, k4⟩ := (HV.out.below HB.out).at k hlt
      subst hA
      have hlt' : (k : Int) < (lv : Int) := by omega
      have hdr : vs.drop k = ⟨nm, kd, lo, hi, ii⟩ :: vs.drop (k + 1) := by
        obtain ⟨h1, h2⟩ := List.getElem?_eq_some_iff.1 hx
        rw [List.drop_eq_getElem_cons h1, h2]
      obtain ⟨⟨hk0, hk3⟩, hin⟩ := HKD.out _ (List.mem_of_getElem? hx)
      simp only at hk0 hk3 hin
      have hba := (Below.refl wr.heap.size wr).alloc (Nat.le_refl _) (.cells #[.string nm, .int .i64 kd, .int .i64 lo, .int .i64 hi, .int .i64 ii] 48)
      have HBx := Lib.hid (HB.out.trans (hba.mono HB.out.size))
      have HNx := Lib.hid (HN.out.next hba)
      have HWx := Lib.hid (own_below HW.out hba)
      have HQ := Lib.hid (Cs.new wr #[.string nm, .int .i64 kd, .int .i64 lo, .int .i64 hi, .int .i64 ii] 48)
      clear hba HB HN HW hx hsz m0 m1 m2
      go_upto_region 8 with fail
      obtain ⟨w6, hw6⟩ : ∃ w6, wr.alloc (.cells #[.string nm, .int .i64 kd, .int .i64 lo, .int .i64 hi, .int .i64 ii] 48) = w6 := ⟨_, rfl⟩
      obtain ⟨q, hq⟩ : ∃ q, wr.heap.size = q := ⟨_, rfl⟩
      rw [hw6] at HBx HNx HWx HQ
      rw [hq] at HQ
      rw [hw6, hq]
      clear hw6 hq k0 k1 k2 k3 k4
      have HB := HBx
      have HN := HNx
      have HW := HWx
      clear HBx HNx HWx
      have m0 := HN.out.at 0 _ rfl
      have m1 := HN.out.at 1 _ rfl
      have m2 := HN.out.at 2 _ rfl
      have q0 := HQ.out.at 0 _ rfl; have q1 := HQ.out.at 1 _ rfl; have q2 := HQ.out.at 2 _ rfl; have q3 := HQ.out.at 3 _ rfl; have q4 := HQ.out.at 4 _ rfl
      obtain rfl | rfl | rfl | rfl : kd = 0 ∨ kd = 1 ∨ kd = 2 ∨ kd = 3 := by omega
      · have hin0 := hin rfl
        have HSZ : Hid (startS (vs.drop (k + 1)) ⟨S.drop a, P.drop b, Q.drop d⟩ (vl ++ [ii]) out = startS vs ⟨S, P, Q⟩ [] false) := Lib.hid (by rw [← HST.out, hdr, startS_loc rfl])
        clear HST hdr hin hk0 hk3
        have e1 : ¬ ii < lo := by omega
        have e2 := decide_eq_false e1
        have e3 : ¬ hi < ii := by omega
        have e4 := decide_eq_false e3
        have HSN := HSZ
        clear HSZ
        have hba := (Below.refl w6.heap.size w6).alloc (Nat.le_refl _) (.cells #[.int .i64 ii] 3)
        have HRW : Hid ((w6.alloc (.cells #[.int .i64 ii] 3)).ownsRow w.heap.size 3 1 (.slice Ax k cx) k (iv vl)) := Lib.hid (own_below HW.out hba)
        have HB7 := Lib.hid (HB.out.trans (hba.mono HB.out.size))
        have HN7 := Lib.hid (HN.out.next hba)
        have HWS : Hid (w.heap.size + 1 ≤ (w6.alloc (.cells #[.int .i64 ii] 3)).heap.size) := Lib.hid (by have := HN7.out.lt; omega)
        clear hba HB HN HW m0 m1 m2
        go_wp2_with (at_builtin; (refine wpList_append_lies _ rfl _ _ 27 rfl w.heap.size 3 i0 (.int .i64 0) 1 8 Tryz.underlying27 HI.out.1 HI.out.2.1 HI.out.2.2.1 HI.out.2.2.2 rfl (by decide) _ k (iv vl) rfl HRW.out ⟨w6.heap.size, 0, none⟩ 1 1 [.int .i64 ii] rfl rfl (World.news_of_block (cs := #[.int .i64 ii]) (t := 3) (fr := (0, 0)) (heap_alloc_new w6 _)) (by simp [Value.oneCell']) (by decide) (by unfold maxLen; omega) (by omega) (Nat.le_of_succ_le HWS.out) (w6.heap.size + 1) (by simp) ?_; intro gg cap w7 hown hgrow hat hlt7; have hfr := Fr.of_grown hgrow; have HNz := Lib.hid (HN7.out.fr hfr (fun e => HNA.out e)); have HBz := Lib.hid (hfr.below HB7.out (fun x hx => (HRW.out.lt x hx).1) (Nat.le_of_succ_le HWS.out)); have HAT : Hid ((Value.slice Ax k cx).ownBlock = some gg ∨ gg = w6.heap.size + 1) := hat; have HOW := Lib.hid hown; clear hown hgrow hat hfr))
        have HNB : Hid ((Value.slice (some ⟨gg, 0, none⟩) (k + 1) cap).ownBlock ≠ some w.heap.size) := Lib.hid (fun e => by
          simp [Value.ownBlock] at e
          rcases HAT.out with h | h
          · exact HNA.out (by rw [h, e])
          · have := HWS.out; rw [World.size_alloc] at this; omega)
        have HOX : Hid (w7.ownsRow w.heap.size 3 1 (.slice (some ⟨gg, 0, none⟩) (k + 1) cap) (k + 1) (iv (vl ++ [ii]))) := Lib.hid (by rw [iv_app]; exact HOW.out)
        have HLX : Hid ((vl ++ [ii]).length = k + 1) := Lib.hid (by rw [List.length_append, HLN.out]; rfl)
        clear HRW HB7 HN7 HWS HAT HOW HNA HLN
        go_roundw
        case rel => exact ⟨k + 1, a, b, d, some ⟨gg, 0, none⟩, cap, vl ++ [ii], out, by omega, by omega, by omega, by omega, by go_num, by go_num, by go_num, rfl, rfl, by go_num, HSN, HLX, HOX, HBz, HNz, HNB⟩
        case measure => simp [intOf]; omega
      · clear hin hk0 hk3
        go_wp2_with fail
        go_at_call 52
        refine (rat_b S As ls cs a _ (HZS.out.below HB.out)).mono ?_
        rintro e wy ⟨rfl, rfl⟩
        by_cases g1 : a < ls
        · obtain ⟨nv, hnv⟩ : ∃ z, S.getD a 0 = z := ⟨_, rfl⟩
          have hd1 : S.drop a = nv :: S.drop (a + 1) := by
            have hl2 : a < S.length := by rw [HZS.out.len]; exact g1
            rw [List.drop_eq_getElem_cons hl2, ← hnv, List.getD_eq_getElem?_getD, List.getElem?_eq_getElem hl2]; rfl
          have HSZ : Hid (startS (vs.drop (k + 1)) ⟨S.drop (a + 1), P.drop b, Q.drop d⟩ (vl ++ [nv]) (out || (decide (nv < lo) || decide (hi < nv))) = startS vs ⟨S, P, Q⟩ [] false) := Lib.hid (by
            rw [← HST.out, hdr, startS_some (v := ⟨nm, 1, lo, hi, ii⟩) (L := ⟨S.drop a, P.drop b, Q.drop d⟩) (n := nv) (rest := S.drop (a + 1)) (by show (1 : Int) ≠ 0; decide) hd1]
            rfl)
          rw [hnv, decide_eq_true g1]
          clear HST hd1 hnv
          by_cases e1 : nv < lo
          · have e2 := decide_eq_true e1
            have HSY := HSZ.out
            rw [e2] at HSY
            clear HSZ
            have HSZ := Lib.hid HSY
            clear HSY
            have HSN : Hid (startS (vs.drop (k + 1)) ⟨S.drop (a + 1), P.drop b, Q.drop d⟩ (vl ++ [nv]) true = startS vs ⟨S, P, Q⟩ [] false) := Lib.hid (by have := HSZ.out; simpa using this)
            clear HSZ
            have hba := (Below.refl w6.heap.size w6).alloc (Nat.le_refl _) (.cells #[.int .i64 nv] 3)
            have HRW : Hid ((w6.alloc (.cells #[.int .i64 nv] 3)).ownsRow w.heap.size 3 1 (.slice Ax k cx) k (iv vl)) := Lib.hid (own_below HW.out hba)
            have HB7 := Lib.hid (HB.out.trans (hba.mono HB.out.size))
            have HN7 := Lib.hid (HN.out.next hba)
            have HWS : Hid (w.heap.size + 1 ≤ (w6.alloc (.cells #[.int .i64 nv] 3)).heap.size) := Lib.hid (by have := HN7.out.lt; omega)
            clear hba HB HN HW m0 m1 m2
            go_wp2_with (at_builtin; (refine wpList_append_lies _ rfl _ _ 27 rfl w.heap.size 3 i0 (.int .i64 0) 1 8 Tryz.underlying27 HI.out.1 HI.out.2.1 HI.out.2.2.1 HI.out.2.2.2 rfl (by decide) _ k (iv vl) rfl HRW.out ⟨w6.heap.size, 0, none⟩ 1 1 [.int .i64 nv] rfl rfl (World.news_of_block (cs := #[.int .i64 nv]) (t := 3) (fr := (0, 0)) (heap_alloc_new w6 _)) (by simp [Value.oneCell']) (by decide) (by unfold maxLen; omega) (by omega) (Nat.le_of_succ_le HWS.out) (w6.heap.size + 1) (by simp) ?_; intro gg cap w7 hown hgrow hat hlt7; have hfr := Fr.of_grown hgrow; have HNz := Lib.hid (HN7.out.fr hfr (fun e => HNA.out e)); have HBz := Lib.hid (hfr.below HB7.out (fun x hx => (HRW.out.lt x hx).1) (Nat.le_of_succ_le HWS.out)); have HAT : Hid ((Value.slice Ax k cx).ownBlock = some gg ∨ gg = w6.heap.size + 1) := hat; have HOW := Lib.hid hown; clear hown hgrow hat hfr))
            have HNB : Hid ((Value.slice (some ⟨gg, 0, none⟩) (k + 1) cap).ownBlock ≠ some w.heap.size) := Lib.hid (fun e => by
              simp [Value.ownBlock] at e
              rcases HAT.out with h | h
              · exact HNA.out (by rw [h, e])
              · have := HWS.out; rw [World.size_alloc] at this; omega)
            have HOX : Hid (w7.ownsRow w.heap.size 3 1 (.slice (some ⟨gg, 0, none⟩) (k + 1) cap) (k + 1) (iv (vl ++ [nv]))) := Lib.hid (by rw [iv_app]; exact HOW.out)
            have HLX : Hid ((vl ++ [nv]).length = k + 1) := Lib.hid (by rw [List.length_append, HLN.out]; rfl)
            clear HRW HB7 HN7 HWS HAT HOW HNA HLN
            go_roundw
            case rel => exact ⟨k + 1, (a + 1), b, d, some ⟨gg, 0, none⟩, cap, vl ++ [nv], true, by omega, by omega, by omega, by omega, by go_num, by go_num, by go_num, rfl, rfl, by go_num, HSN, HLX, HOX, HBz, HNz, HNB⟩
            case measure => simp [intOf]; omega
          · have e2 := decide_eq_false e1
            by_cases e3 : hi < nv
            · have e4 := decide_eq_true e3
              have HSY := HSZ.out
              rw [e2, e4] at HSY
              clear HSZ
              have HSZ := Lib.hid HSY
              clear HSY
              have HSN : Hid (startS (vs.drop (k + 1)) ⟨S.drop (a + 1), P.drop b, Q.drop d⟩ (vl ++ [nv]) true = startS vs ⟨S, P, Q⟩ [] false) := Lib.hid (by have := HSZ.out; simpa using this)
              clear HSZ
              have hba := (Below.refl w6.heap.size w6).alloc (Nat.le_refl _) (.cells #[.int .i64 nv] 3)
              have HRW : Hid ((w6.alloc (.cells #[.int .i64 nv] 3)).ownsRow w.heap.size 3 1 (.slice Ax k cx) k (iv vl)) := Lib.hid (own_below HW.out hba)
              have HB7 := Lib.hid (HB.out.trans (hba.mono HB.out.size))
              have HN7 := Lib.hid (HN.out.next hba)
              have HWS : Hid (w.heap.size + 1 ≤ (w6.alloc (.cells #[.int .i64 nv] 3)).heap.size) := Lib.hid (by have := HN7.out.lt; omega)
              clear hba HB HN HW m0 m1 m2
              go_wp2_with (at_builtin; (refine wpList_append_lies _ rfl _ _ 27 rfl w.heap.size 3 i0 (.int .i64 0) 1 8 Tryz.underlying27 HI.out.1 HI.out.2.1 HI.out.2.2.1 HI.out.2.2.2 rfl (by decide) _ k (iv vl) rfl HRW.out ⟨w6.heap.size, 0, none⟩ 1 1 [.int .i64 nv] rfl rfl (World.news_of_block (cs := #[.int .i64 nv]) (t := 3) (fr := (0, 0)) (heap_alloc_new w6 _)) (by simp [Value.oneCell']) (by decide) (by unfold maxLen; omega) (by omega) (Nat.le_of_succ_le HWS.out) (w6.heap.size + 1) (by simp) ?_; intro gg cap w7 hown hgrow hat hlt7; have hfr := Fr.of_grown hgrow; have HNz := Lib.hid (HN7.out.fr hfr (fun e => HNA.out e)); have HBz := Lib.hid (hfr.below HB7.out (fun x hx => (HRW.out.lt x hx).1) (Nat.le_of_succ_le HWS.out)); have HAT : Hid ((Value.slice Ax k cx).ownBlock = some gg ∨ gg = w6.heap.size + 1) := hat; have HOW := Lib.hid hown; clear hown hgrow hat hfr))
              have HNB : Hid ((Value.slice (some ⟨gg, 0, none⟩) (k + 1) cap).ownBlock ≠ some w.heap.size) := Lib.hid (fun e => by
                simp [Value.ownBlock] at e
                rcases HAT.out with h | h
                · exact HNA.out (by rw [h, e])
                · have := HWS.out; rw [World.size_alloc] at this; omega)
              have HOX : Hid (w7.ownsRow w.heap.size 3 1 (.slice (some ⟨gg, 0, none⟩) (k + 1) cap) (k + 1) (iv (vl ++ [nv]))) := Lib.hid (by rw [iv_app]; exact HOW.out)
              have HLX : Hid ((vl ++ [nv]).length = k + 1) := Lib.hid (by rw [List.length_append, HLN.out]; rfl)
              clear HRW HB7 HN7 HWS HAT HOW HNA HLN
              go_roundw
              case rel => exact ⟨k + 1, (a + 1), b, d, some ⟨gg, 0, none⟩, cap, vl ++ [nv], true, by omega, by omega, by omega, by omega, by go_num, by go_num, by go_num, rfl, rfl, by go_num, HSN, HLX, HOX, HBz, HNz, HNB⟩
              case measure => simp [intOf]; omega
            · have e4 := decide_eq_false e3
              have HSY := HSZ.out
              rw [e2, e4] at HSY
              clear HSZ
              have HSZ := Lib.hid HSY
              clear HSY
              have HSN : Hid (startS (vs.drop (k + 1)) ⟨S.drop (a + 1), P.drop b, Q.drop d⟩ (vl ++ [nv]) out = startS vs ⟨S, P, Q⟩ [] false) := Lib.hid (by have := HSZ.out; simpa using this)
              clear HSZ
              have hba := (Below.refl w6.heap.size w6).alloc (Nat.le_refl _) (.cells #[.int .i64 nv] 3)
              have HRW : Hid ((w6.alloc (.cells #[.int .i64 nv] 3)).ownsRow w.heap.size 3 1 (.slice Ax k cx) k (iv vl)) := Lib.hid (own_below HW.out hba)
              have HB7 := Lib.hid (HB.out.trans (hba.mono HB.out.size))
              have HN7 := Lib.hid (HN.out.next hba)
              have HWS : Hid (w.heap.size + 1 ≤ (w6.alloc (.cells #[.int .i64 nv] 3)).heap.size) := Lib.hid (by have := HN7.out.lt; omega)
              clear hba HB HN HW m0 m1 m2
              go_wp2_with (at_builtin; (refine wpList_append_lies _ rfl _ _ 27 rfl w.heap.size 3 i0 (.int .i64 0) 1 8 Tryz.underlying27 HI.out.1 HI.out.2.1 HI.out.2.2.1 HI.out.2.2.2 rfl (by decide) _ k (iv vl) rfl HRW.out ⟨w6.heap.size, 0, none⟩ 1 1 [.int .i64 nv] rfl rfl (World.news_of_block (cs := #[.int .i64 nv]) (t := 3) (fr := (0, 0)) (heap_alloc_new w6 _)) (by simp [Value.oneCell']) (by decide) (by unfold maxLen; omega) (by omega) (Nat.le_of_succ_le HWS.out) (w6.heap.size + 1) (by simp) ?_; intro gg cap w7 hown hgrow hat hlt7; have hfr := Fr.of_grown hgrow; have HNz := Lib.hid (HN7.out.fr hfr (fun e => HNA.out e)); have HBz := Lib.hid (hfr.below HB7.out (fun x hx => (HRW.out.lt x hx).1) (Nat.le_of_succ_le HWS.out)); have HAT : Hid ((Value.slice Ax k cx).ownBlock = some gg ∨ gg = w6.heap.size + 1) := hat; have HOW := Lib.hid hown; clear hown hgrow hat hfr))
              have HNB : Hid ((Value.slice (some ⟨gg, 0, none⟩) (k + 1) cap).ownBlock ≠ some w.heap.size) := Lib.hid (fun e => by
                simp [Value.ownBlock] at e
                rcases HAT.out with h | h
                · exact HNA.out (by rw [h, e])
                · have := HWS.out; rw [World.size_alloc] at this; omega)
              have HOX : Hid (w7.ownsRow w.heap.size 3 1 (.slice (some ⟨gg, 0, none⟩) (k + 1) cap) (k + 1) (iv (vl ++ [nv]))) := Lib.hid (by rw [iv_app]; exact HOW.out)
              have HLX : Hid ((vl ++ [nv]).length = k + 1) := Lib.hid (by rw [List.length_append, HLN.out]; rfl)
              clear HRW HB7 HN7 HWS HAT HOW HNA HLN
              go_roundw
              case rel => exact ⟨k + 1, (a + 1), b, d, some ⟨gg, 0, none⟩, cap, vl ++ [nv], out, by omega, by omega, by omega, by omega, by go_num, by go_num, by go_num, rfl, rfl, by go_num, HSN, HLX, HOX, HBz, HNz, HNB⟩
              case measure => simp [intOf]; omega
        · have hd1 : S.drop a = [] := List.drop_of_length_le (by rw [HZS.out.len]; omega)
          have hst : startS vs ⟨S, P, Q⟩ [] false = none := by
            rw [← HST.out, hdr, startS_none (v := ⟨nm, 1, lo, hi, ii⟩) (L := ⟨S.drop a, P.drop b, Q.drop d⟩) (by show (1 : Int) ≠ 0; decide) hd1]
          have hrv : r = 1 := by have := H.out; rw [startP, hst] at this; exact (congrArg Prod.fst this).symm
          subst hrv
          rw [decide_eq_false g1]
          clear HST hst hd1 H
          go_wp2_with fail
          go_ret2
          exact ⟨.inl ⟨by decide, rfl⟩, HB.out⟩
      · clear hin hk0 hk3
        go_wp2_with fail
        go_at_call 52
        refine (rat_b P Ap lp cp b _ (HZP.out.below HB.out)).mono ?_
        rintro e wy ⟨rfl, rfl⟩
        by_cases g1 : b < lp
        · obtain ⟨nv, hnv⟩ : ∃ z, P.getD b 0 = z := ⟨_, rfl⟩
          have hd1 : P.drop b = nv :: P.drop (b + 1) := by
            have hl2 : b < P.length := by rw [HZP.out.len]; exact g1
            rw [List.drop_eq_getElem_cons hl2, ← hnv, List.getD_eq_getElem?_getD, List.getElem?_eq_getElem hl2]; rfl
          have HSZ : Hid (startS (vs.drop (k + 1)) ⟨S.drop a, P.drop (b + 1), Q.drop d⟩ (vl ++ [nv]) (out || (decide (nv < lo) || decide (hi < nv))) = startS vs ⟨S, P, Q⟩ [] false) := Lib.hid (by
            rw [← HST.out, hdr, startS_some (v := ⟨nm, 2, lo, hi, ii⟩) (L := ⟨S.drop a, P.drop b, Q.drop d⟩) (n := nv) (rest := P.drop (b + 1)) (by show (2 : Int) ≠ 0; decide) hd1]
            rfl)
          rw [hnv, decide_eq_true g1]
          clear HST hd1 hnv
          by_cases e1 : nv < lo
          · have e2 := decide_eq_true e1
            have HSY := HSZ.out
            rw [e2] at HSY
            clear HSZ
            have HSZ := Lib.hid HSY
            clear HSY
            have HSN : Hid (startS (vs.drop (k + 1)) ⟨S.drop a, P.drop (b + 1), Q.drop d⟩ (vl ++ [nv]) true = startS vs ⟨S, P, Q⟩ [] false) := Lib.hid (by have := HSZ.out; simpa using this)
            clear HSZ
            have hba := (Below.refl w6.heap.size w6).alloc (Nat.le_refl _) (.cells #[.int .i64 nv] 3)
            have HRW : Hid ((w6.alloc (.cells #[.int .i64 nv] 3)).ownsRow w.heap.size 3 1 (.slice Ax k cx) k (iv vl)) := Lib.hid (own_below HW.out hba)
            have HB7 := Lib.hid (HB.out.trans (hba.mono HB.out.size))
            have HN7 := Lib.hid (HN.out.next hba)
            have HWS : Hid (w.heap.size + 1 ≤ (w6.alloc (.cells #[.int .i64 nv] 3)).heap.size) := Lib.hid (by have := HN7.out.lt; omega)
            clear hba HB HN HW m0 m1 m2
            go_wp2_with (at_builtin; (refine wpList_append_lies _ rfl _ _ 27 rfl w.heap.size 3 i0 (.int .i64 0) 1 8 Tryz.underlying27 HI.out.1 HI.out.2.1 HI.out.2.2.1 HI.out.2.2.2 rfl (by decide) _ k (iv vl) rfl HRW.out ⟨w6.heap.size, 0, none⟩ 1 1 [.int .i64 nv] rfl rfl (World.news_of_block (cs := #[.int .i64 nv]) (t := 3) (fr := (0, 0)) (heap_alloc_new w6 _)) (by simp [Value.oneCell']) (by decide) (by unfold maxLen; omega) (by omega) (Nat.le_of_succ_le HWS.out) (w6.heap.size + 1) (by simp) ?_; intro gg cap w7 hown hgrow hat hlt7; have hfr := Fr.of_grown hgrow; have HNz := Lib.hid (HN7.out.fr hfr (fun e => HNA.out e)); have HBz := Lib.hid (hfr.below HB7.out (fun x hx => (HRW.out.lt x hx).1) (Nat.le_of_succ_le HWS.out)); have HAT : Hid ((Value.slice Ax k cx).ownBlock = some gg ∨ gg = w6.heap.size + 1) := hat; have HOW := Lib.hid hown; clear hown hgrow hat hfr))
            have HNB : Hid ((Value.slice (some ⟨gg, 0, none⟩) (k + 1) cap).ownBlock ≠ some w.heap.size) := Lib.hid (fun e => by
              simp [Value.ownBlock] at e
              rcases HAT.out with h | h
              · exact HNA.out (by rw [h, e])
              · have := HWS.out; rw [World.size_alloc] at this; omega)
            have HOX : Hid (w7.ownsRow w.heap.size 3 1 (.slice (some ⟨gg, 0, none⟩) (k + 1) cap) (k + 1) (iv (vl ++ [nv]))) := Lib.hid (by rw [iv_app]; exact HOW.out)
            have HLX : Hid ((vl ++ [nv]).length = k + 1) := Lib.hid (by rw [List.length_append, HLN.out]; rfl)
            clear HRW HB7 HN7 HWS HAT HOW HNA HLN
            go_roundw
            case rel => exact ⟨k + 1, a, (b + 1), d, some ⟨gg, 0, none⟩, cap, vl ++ [nv], true, by omega, by omega, by omega, by omega, by go_num, by go_num, by go_num, rfl, rfl, by go_num, HSN, HLX, HOX, HBz, HNz, HNB⟩
            case measure => simp [intOf]; omega
          · have e2 := decide_eq_false e1
            by_cases e3 : hi < nv
            · have e4 := decide_eq_true e3
              have HSY := HSZ.out
              rw [e2, e4] at HSY
              clear HSZ
              have HSZ := Lib.hid HSY
              clear HSY
              have HSN : Hid (startS (vs.drop (k + 1)) ⟨S.drop a, P.drop (b + 1), Q.drop d⟩ (vl ++ [nv]) true = startS vs ⟨S, P, Q⟩ [] false) := Lib.hid (by have := HSZ.out; simpa using this)
              clear HSZ
              have hba := (Below.refl w6.heap.size w6).alloc (Nat.le_refl _) (.cells #[.int .i64 nv] 3)
              have HRW : Hid ((w6.alloc (.cells #[.int .i64 nv] 3)).ownsRow w.heap.size 3 1 (.slice Ax k cx) k (iv vl)) := Lib.hid (own_below HW.out hba)
              have HB7 := Lib.hid (HB.out.trans (hba.mono HB.out.size))
              have HN7 := Lib.hid (HN.out.next hba)
              have HWS : Hid (w.heap.size + 1 ≤ (w6.alloc (.cells #[.int .i64 nv] 3)).heap.size) := Lib.hid (by have := HN7.out.lt; omega)
              clear hba HB HN HW m0 m1 m2
              go_wp2_with (at_builtin; (refine wpList_append_lies _ rfl _ _ 27 rfl w.heap.size 3 i0 (.int .i64 0) 1 8 Tryz.underlying27 HI.out.1 HI.out.2.1 HI.out.2.2.1 HI.out.2.2.2 rfl (by decide) _ k (iv vl) rfl HRW.out ⟨w6.heap.size, 0, none⟩ 1 1 [.int .i64 nv] rfl rfl (World.news_of_block (cs := #[.int .i64 nv]) (t := 3) (fr := (0, 0)) (heap_alloc_new w6 _)) (by simp [Value.oneCell']) (by decide) (by unfold maxLen; omega) (by omega) (Nat.le_of_succ_le HWS.out) (w6.heap.size + 1) (by simp) ?_; intro gg cap w7 hown hgrow hat hlt7; have hfr := Fr.of_grown hgrow; have HNz := Lib.hid (HN7.out.fr hfr (fun e => HNA.out e)); have HBz := Lib.hid (hfr.below HB7.out (fun x hx => (HRW.out.lt x hx).1) (Nat.le_of_succ_le HWS.out)); have HAT : Hid ((Value.slice Ax k cx).ownBlock = some gg ∨ gg = w6.heap.size + 1) := hat; have HOW := Lib.hid hown; clear hown hgrow hat hfr))
              have HNB : Hid ((Value.slice (some ⟨gg, 0, none⟩) (k + 1) cap).ownBlock ≠ some w.heap.size) := Lib.hid (fun e => by
                simp [Value.ownBlock] at e
                rcases HAT.out with h | h
                · exact HNA.out (by rw [h, e])
                · have := HWS.out; rw [World.size_alloc] at this; omega)
              have HOX : Hid (w7.ownsRow w.heap.size 3 1 (.slice (some ⟨gg, 0, none⟩) (k + 1) cap) (k + 1) (iv (vl ++ [nv]))) := Lib.hid (by rw [iv_app]; exact HOW.out)
              have HLX : Hid ((vl ++ [nv]).length = k + 1) := Lib.hid (by rw [List.length_append, HLN.out]; rfl)
              clear HRW HB7 HN7 HWS HAT HOW HNA HLN
              go_roundw
              case rel => exact ⟨k + 1, a, (b + 1), d, some ⟨gg, 0, none⟩, cap, vl ++ [nv], true, by omega, by omega, by omega, by omega, by go_num, by go_num, by go_num, rfl, rfl, by go_num, HSN, HLX, HOX, HBz, HNz, HNB⟩
              case measure => simp [intOf]; omega
            · have e4 := decide_eq_false e3
              have HSY := HSZ.out
              rw [e2, e4] at HSY
              clear HSZ
              have HSZ := Lib.hid HSY
              clear HSY
              have HSN : Hid (startS (vs.drop (k + 1)) ⟨S.drop a, P.drop (b + 1), Q.drop d⟩ (vl ++ [nv]) out = startS vs ⟨S, P, Q⟩ [] false) := Lib.hid (by have := HSZ.out; simpa using this)
              clear HSZ
              have hba := (Below.refl w6.heap.size w6).alloc (Nat.le_refl _) (.cells #[.int .i64 nv] 3)
              have HRW : Hid ((w6.alloc (.cells #[.int .i64 nv] 3)).ownsRow w.heap.size 3 1 (.slice Ax k cx) k (iv vl)) := Lib.hid (own_below HW.out hba)
              have HB7 := Lib.hid (HB.out.trans (hba.mono HB.out.size))
              have HN7 := Lib.hid (HN.out.next hba)
              have HWS : Hid (w.heap.size + 1 ≤ (w6.alloc (.cells #[.int .i64 nv] 3)).heap.size) := Lib.hid (by have := HN7.out.lt; omega)
              clear hba HB HN HW m0 m1 m2
              go_wp2_with (at_builtin; (refine wpList_append_lies _ rfl _ _ 27 rfl w.heap.size 3 i0 (.int .i64 0) 1 8 Tryz.underlying27 HI.out.1 HI.out.2.1 HI.out.2.2.1 HI.out.2.2.2 rfl (by decide) _ k (iv vl) rfl HRW.out ⟨w6.heap.size, 0, none⟩ 1 1 [.int .i64 nv] rfl rfl (World.news_of_block (cs := #[.int .i64 nv]) (t := 3) (fr := (0, 0)) (heap_alloc_new w6 _)) (by simp [Value.oneCell']) (by decide) (by unfold maxLen; omega) (by omega) (Nat.le_of_succ_le HWS.out) (w6.heap.size + 1) (by simp) ?_; intro gg cap w7 hown hgrow hat hlt7; have hfr := Fr.of_grown hgrow; have HNz := Lib.hid (HN7.out.fr hfr (fun e => HNA.out e)); have HBz := Lib.hid (hfr.below HB7.out (fun x hx => (HRW.out.lt x hx).1) (Nat.le_of_succ_le HWS.out)); have HAT : Hid ((Value.slice Ax k cx).ownBlock = some gg ∨ gg = w6.heap.size + 1) := hat; have HOW := Lib.hid hown; clear hown hgrow hat hfr))
              have HNB : Hid ((Value.slice (some ⟨gg, 0, none⟩) (k + 1) cap).ownBlock ≠ some w.heap.size) := Lib.hid (fun e => by
                simp [Value.ownBlock] at e
                rcases HAT.out with h | h
                · exact HNA.out (by rw [h, e])
                · have := HWS.out; rw [World.size_alloc] at this; omega)
              have HOX : Hid (w7.ownsRow w.heap.size 3 1 (.slice (some ⟨gg, 0, none⟩) (k + 1) cap) (k + 1) (iv (vl ++ [nv]))) := Lib.hid (by rw [iv_app]; exact HOW.out)
              have HLX : Hid ((vl ++ [nv]).length = k + 1) := Lib.hid (by rw [List.length_append, HLN.out]; rfl)
              clear HRW HB7 HN7 HWS HAT HOW HNA HLN
              go_roundw
              case rel => exact ⟨k + 1, a, (b + 1), d, some ⟨gg, 0, none⟩, cap, vl ++ [nv], out, by omega, by omega, by omega, by omega, by go_num, by go_num, by go_num, rfl, rfl, by go_num, HSN, HLX, HOX, HBz, HNz, HNB⟩
              case measure => simp [intOf]; omega
        · have hd1 : P.drop b = [] := List.drop_of_length_le (by rw [HZP.out.len]; omega)
          have hst : startS vs ⟨S, P, Q⟩ [] false = none := by
            rw [← HST.out, hdr, startS_none (v := ⟨nm, 2, lo, hi, ii⟩) (L := ⟨S.drop a, P.drop b, Q.drop d⟩) (by show (2 : Int) ≠ 0; decide) hd1]
          have hrv : r = 1 := by have := H.out; rw [startP, hst] at this; exact (congrArg Prod.fst this).symm
          subst hrv
          rw [decide_eq_false g1]
          clear HST hst hd1 H
          go_wp2_with fail
          go_ret2
          exact ⟨.inl ⟨by decide, rfl⟩, HB.out⟩
      · clear hin hk0 hk3
        go_wp2_with fail
        go_at_call 52
        refine (rat_b Q Ar lr cr d _ (HZR.out.below HB.out)).mono ?_
        rintro e wy ⟨rfl, rfl⟩
        by_cases g1 : d < lr
        · obtain ⟨nv, hnv⟩ : ∃ z, Q.getD d 0 = z := ⟨_, rfl⟩
          have hd1 : Q.drop d = nv :: Q.drop (d + 1) := by
            have hl2 : d < Q.length := by rw [HZR.out.len]; exact g1
            rw [List.drop_eq_getElem_cons hl2, ← hnv, List.getD_eq_getElem?_getD, List.getElem?_eq_getElem hl2]; rfl
          have HSZ : Hid (startS (vs.drop (k + 1)) ⟨S.drop a, P.drop b, Q.drop (d + 1)⟩ (vl ++ [nv]) (out || (decide (nv < lo) || decide (hi < nv))) = startS vs ⟨S, P, Q⟩ [] false) := Lib.hid (by
            rw [← HST.out, hdr, startS_some (v := ⟨nm, 3, lo, hi, ii⟩) (L := ⟨S.drop a, P.drop b, Q.drop d⟩) (n := nv) (rest := Q.drop (d + 1)) (by show (3 : Int) ≠ 0; decide) hd1]
            rfl)
          rw [hnv, decide_eq_true g1]
          clear HST hd1 hnv
          by_cases e1 : nv < lo
          · have e2 := decide_eq_true e1
            have HSY := HSZ.out
            rw [e2] at HSY
            clear HSZ
            have HSZ := Lib.hid HSY
            clear HSY
            have HSN : Hid (startS (vs.drop (k + 1)) ⟨S.drop a, P.drop b, Q.drop (d + 1)⟩ (vl ++ [nv]) true = startS vs ⟨S, P, Q⟩ [] false) := Lib.hid (by have := HSZ.out; simpa using this)
            clear HSZ
            have hba := (Below.refl w6.heap.size w6).alloc (Nat.le_refl _) (.cells #[.int .i64 nv] 3)
            have HRW : Hid ((w6.alloc (.cells #[.int .i64 nv] 3)).ownsRow w.heap.size 3 1 (.slice Ax k cx) k (iv vl)) := Lib.hid (own_below HW.out hba)
            have HB7 := Lib.hid (HB.out.trans (hba.mono HB.out.size))
            have HN7 := Lib.hid (HN.out.next hba)
            have HWS : Hid (w.heap.size + 1 ≤ (w6.alloc (.cells #[.int .i64 nv] 3)).heap.size) := Lib.hid (by have := HN7.out.lt; omega)
            clear hba HB HN HW m0 m1 m2
            go_wp2_with (at_builtin; (refine wpList_append_lies _ rfl _ _ 27 rfl w.heap.size 3 i0 (.int .i64 0) 1 8 Tryz.underlying27 HI.out.1 HI.out.2.1 HI.out.2.2.1 HI.out.2.2.2 rfl (by decide) _ k (iv vl) rfl HRW.out ⟨w6.heap.size, 0, none⟩ 1 1 [.int .i64 nv] rfl rfl (World.news_of_block (cs := #[.int .i64 nv]) (t := 3) (fr := (0, 0)) (heap_alloc_new w6 _)) (by simp [Value.oneCell']) (by decide) (by unfold maxLen; omega) (by omega) (Nat.le_of_succ_le HWS.out) (w6.heap.size + 1) (by simp) ?_; intro gg cap w7 hown hgrow hat hlt7; have hfr := Fr.of_grown hgrow; have HNz := Lib.hid (HN7.out.fr hfr (fun e => HNA.out e)); have HBz := Lib.hid (hfr.below HB7.out (fun x hx => (HRW.out.lt x hx).1) (Nat.le_of_succ_le HWS.out)); have HAT : Hid ((Value.slice Ax k cx).ownBlock = some gg ∨ gg = w6.heap.size + 1) := hat; have HOW := Lib.hid hown; clear hown hgrow hat hfr))
            have HNB : Hid ((Value.slice (some ⟨gg, 0, none⟩) (k + 1) cap).ownBlock ≠ some w.heap.size) := Lib.hid (fun e => by
              simp [Value.ownBlock] at e
              rcases HAT.out with h | h
              · exact HNA.out (by rw [h, e])
              · have := HWS.out; rw [World.size_alloc] at this; omega)
            have HOX : Hid (w7.ownsRow w.heap.size 3 1 (.slice (some ⟨gg, 0, none⟩) (k + 1) cap) (k + 1) (iv (vl ++ [nv]))) := Lib.hid (by rw [iv_app]; exact HOW.out)
            have HLX : Hid ((vl ++ [nv]).length = k + 1) := Lib.hid (by rw [List.length_append, HLN.out]; rfl)
            clear HRW HB7 HN7 HWS HAT HOW HNA HLN
            go_roundw
            case rel => exact ⟨k + 1, a, b, (d + 1), some ⟨gg, 0, none⟩, cap, vl ++ [nv], true, by omega, by omega, by omega, by omega, by go_num, by go_num, by go_num, rfl, rfl, by go_num, HSN, HLX, HOX, HBz, HNz, HNB⟩
            case measure => simp [intOf]; omega
          · have e2 := decide_eq_false e1
            by_cases e3 : hi < nv
            · have e4 := decide_eq_true e3
              have HSY := HSZ.out
              rw [e2, e4] at HSY
              clear HSZ
              have HSZ := Lib.hid HSY
              clear HSY
              have HSN : Hid (startS (vs.drop (k + 1)) ⟨S.drop a, P.drop b, Q.drop (d + 1)⟩ (vl ++ [nv]) true = startS vs ⟨S, P, Q⟩ [] false) := Lib.hid (by have := HSZ.out; simpa using this)
              clear HSZ
              have hba := (Below.refl w6.heap.size w6).alloc (Nat.le_refl _) (.cells #[.int .i64 nv] 3)
              have HRW : Hid ((w6.alloc (.cells #[.int .i64 nv] 3)).ownsRow w.heap.size 3 1 (.slice Ax k cx) k (iv vl)) := Lib.hid (own_below HW.out hba)
              have HB7 := Lib.hid (HB.out.trans (hba.mono HB.out.size))
              have HN7 := Lib.hid (HN.out.next hba)
              have HWS : Hid (w.heap.size + 1 ≤ (w6.alloc (.cells #[.int .i64 nv] 3)).heap.size) := Lib.hid (by have := HN7.out.lt; omega)
              clear hba HB HN HW m0 m1 m2
              go_wp2_with (at_builtin; (refine wpList_append_lies _ rfl _ _ 27 rfl w.heap.size 3 i0 (.int .i64 0) 1 8 Tryz.underlying27 HI.out.1 HI.out.2.1 HI.out.2.2.1 HI.out.2.2.2 rfl (by decide) _ k (iv vl) rfl HRW.out ⟨w6.heap.size, 0, none⟩ 1 1 [.int .i64 nv] rfl rfl (World.news_of_block (cs := #[.int .i64 nv]) (t := 3) (fr := (0, 0)) (heap_alloc_new w6 _)) (by simp [Value.oneCell']) (by decide) (by unfold maxLen; omega) (by omega) (Nat.le_of_succ_le HWS.out) (w6.heap.size + 1) (by simp) ?_; intro gg cap w7 hown hgrow hat hlt7; have hfr := Fr.of_grown hgrow; have HNz := Lib.hid (HN7.out.fr hfr (fun e => HNA.out e)); have HBz := Lib.hid (hfr.below HB7.out (fun x hx => (HRW.out.lt x hx).1) (Nat.le_of_succ_le HWS.out)); have HAT : Hid ((Value.slice Ax k cx).ownBlock = some gg ∨ gg = w6.heap.size + 1) := hat; have HOW := Lib.hid hown; clear hown hgrow hat hfr))
              have HNB : Hid ((Value.slice (some ⟨gg, 0, none⟩) (k + 1) cap).ownBlock ≠ some w.heap.size) := Lib.hid (fun e => by
                simp [Value.ownBlock] at e
                rcases HAT.out with h | h
                · exact HNA.out (by rw [h, e])
                · have := HWS.out; rw [World.size_alloc] at this; omega)
              have HOX : Hid (w7.ownsRow w.heap.size 3 1 (.slice (some ⟨gg, 0, none⟩) (k + 1) cap) (k + 1) (iv (vl ++ [nv]))) := Lib.hid (by rw [iv_app]; exact HOW.out)
              have HLX : Hid ((vl ++ [nv]).length = k + 1) := Lib.hid (by rw [List.length_append, HLN.out]; rfl)
              clear HRW HB7 HN7 HWS HAT HOW HNA HLN
              go_roundw
              case rel => exact ⟨k + 1, a, b, (d + 1), some ⟨gg, 0, none⟩, cap, vl ++ [nv], true, by omega, by omega, by omega, by omega, by go_num, by go_num, by go_num, rfl, rfl, by go_num, HSN, HLX, HOX, HBz, HNz, HNB⟩
              case measure => simp [intOf]; omega
            · have e4 := decide_eq_false e3
              have HSY := HSZ.out
              rw [e2, e4] at HSY
              clear HSZ
              have HSZ := Lib.hid HSY
              clear HSY
              have HSN : Hid (startS (vs.drop (k + 1)) ⟨S.drop a, P.drop b, Q.drop (d + 1)⟩ (vl ++ [nv]) out = startS vs ⟨S, P, Q⟩ [] false) := Lib.hid (by have := HSZ.out; simpa using this)
              clear HSZ
              have hba := (Below.refl w6.heap.size w6).alloc (Nat.le_refl _) (.cells #[.int .i64 nv] 3)
              have HRW : Hid ((w6.alloc (.cells #[.int .i64 nv] 3)).ownsRow w.heap.size 3 1 (.slice Ax k cx) k (iv vl)) := Lib.hid (own_below HW.out hba)
              have HB7 := Lib.hid (HB.out.trans (hba.mono HB.out.size))
              have HN7 := Lib.hid (HN.out.next hba)
              have HWS : Hid (w.heap.size + 1 ≤ (w6.alloc (.cells #[.int .i64 nv] 3)).heap.size) := Lib.hid (by have := HN7.out.lt; omega)
              clear hba HB HN HW m0 m1 m2
              go_wp2_with (at_builtin; (refine wpList_append_lies _ rfl _ _ 27 rfl w.heap.size 3 i0 (.int .i64 0) 1 8 Tryz.underlying27 HI.out.1 HI.out.2.1 HI.out.2.2.1 HI.out.2.2.2 rfl (by decide) _ k (iv vl) rfl HRW.out ⟨w6.heap.size, 0, none⟩ 1 1 [.int .i64 nv] rfl rfl (World.news_of_block (cs := #[.int .i64 nv]) (t := 3) (fr := (0, 0)) (heap_alloc_new w6 _)) (by simp [Value.oneCell']) (by decide) (by unfold maxLen; omega) (by omega) (Nat.le_of_succ_le HWS.out) (w6.heap.size + 1) (by simp) ?_; intro gg cap w7 hown hgrow hat hlt7; have hfr := Fr.of_grown hgrow; have HNz := Lib.hid (HN7.out.fr hfr (fun e => HNA.out e)); have HBz := Lib.hid (hfr.below HB7.out (fun x hx => (HRW.out.lt x hx).1) (Nat.le_of_succ_le HWS.out)); have HAT : Hid ((Value.slice Ax k cx).ownBlock = some gg ∨ gg = w6.heap.size + 1) := hat; have HOW := Lib.hid hown; clear hown hgrow hat hfr))
              have HNB : Hid ((Value.slice (some ⟨gg, 0, none⟩) (k + 1) cap).ownBlock ≠ some w.heap.size) := Lib.hid (fun e => by
                simp [Value.ownBlock] at e
                rcases HAT.out with h | h
                · exact HNA.out (by rw [h, e])
                · have := HWS.out; rw [World.size_alloc] at this; omega)
              have HOX : Hid (w7.ownsRow w.heap.size 3 1 (.slice (some ⟨gg, 0, none⟩) (k + 1) cap) (k + 1) (iv (vl ++ [nv]))) := Lib.hid (by rw [iv_app]; exact HOW.out)
              have HLX : Hid ((vl ++ [nv]).length = k + 1) := Lib.hid (by rw [List.length_append, HLN.out]; rfl)
              clear HRW HB7 HN7 HWS HAT HOW HNA HLN
              go_roundw
              case rel => exact ⟨k + 1, a, b, (d + 1), some ⟨gg, 0, none⟩, cap, vl ++ [nv], out, by omega, by omega, by omega, by omega, by go_num, by go_num, by go_num, rfl, rfl, by go_num, HSN, HLX, HOX, HBz, HNz, HNB⟩
              case measure => simp [intOf]; omega
        · have hd1 : Q.drop d = [] := List.drop_of_length_le (by rw [HZR.out.len]; omega)
          have hst : startS vs ⟨S, P, Q⟩ [] false = none := by
            rw [← HST.out, hdr, startS_none (v := ⟨nm, 3, lo, hi, ii⟩) (L := ⟨S.drop a, P.drop b, Q.drop d⟩) (by show (3 : Int) ≠ 0; decide) hd1]
          have hrv : r = 1 := by have := H.out; rw [startP, hst] at this; exact (congrArg Prod.fst this).symm
          subst hrv
          rw [decide_eq_false g1]
          clear HST hst hd1 H
          go_wp2_with fail
          go_ret2
          exact ⟨.inl ⟨by decide, rfl⟩, HB.out⟩
    · obtain rfl : k = lv := by omega
      have hst : startS vs ⟨S, P, Q⟩ [] false = some (⟨S.drop a, P.drop b, Q.drop d⟩, vl, out) := by rw [← HST.out, List.drop_of_length_le (by rw [HV.out.len]; exact Nat.le_refl _), startS]
      have hre := H.out
      rw [startP, hst] at hre
      simp only at hre
      have HRE := Lib.hid hre
      clear HST hst hre H
      have key : ∀ (X : List Int) (x l : Nat), X.length = l → (X.drop x ≠ [] ↔ x < l) := fun X x l hl => by
        rw [ne_eq, List.drop_eq_nil_iff, hl]; omega
      by_cases hfull : a < ls ∨ b < lp ∨ d < lr
      · have hrv : r = 1 := by
          have := HRE.out
          rw [if_pos (by rw [key S a ls HZS.out.len, key P b lp HZP.out.len, key Q d lr HZR.out.len]; exact hfull)] at this
          exact (congrArg Prod.fst this).symm
        subst hrv
        clear HRE key
        by_cases h1 : a = ls
        · subst h1
          have t1 : ((a : Int) != (a : Int)) = false := bne_self _
          by_cases h2 : b = lp
          · subst h2
            have t2 : ((b : Int) != (b : Int)) = false := bne_self _
            have t3 : ((d : Int) != (lr : Int)) = true := bne_of (by omega)
            clear hfull
            go_wp2_with fail
            go_ret2
            exact ⟨.inl ⟨by decide, rfl⟩, HB.out⟩
          · have t2 : ((b : Int) != (lp : Int)) = true := bne_of (by omega)
            clear hfull
            go_wp2_with fail
            go_ret2
            exact ⟨.inl ⟨by decide, rfl⟩, HB.out⟩
        · have t1 : ((a : Int) != (ls : Int)) = true := bne_of (by omega)
          clear hfull
          go_wp2_with fail
          go_ret2
          exact ⟨.inl ⟨by decide, rfl⟩, HB.out⟩
      · obtain rfl : a = ls := by omega
        obtain rfl : b = lp := by omega
        obtain rfl : d = lr := by omega
        have t1 : ((a : Int) != (a : Int)) = false := bne_self _
        have t2 : ((b : Int) != (b : Int)) = false := bne_self _
        have t3 : ((d : Int) != (d : Int)) = false := bne_self _
        have hre := HRE.out
        rw [if_neg (by rw [key S a a HZS.out.len, key P b b HZP.out.len, key Q d d HZR.out.len]; exact hfull)] at hre
        clear HRE key hfull
        cases out with
        | true =>
          have hrv : r = 3 := (congrArg Prod.fst hre).symm
          subst hrv
          clear hre
          go_wp2_with fail
          go_ret2
          exact ⟨.inl ⟨by decide, rfl⟩, HB.out⟩
        | false =>
          have hrv : r = 0 := (congrArg Prod.fst hre).symm
          have hvv : vl = vals := congrArg Prod.snd hre
          subst hrv hvv
          clear hre
          have hz := Zs.of_row (zs := vl) (by rw [HLN.out]; exact HW.out)
          have HZZ := Lib.hid hz
          clear hz
          go_wp2_with fail
          go_ret2
          refine ⟨?_, HB.out⟩
          have hzz : ZsN (fun b => w.heap.size ≤ b) wr Ax k cx vl := ⟨HZZ.out, fun _ ad had => (HW.out.lt ad.block (by subst had; rfl)).1⟩
          have hln := HLN.out
          first
            | exact .inr ⟨rfl, Ax, cx, by rw [hln], by rw [hln]; exact hzz⟩
            | exact ⟨Ax, cx, by rw [hln]; rfl, by rw [hln]; exact hzz⟩

theorem rheld_clamp {n lo hi r : Int} (h : lo ≤ hi) (H : clampP n lo hi = r) : (if n < lo then lo else if hi < n then hi else n) = r := by
  rw [← H]; unfold clampP; split
  · omega
  · split <;> omega
set_option maxRecDepth 100000 in
set_option maxHeartbeats 4000000 in
theorem rset_b (vs : List Vr) (hvb : vB vs) (Av : Option Addr) (lv cv : Nat) (Ag : Option Addr) (lg cg : Nat) (Ay : Option Addr) (ly cy : Nat) (Ax : Option Addr) (cx : Nat) (vl : List Int) (v n : Int) (w : World) (hv : VOk w Av lv cv vs) (hz : Zs w Ax lv cx vl) (hlv : lv ≤ 1000) (h0 : 0 ≤ v) (h1 : v < (lv : Int)) :
    Calls Tryz.prog 54 #[.agg #[.slice Av lv cv, .slice Ag lg cg, .slice Ay ly cy], .slice Ax lv cx, .int .i64 v, .int .i64 n] w fun e w' => ∃ A' c', e = .returned (.slice A' lv c') ∧ ZsN (fun b => w.heap.size ≤ b) w' A' lv c' (setV vs vl v n) ∧ Below w.heap.size w w' := by
  obtain ⟨j, hj⟩ : ∃ j : Nat, v = j := ⟨v.toNat, by omega⟩
  subst hj
  have hjl : j < lv := by omega
  obtain ⟨i0, hi0, hz0, hzz1, hz2⟩ := info_parts infoI
  have HI := Lib.hid (And.intro hi0 (And.intro hz0 (And.intro hzz1 hz2)))
  have hba := (Below.refl w.heap.size w).alloc (Nat.le_refl _) (.cells #[.slice Av lv cv, .slice Ag lg cg, .slice Ay ly cy] 26)
  have hbb := hba.alloc hba.size (.cells #[] 3)
  have HB := Lib.hid hbb
  have HF := Lib.hid ((Cs.new w #[.slice Av lv cv, .slice Ag lg cg, .slice Ay ly cy] 26).alloc (.cells #[] 3))
  have HW0 : Hid (((w.alloc (.cells #[.slice Av lv cv, .slice Ag lg cg, .slice Ay ly cy] 26)).alloc (.cells #[] 3)).ownsRow w.heap.size 3 1 (.slice (some ⟨w.heap.size + 1, 0, none⟩) 0 0) 0 (iv [])) := Lib.hid (by
    have := World.ownsRow_made (base := w.heap.size) (e := 3) (size := 1) (w.alloc (.cells #[.slice Av lv cv, .slice Ag lg cg, .slice Ay ly cy] 26)) #[] 0 (by simp) (Nat.zero_le _) rfl
    rwa [show (w.alloc (.cells #[.slice Av lv cv, .slice Ag lg cg, .slice Ay ly cy] 26)).heap.size = w.heap.size + 1 by simp] at this)
  obtain ⟨nm, kd, lo, hi, ii, g, f, hx, hsz, hA, hg, k0, k1, k2, k3, k4⟩ := (hv.below hbb).at j hjl
  have hlh := (hvb _ (List.mem_of_getElem? hx)).1
  simp only at hlh
  obtain ⟨r, hr⟩ : ∃ r, clampP n lo hi = r := ⟨_, rfl⟩
  have HR := Lib.hid (rheld_clamp hlh hr)
  have HSV : Hid (setV vs vl j n = vl.set j r) := Lib.hid (by rw [setV, ← hr]; simp [hx])
  have HLN := Lib.hid hz.len
  obtain ⟨gx, fx, hAx, hgx, hcx⟩ := hz.mem (by omega)
  subst hA hAx
  have HNW : Hid (∀ j u, (iv vl)[j]? = some u → ((w.alloc (.cells #[.slice (some ⟨g, f, none⟩) lv cv, .slice Ag lg cg, .slice Ay ly cy] 26)).alloc (.cells #[] 3)).cell? ((⟨gx, fx, none⟩ : Addr).add j) = some u) := Lib.hid (fun j u hu => by
    have hj : j < vl.length := by rw [← iv_len]; exact (List.getElem?_eq_some_iff.1 hu).1
    rw [iv_get vl j hj] at hu
    injection hu with hu
    have hadd : (⟨gx, fx, none⟩ : Addr).add j = ⟨gx, fx + j, none⟩ := by unfold Addr.add; split <;> simp_all
    rw [hadd, ← hu, hbb.cell (p := ⟨gx, _, none⟩) hgx]
    exact hcx j (by rw [← hz.len]; exact hj))
  have hj0 : (0 : Int) ≤ (j : Int) := by omega
  have hjI : (j : Int) < (lv : Int) := by omega
  have HK : Hid (w.heap.size + 2 = ((w.alloc (.cells #[.slice (some ⟨g, f, none⟩) lv cv, .slice Ag lg cg, .slice Ay ly cy] 26)).alloc (.cells #[] 3)).heap.size ∧ g < w.heap.size) := Lib.hid ⟨by simp, by
    obtain ⟨_, _, _, _, _, g2, f2, _, _, hA2, hg2, _⟩ := hv.at j hjl
    cases hA2; exact hg2⟩
  have HNE : Hid (∀ x, x < w.heap.size → ¬ ((Value.slice (some ⟨w.heap.size + 1, 0, none⟩) 0 0).ownBlock = some x)) := Lib.hid (fun x hx e => by simp [Value.ownBlock] at e; omega)
  have HNF : Hid (¬ ((Value.slice (some ⟨w.heap.size + 1, 0, none⟩) 0 0).ownBlock = some w.heap.size)) := Lib.hid (fun e => by simp [Value.ownBlock] at e)
  have HGL : Hid (g < ((w.alloc (.cells #[.slice (some ⟨g, f, none⟩) lv cv, .slice Ag lg cg, .slice Ay ly cy] 26)).alloc (.cells #[] 3)).heap.size) := Lib.hid (by have := HK.out; omega)
  have HK23 : Hid (((w.alloc (.cells #[.slice (some ⟨g, f, none⟩) lv cv, .slice Ag lg cg, .slice Ay ly cy] 26)).alloc (.cells #[] 3)).cell? ⟨g, f + j * 5 + 2, none⟩ = some (.int .i64 lo) ∧ ((w.alloc (.cells #[.slice (some ⟨g, f, none⟩) lv cv, .slice Ag lg cg, .slice Ay ly cy] 26)).alloc (.cells #[] 3)).cell? ⟨g, f + j * 5 + 3, none⟩ = some (.int .i64 hi)) := Lib.hid ⟨k2, k3⟩
  clear hi0 hz0 hzz1 hz2 hba hbb hv hx hsz hg k0 k1 k2 k3 k4 hlh hr hz hgx hcx hvb
  go_enter Tryz.func54, Tryz.ntmps54
  go_wp2_with (at_builtin; (refine wpList_append_lies _ rfl _ _ 27 rfl w.heap.size 3 i0 (.int .i64 0) 1 8 Tryz.underlying27 HI.out.1 HI.out.2.1 HI.out.2.2.1 HI.out.2.2.2 rfl (by decide) _ 0 (iv []) rfl HW0.out ⟨gx, fx, none⟩ lv cx (iv vl) rfl (by rw [iv_len, HLN.out, Nat.mul_one]) HNW.out (by intro u hu; unfold iv at hu; obtain ⟨z, _, rfl⟩ := List.mem_map.1 hu; rfl) (by omega) (by unfold maxLen; omega) (by omega) (by rw [← HK.out.1]; omega) _ rfl ?_; intro gg cap w2 hown hgrow hat hlt2; have hfr := Fr.of_grown hgrow; have HB2 := Lib.hid (hfr.below HB.out (fun x hx => (HW0.out.lt x hx).1) HB.out.size); have HF2 := Lib.hid (HF.out.fr hfr HNF.out); have hgg := HK.out.2; have HC2 : Hid (w2.cell? ⟨g, f + j * 5 + 2, none⟩ = some (.int .i64 lo) ∧ w2.cell? ⟨g, f + j * 5 + 3, none⟩ = some (.int .i64 hi)) := Lib.hid ⟨(hfr.cell (p := ⟨g, f + j * 5 + 2, none⟩) HGL.out (HNE.out g hgg)).trans HK23.out.1, (hfr.cell (p := ⟨g, f + j * 5 + 3, none⟩) HGL.out (HNE.out g hgg)).trans HK23.out.2⟩; clear hgg; have HOW := Lib.hid hown; clear hown hgrow hat hfr))
  have hcl : w2.cell? ⟨gg, j, none⟩ = some (.int .i64 (vl.getD j 0)) := by
    have := HOW.out.cellAt j (by omega)
    rw [this]
    show ([] ++ iv vl)[j]? = _
    rw [List.nil_append, iv_get vl j (by rw [HLN.out]; exact hjl)]
  have hfr : w2.frozen? ⟨gg, j, none⟩ = false := HOW.out.frozenAt j
  have f0 := HF2.out.at 0 _ rfl
  have c2 := HC2.out.1
  have c3 := HC2.out.2
  have hgl := hlt2
  refine wp_region_still_tail 16 (by kernel_rfl) (by kernel_rfl) ?_
  simp only [List.take_succ_cons, List.take_zero, List.drop_succ_cons, List.drop_zero]
  repeat still_step
  still_call ((rheld_b n lo hi r HR w2.drew).mono fun _ _ h => ⟨h.1, h.2.symm⟩)
  repeat still_step
  refine wpStill_nil ?_
  change wpList _ _ _ _ _ w2.drew
  go_wp2_with fail
  go_ret
  have hst := (HOW.out.stored j (.int .i64 r)).1
  rw [show iv [] ++ iv vl = iv vl from rfl, ← iv_set] at hst
  have hown2 : (w2.setCell ⟨gg, j, none⟩ (.int .i64 r)).ownsRow w.heap.size 3 1 (.slice (some ⟨gg, 0, none⟩) lv cap) (vl.set j r).length (iv (vl.set j r)) := by
    rw [List.length_set, HLN.out]
    simpa using hst
  have hb := HB2.out.setCell (p := ⟨gg, j, none⟩) (HOW.out.lt gg rfl).1 (.int .i64 r)
  refine ⟨some ⟨gg, 0, none⟩, cap, rfl, ?_, hb.drew⟩
  rw [HSV.out]
  exact ⟨(Zs.of_row hown2).below (Below.refl _ _).drew, fun _ ad had => by injection had with had; subst had; exact (HOW.out.lt gg rfl).1⟩

set_option maxRecDepth 100000 in
set_option maxHeartbeats 8000000 in
theorem rhatch_b (vs : List Vr) (hvb : vB vs) (hs : List Ht) (vals : List Int) (hva : valOk vs vals) (Av : Option Addr) (lv cv : Nat) (Ag : Option Addr) (lg cg : Nat) (Ay : Option Addr) (ly cy : Nat) (Ax : Option Addr) (lx cx : Nat) (w : World) (hh : HOk w Ag lg cg hs) (hz : Zs w Ax lx cx vals) (hlg : lg ≤ 1000)
    (hok : ∀ (i : Nat) (x : Ht), hs[i]? = some x → formedB vs true x.t = true ∧ (rangedP vs x.t).isSome = true ∧ x.low ≤ x.high) :
    Calls Tryz.prog 25 #[.agg #[.slice Av lv cv, .slice Ag lg cg, .slice Ay ly cy], .slice Ax lx cx] w fun e w' => ∃ A' c', e = .returned (.slice A' lg c') ∧ Zs w' A' lg c' (hatV vals hs) ∧ Below w.heap.size w w' := by
  obtain ⟨i0, hi0, hz0, hzz1, hz2⟩ := info_parts infoI
  have HIN := Lib.hid (And.intro hi0 (And.intro hz0 (And.intro hzz1 hz2)))
  have hba := (Below.refl w.heap.size w).alloc (Nat.le_refl _) (.cells #[.slice Av lv cv, .slice Ag lg cg, .slice Ay ly cy] 26)
  have hbb := hba.alloc hba.size (.cells #[] 3)
  have HB := Lib.hid hbb
  have HN := Lib.hid ((Cs.new w #[.slice Av lv cv, .slice Ag lg cg, .slice Ay ly cy] 26).alloc (.cells #[] 3))
  have HW : Hid (((w.alloc (.cells #[.slice Av lv cv, .slice Ag lg cg, .slice Ay ly cy] 26)).alloc (.cells #[] 3)).ownsRow w.heap.size 3 1 (.slice (some ⟨w.heap.size + 1, 0, none⟩) 0 0) 0 (iv (hatV vals (hs.take 0)))) := Lib.hid (by
    have := World.ownsRow_made (base := w.heap.size) (e := 3) (size := 1) (w.alloc (.cells #[.slice Av lv cv, .slice Ag lg cg, .slice Ay ly cy] 26)) #[] 0 (by simp) (Nat.zero_le _) rfl
    rwa [show (w.alloc (.cells #[.slice Av lv cv, .slice Ag lg cg, .slice Ay ly cy] 26)).heap.size = w.heap.size + 1 by simp] at this)
  have HNA : Hid ((Value.slice (some ⟨w.heap.size + 1, 0, none⟩) 0 0).ownBlock ≠ some w.heap.size) := Lib.hid (fun e => by simp [Value.ownBlock] at e)
  have HHS := Lib.hid hh
  have HHL := Lib.hid hh.len
  have HZ := Lib.hid hz
  have HVA := Lib.hid hva
  have HVB := Lib.hid hvb
  have HOK := Lib.hid hok
  clear hba hbb hh hz hva hvb hok hi0 hz0 hzz1 hz2
  go_enter Tryz.func25, Tryz.ntmps25
  go_upto_region 2 with fail
  obtain ⟨w1, hw1⟩ : ∃ w1, (w.alloc (.cells #[.slice Av lv cv, .slice Ag lg cg, .slice Ay ly cy] 26)).alloc (.cells #[] 3) = w1 := ⟨_, rfl⟩
  rw [hw1] at HB HN HW
  rw [hw1]
  clear hw1
  go_wp2_with fail
  go_loopw [5, 6] (fun u v wr => ∃ (k : Nat) (Ah : Option Addr) (ch : Nat), k ≤ lg ∧ u = .slice Ah k ch ∧ v = .int .i64 k ∧ Hid (wr.ownsRow w.heap.size 3 1 (.slice Ah k ch) k (iv (hatV vals (hs.take k)))) ∧ Hid (Below w.heap.size w wr) ∧ Hid (Cs wr w.heap.size [.slice Av lv cv, .slice Ag lg cg, .slice Ay ly cy]) ∧ Hid ((Value.slice Ah k ch).ownBlock ≠ some w.heap.size)) (fun _ v _ => lg - (intOf v).toNat)
  case atStart => exact ⟨0, _, 0, by omega, rfl, rfl, HW, HB, HN, HNA⟩
  case round =>
    clear HW HB HN HNA
    obtain ⟨k, Ah, ch, hk, rfl, rfl, HW, HB, HN, HNA⟩ := hrel
    have m1 := HN.out.at 1 _ rfl
    by_cases hlt : k < lg
    · obtain ⟨hs_, lo, hi, o, n, kk, gh, fh, At, ct, hx, hsz, hA, hgh, k0, k1, k2, k4, k5, k6, htk⟩ := (HHS.out.below HB.out).at k hlt
      subst hA
      obtain ⟨lt, hlt1⟩ : ∃ l, kk.length = l := ⟨_, rfl⟩
      rw [hlt1] at k6
      have hfz := HOK.out k _ hx
      have hht := hatV_take vals hx
      simp only at hfz hht
      obtain ⟨v1, hv1⟩ : ∃ z, valueP vals (.mk o n kk) = z := ⟨_, rfl⟩
      obtain ⟨v2, hv2⟩ : ∃ z, clampP v1 lo hi = z := ⟨_, rfl⟩
      rw [hv1, hv2] at hht
      have HHT := Lib.hid hht
      have HV1 := Lib.hid hv1
      have HV2 := Lib.hid (rheld_clamp hfz.2.2 hv2)
      have HFM := Lib.hid hfz.1
      have HRG := Lib.hid hfz.2.1
      have HLT1 := Lib.hid hlt1
      have hlt' : (k : Int) < (lg : Int) := by omega
      have hba := (Below.refl wr.heap.size wr).alloc (Nat.le_refl _) (.cells #[.string hs_, .int .i64 lo, .int .i64 hi, .int .i64 o, .int .i64 n, .slice At lt ct] 62)
      have HB4 := Lib.hid (HB.out.trans (hba.mono HB.out.size))
      have HN4 := Lib.hid (HN.out.next hba)
      have HW4 := Lib.hid (own_below HW.out hba)
      have HTK := Lib.hid (htk.below hba)
      have HQ := Lib.hid (Cs.new wr #[.string hs_, .int .i64 lo, .int .i64 hi, .int .i64 o, .int .i64 n, .slice At lt ct] 62)
      have HQN : Hid (¬ (Value.slice Ah k ch).ownBlock = some wr.heap.size) := Lib.hid (fun e => by have := (HW.out.lt _ e).2; omega)
      clear hx hsz hlt1 hfz hht hv1 hv2 htk hba HB HN HW
      go_upto_region 6 with fail
      obtain ⟨w4, hw4⟩ : ∃ w4, wr.alloc (.cells #[.string hs_, .int .i64 lo, .int .i64 hi, .int .i64 o, .int .i64 n, .slice At lt ct] 62) = w4 := ⟨_, rfl⟩
      obtain ⟨q, hq⟩ : ∃ q, wr.heap.size = q := ⟨_, rfl⟩
      rw [hw4] at HB4 HN4 HW4 HTK HQ
      rw [hq] at HQ HQN
      rw [hw4, hq]
      clear hw4 hq k0 k1 k2 k4 k5 k6 m1
      have KP : Hid (∀ W, Below w4.heap.size w4 W → (W.cell? ⟨q, 1, none⟩ = some (.int .i64 lo) ∧ W.cell? ⟨q, 2, none⟩ = some (.int .i64 hi) ∧ W.cell? ⟨q, 3, none⟩ = some (.int .i64 o) ∧ W.cell? ⟨q, 4, none⟩ = some (.int .i64 n) ∧ W.cell? ⟨q, 5, none⟩ = some (.slice At lt ct))) := fun W h => ⟨(HQ.out.next h).at 1 _ rfl, (HQ.out.next h).at 2 _ rfl, (HQ.out.next h).at 3 _ rfl, (HQ.out.next h).at 4 _ rfl, (HQ.out.next h).at 5 _ rfl⟩
      have HD0 := Lib.hid (Below.refl w4.heap.size w4).drew
      have HS0 := KP.out _ HD0.out
      have HKL : Hid ((hatV vals (hs.take k)).length = k) := Lib.hid (by rw [hatV, List.length_map, List.length_take, HHL.out]; omega)
      refine wp_region_x (fun W => W.cell? ⟨q, 1, none⟩ = some (.int .i64 lo) ∧ W.cell? ⟨q, 2, none⟩ = some (.int .i64 hi) ∧ W.cell? ⟨q, 3, none⟩ = some (.int .i64 o) ∧ W.cell? ⟨q, 4, none⟩ = some (.int .i64 n) ∧ W.cell? ⟨q, 5, none⟩ = some (.slice At lt ct)) 12 (by kernel_rfl) ?_
      refine wpAnyX_take 0 (v := ?v0) rfl (by kernel_rfl) (by kernel_rfl) (by kernel_rfl) (by kernel_rfl) (fun _ _ _ h => h) HS0 (Or.inl ⟨by rfl, ?y0⟩) ?r0
      case y0 =>
        intro wq hSq
        obtain ⟨s1, s2, s3, s4, s5⟩ := hSq
        go_simp
        try with_reducible rfl
      try simp only [Act.put, List.setIfInBounds_toArray]
      refine wpAnyX_take 1 (v := ?v1) rfl (by kernel_rfl) (by kernel_rfl) (by kernel_rfl) (by kernel_rfl) (fun _ _ _ h => h) HS0 (Or.inl ⟨by rfl, ?y1⟩) ?r1
      case y1 =>
        intro wq hSq
        obtain ⟨s1, s2, s3, s4, s5⟩ := hSq
        go_simp
        try with_reducible rfl
      try simp only [Act.put]
      refine wpAnyX_take 2 (v := ?v2) rfl (by kernel_rfl) (by kernel_rfl) (by kernel_rfl) (by kernel_rfl) (fun _ _ _ h => h) HS0 (Or.inl ⟨by rfl, ?y2⟩) ?r2
      case y2 =>
        intro wq hSq
        obtain ⟨s1, s2, s3, s4, s5⟩ := hSq
        go_simp
        try with_reducible rfl
      try simp only [Act.put]
      refine wpAnyX_take 3 (v := ?v3) rfl (by kernel_rfl) (by kernel_rfl) (by kernel_rfl) (by kernel_rfl) (fun _ _ _ h => h) HS0 (Or.inl ⟨by rfl, ?y3⟩) ?r3
      case y3 =>
        intro wq hSq
        obtain ⟨s1, s2, s3, s4, s5⟩ := hSq
        go_simp
        try with_reducible rfl
      try simp only [Act.put]
      refine wpAnyX_take 5 (v := ?v5) rfl (by kernel_rfl) (by kernel_rfl) (by kernel_rfl) (by kernel_rfl) (fun _ _ _ h => h) HS0 (Or.inl ⟨by rfl, ?y5⟩) ?r5
      case y5 =>
        intro wq hSq
        obtain ⟨s1, s2, s3, s4, s5⟩ := hSq
        go_simp
        try with_reducible rfl
      try simp only [Act.put]
      refine wpAnyX_take 6 (v := ?v6) rfl (by kernel_rfl) (by kernel_rfl) (by kernel_rfl) (by kernel_rfl) (fun _ _ _ h => h) HS0 (Or.inl ⟨by rfl, ?y6⟩) ?r6
      case y6 =>
        intro wq hSq
        obtain ⟨s1, s2, s3, s4, s5⟩ := hSq
        go_simp
        try with_reducible rfl
      try simp only [Act.put]
      refine wpAnyX_take 7 (v := ?v7) rfl (by kernel_rfl) (by kernel_rfl) (by kernel_rfl) (by kernel_rfl) (fun _ _ _ h => h) HS0 (Or.inl ⟨by rfl, ?y7⟩) ?r7
      case y7 =>
        intro wq hSq
        obtain ⟨s1, s2, s3, s4, s5⟩ := hSq
        go_simp
        try with_reducible rfl
      try simp only [Act.put]
      refine wpAnyX_take 8 (v := ?v8) rfl (by kernel_rfl) (by kernel_rfl) (by kernel_rfl) (by kernel_rfl) (fun _ _ _ h => h) HS0 (Or.inl ⟨by rfl, ?y8⟩) ?r8
      case y8 =>
        intro wq hSq
        obtain ⟨s1, s2, s3, s4, s5⟩ := hSq
        go_simp
        try with_reducible rfl
      try simp only [Act.put]
      clear HS0
      refine wpAnyX_one 4 (by kernel_rfl) rfl (fun K hK => ?_)
      go_simp
      go_at_call 55
      refine (rvalue_any vs HVB.out true vals HVA.out Ax lx cx (Tm.cnt (.mk o n kk)) o n kk lt At ct _ v1 HLT1.out (Nat.le_refl _) (HTK.out.below (Below.refl _ _).drew) (HZ.out.below (HB4.out.trans ((Below.refl w4.heap.size w4).drew.mono HB4.out.size))) HFM HRG HV1).mono ?_
      rintro e w5 ⟨rfl, hb1⟩
      have HD1 := Lib.hid (HD0.out.trans (hb1.mono HD0.out.size))
      clear hb1
      refine hK _ _ (fun _ => KP.out _ HD1.out) ?_
      clear hK K HD0
      try simp only [Act.put]
      refine wpAnyX_one 9 (by kernel_rfl) rfl (fun K hK => ?_)
      go_simp
      go_at_call 57
      refine (rheld_b v1 lo hi v2 HV2 _).mono ?_
      rintro e w6 ⟨rfl, rfl⟩
      refine hK _ _ (fun _ => KP.out _ HD1.out) ?_
      clear hK K
      try simp only [Act.put]
      refine wpAnyX_one 10 (by kernel_rfl) rfl (fun K hK => ?_)
      go_simp
      have HD2 := Lib.hid (HD1.out.alloc HD1.out.size (.cells #[.int .i64 v2] 3))
      refine hK _ _ (fun _ => KP.out _ HD2.out) ?_
      clear hK K
      try simp only [Act.put]
      have HRW := Lib.hid (own_below HW4.out HD2.out)
      have HN6 := Lib.hid (HN4.out.next HD2.out)
      have HB6 := Lib.hid (HB4.out.trans (HD2.out.mono HB4.out.size))
      refine wpAnyX_one 11 (by kernel_rfl) rfl (fun K hK => ?_)
      refine step_append_lies _ (by rfl) _ _ _ (by rfl) w.heap.size 3 i0 (.int .i64 0) 1 8 Tryz.underlying27 HIN.out.1 HIN.out.2.1 HIN.out.2.2.1 HIN.out.2.2.2 rfl (by decide) (.slice Ah k ch) k (iv (hatV vals (hs.take k))) (by rfl) HRW.out ⟨w5.heap.size, 0, none⟩ 1 1 [.int .i64 v2] (by rfl) (by rfl) (World.news_of_block (cs := #[.int .i64 v2]) (t := 3) (fr := (0, 0)) (heap_alloc_new w5 _)) (by simp [Value.oneCell']) (by decide) (by unfold maxLen; omega) (by omega) HB6.out.size (w5.heap.size + 1) (by simp) ?_
      intro gg cap w7 hown hgrow hat hlt7
      have hfr := Fr.of_grown hgrow
      have HNz := Lib.hid (HN6.out.fr hfr (fun e => HNA.out e))
      have HBz := Lib.hid (hfr.below HB6.out (fun x hx => (HRW.out.lt x hx).1) HB6.out.size)
      have hqne : ¬ (Value.slice Ah k ch).ownBlock = some q := fun e => HQN.out e
      have hq7 := (HQ.out.next HD2.out).fr hfr hqne
      refine hK _ _ (fun _ => ⟨hq7.at 1 _ rfl, hq7.at 2 _ rfl, hq7.at 3 _ rfl, hq7.at 4 _ rfl, hq7.at 5 _ rfl⟩) ?_
      clear hK K
      try simp only [Act.put]
      refine wpAnyX_one 12 (by kernel_rfl) rfl (fun K hK => ?_)
      go_simp
      refine hK _ _ (fun h => absurd h (by decide)) ?_
      clear hK K
      refine wpAnyX_done (by kernel_rfl) ?_ _
      have HNB : Hid ((Value.slice (some ⟨gg, 0, none⟩) (k + 1) cap).ownBlock ≠ some w.heap.size) := Lib.hid (fun e => by
        simp [Value.ownBlock] at e
        rcases hat with h | h
        · exact HNA.out (by rw [h, e])
        · have h1 := HD1.out.size; have h2 := HN4.out.lt; omega)
      have HOX : Hid (w7.ownsRow w.heap.size 3 1 (.slice (some ⟨gg, 0, none⟩) (k + 1) cap) (k + 1) (iv (hatV vals (hs.take (k + 1))))) := Lib.hid (by rw [HHT.out, iv_app]; exact hown)
      clear hown hgrow hat hlt7 hfr hq7 hqne HRW HD1 HD2 HN6 HB6 KP HQ HKL HNA HB4 HN4 HW4
      go_wp2_with fail
      go_roundw
      case rel => exact ⟨k + 1, some ⟨gg, 0, none⟩, cap, by omega, rfl, by go_num, HOX, HBz, HNz, HNB⟩
      case measure => simp [intOf]; omega
    · obtain rfl : k = lg := by omega
      go_wp2_with fail
      go_ret
      have hz := Zs.of_row (zs := hatV vals (hs.take k)) (by rw [hatV, List.length_map, List.length_take, HHL.out, Nat.min_self]; exact HW.out)
      rw [List.take_of_length_le (by rw [HHL.out]; exact Nat.le_refl _)] at hz
      exact ⟨Ah, ch, rfl, hz, HB.out⟩
end Go.Proofs.YtjpjmoejdkmglaaGreat
