/-
  The walks over the library's Clone of integers and over Seen.
-/
import Derived.Test.YtjpjmoejdkmglaaFlQb
import Derived.Lib.SliceRun
namespace Go.Proofs.Ytjpjmoejdkmglaa
open Go.RowKit

theorem Zs.put {W : World} {A : Option Addr} {l c : Nat} {zs : List Int} (h : Zs W A l c zs) {p : Addr} (hp : ∀ ad, A = some ad → p.block ≠ ad.block) (u : Value) : Zs (W.setCell p u) A l c zs :=
  ⟨h.len, h.cap, h.big, fun h0 => by
    obtain ⟨g, f, h1, h2, h3⟩ := h.mem h0
    exact ⟨g, f, h1, by simpa using h2, fun j hj => (World.cell?_setCell_far W p ⟨g, f + j, none⟩ u (hp ⟨g, f, none⟩ h1)).trans (h3 j hj)⟩⟩
/-- A list that is handed back: a copy of its own. -/
def Copied (bs : List Int) (l : Nat) (w : World) (e : Ending) (w' : World) : Prop := ∃ (A' : Option Addr) (c' : Nat), e = .returned (.slice A' l c') ∧ Zs w' A' l c' bs ∧ Below w.heap.size w w' ∧ ∀ ad, A' = some ad → w.heap.size ≤ ad.block ∧ ad.block < w'.heap.size
set_option maxRecDepth 100000 in
set_option maxHeartbeats 2000000 in
theorem clone_b (bs : List Int) (A : Option Addr) (l c : Nat) (w : World) (hz : Zs w A l c bs) (hr : l * 8 ≤ 140737488355328) :
    Calls Try.prog 63 #[.slice A l c] w (Copied bs l w) := by
  have HZ := Lib.hid hz
  have hq := fun wx : World => Lib.run_eql_slice_nil (P := Try.prog) wx 32 3 A l c 0 0 Try.underlying32
  cases A with
  | none =>
    have hl : l = 0 := by
      rcases Nat.eq_zero_or_pos l with h | h
      · exact h
      · obtain ⟨g, f, h1, _⟩ := hz.mem h; cases h1
    subst hl
    have hb : bs = [] := List.length_eq_zero_iff.1 hz.len
    subst hb
    clear hz
    go_enter Try.func63, Try.ntmps63
    go_wp2_with fail
    go_ret
    exact ⟨none, 0, rfl, Zs.nil _, Below.refl _ _, fun _ h => by cases h⟩
  | some ad =>
    obtain ⟨i0, hi0, hz0, hzz1, hz2⟩ := info_parts infoI
    have HIN := Lib.hid (And.intro hi0 (And.intro hz0 (And.intro hzz1 hz2)))
    have HL := Lib.hid hz.len
    have HR := Lib.hid hr
    have hbm : l ≤ maxLen := Nat.le_trans hz.cap hz.big
    have HBM := Lib.hid hbm
    have hnw : ∀ j u, (iv bs)[j]? = some u → (w.alloc (.cells #[] 3)).cell? (ad.add j) = some u := by
      intro j u hu
      have hj : j < bs.length := by rw [← iv_len]; exact (List.getElem?_eq_some_iff.1 hu).1
      rw [iv_get bs j hj] at hu
      injection hu with hu
      obtain ⟨g, f, hA, hg, hc⟩ := (hz.below ((Below.refl w.heap.size w).alloc (Nat.le_refl _) (.cells #[] 3))).mem (by rw [← hz.len]; omega)
      injection hA with hA
      subst hA
      have hadd : (⟨g, f, none⟩ : Addr).add j = ⟨g, f + j, none⟩ := by unfold Addr.add; split <;> simp_all
      rw [hadd, hc j (by rw [← hz.len]; exact hj), hu]
    have HNW := Lib.hid hnw
    clear hi0 hz0 hzz1 hz2 hz hnw hr hbm
    go_enter Try.func63, Try.ntmps63
    go_wp2_with (at_builtin; (refine wpList_append_own _ rfl _ _ 32 rfl w.heap.size 3 i0 (.int .i64 0) 1 8 Try.underlying32 HIN.out.1 HIN.out.2.1 HIN.out.2.2.1 HIN.out.2.2.2 rfl (by decide) _ 0 [] rfl (World.ownsRow_made w #[] 0 (Nat.le_refl _) (Nat.zero_le _) rfl) ad l c (iv bs) rfl (by rw [iv_len, HL.out, Nat.mul_one]) HNW.out (by intro u hu; unfold iv at hu; obtain ⟨z, _, rfl⟩ := List.mem_map.1 hu; rfl) (by rw [Nat.zero_add]; exact HBM.out) (by rw [Nat.zero_add]; exact HR.out) (by simp) ?_; intro v' w2 hown hgrow hnil; have HOW := Lib.hid hown; have HGR : Hid ((w.alloc (.cells #[] 3)).grownBy w2 (Value.slice (some ⟨w.heap.size, 0, none⟩) 0 0).ownBlock) := hgrow; clear hown hgrow hnil))
    go_ret
    have how := HOW.out
    rw [Nat.zero_add, List.nil_append] at how
    have hlow : Below w.heap.size w w2 := (Fr.of_grown HGR.out).below ((Below.refl w.heap.size w).alloc (Nat.le_refl _) _) (fun k hk => by simp [Value.ownBlock] at hk; omega) (by simp)
    rcases Joins.ownsRow_forms how with ⟨rfl, h0⟩ | ⟨g, cap, rfl⟩
    · subst h0
      have hb : bs = [] := List.length_eq_zero_iff.1 HL.out
      subst hb
      exact ⟨none, 0, rfl, Zs.nil _, hlow, fun _ h => by cases h⟩
    · refine ⟨some ⟨g, 0, none⟩, cap, rfl, ?_, hlow, fun ad h => by injection h with h; subst h; exact how.lt g rfl⟩
      have h := HL.out
      subst h
      exact Zs.of_row how

/-- An observation that is handed back. -/
def SeenAs (bs : List Int) (l : Nat) (s : Int) (w : World) (e : Ending) (w' : World) : Prop := ∃ (A' : Option Addr) (c' : Nat), e = .returned (.agg #[.slice A' l c', .int .i64 s]) ∧ Zs w' A' l c' bs ∧ Below w.heap.size w w'
set_option maxRecDepth 100000 in
set_option maxHeartbeats 4000000 in
theorem Seen_false (bs : List Int) (s : Int) (A : Option Addr) (l c : Nat) (w : World) (hz : Zs w A l c bs) (hr : l * 8 ≤ 140737488355328) :
    Calls Try.prog 25 #[.agg #[.slice A l c, .int .i64 s], .bool false] w (SeenAs bs l 0 w) := by
  have hb1 := (Below.refl w.heap.size w).alloc (Nat.le_refl _) (.cells #[.slice A l c, .int .i64 s] 36)
  have hb2 := hb1.alloc hb1.size (.cells #[.slice none 0 0, .int .i64 0] 36)
  have HB := Lib.hid hb2
  have HN := Lib.hid ((Cs.new w #[.slice A l c, .int .i64 s] 36).alloc (.cells #[.slice none 0 0, .int .i64 0] 36))
  have HM := Lib.hid (Cs.new1 w (.cells #[.slice A l c, .int .i64 s] 36) #[.slice none 0 0, .int .i64 0] 36)
  have HZ := Lib.hid (hz.below hb2)
  clear hb1 hb2 hz
  go_enter Try.func25, Try.ntmps25
  go_upto_region 1 with fail
  obtain ⟨w1, hw1⟩ : ∃ w1, (w.alloc (.cells #[.slice A l c, .int .i64 s] 36)).alloc (.cells #[.slice none 0 0, .int .i64 0] 36) = w1 := ⟨_, rfl⟩
  rw [hw1] at HB HN HM HZ
  rw [hw1]
  clear hw1
  have n0 := HN.out.at 0 _ rfl
  go_wp2_with fail
  go_at_call 63
  refine (clone_b bs A l c _ HZ.out hr).mono ?_
  rintro e w2 ⟨A', c', rfl, hz2, hb, hfr⟩
  have hba := (Below.refl w2.heap.size w2).alloc (Nat.le_refl _) (.cells #[.slice A' l c', .int .i64 0] 36)
  have hbb := hb.trans (hba.mono hb.size)
  have HB2 := Lib.hid (HB.out.trans (hbb.mono HB.out.size))
  have HN2 := Lib.hid (HN.out.next hbb)
  have HM2 := Lib.hid (HM.out.next hbb)
  have HZ2 := Lib.hid (hz2.below hba)
  have HP2 := Lib.hid (Cs.new w2 #[.slice A' l c', .int .i64 0] 36)
  have HLT : Hid (w.heap.size + 1 < w2.heap.size) := Lib.hid (HM.out.next hb).lt
  have HFR : Hid (∀ ad, A' = some ad → w.heap.size + 1 < ad.block ∧ ad.block < w2.heap.size) := fun ad h => ⟨Nat.lt_of_lt_of_le HM.out.lt (hfr ad h).1, (hfr ad h).2⟩
  clear hb hba hbb hz2 HB HN HM HZ n0 hfr
  go_upto_region 2 with fail
  obtain ⟨w3, hw3⟩ : ∃ w3, w2.alloc (.cells #[.slice A' l c', .int .i64 0] 36) = w3 := ⟨_, rfl⟩
  obtain ⟨q, hq⟩ : ∃ q, w2.heap.size = q := ⟨_, rfl⟩
  rw [hw3] at HB2 HN2 HM2 HZ2 HP2
  rw [hq] at HP2 HLT HFR
  rw [hw3, hq]
  clear hw3 hq
  have n1 := HN2.out.at 1 _ rfl
  have m0 := HM2.out.at 0 _ rfl
  have m1 := HM2.out.at 1 _ rfl
  have mf0 := HM2.out.free 0
  have mf1 := HM2.out.free 1
  have p0 := HP2.out.at 0 _ rfl
  have p1 := HP2.out.at 1 _ rfl
  have pf1 := HP2.out.free 1
  have ne1 : ¬ q = w.heap.size + 1 := by have := HLT.out; omega
  have ne2 : ¬ w.heap.size + 1 = q := by have := HLT.out; omega
  have hml := HM2.out.lt
  have hpl := HP2.out.lt
  go_wp2_with fail
  have HF := (HM2.out.set 0 (.slice A' l c') (by simp)).set 1 (.int .i64 0) (by simp)
  have z0 := HF.at 0 _ rfl
  have z1 := HF.at 1 _ rfl
  refine bodyPost_ret (v := .agg #[.slice A' l c', .int .i64 0]) (by simp [results, Try.results25, go_sem, z0, z1]) rfl ?_
  exact ⟨A', c', rfl, (HZ2.out.put (p := ⟨w.heap.size + 1, 0, none⟩) (fun ad h => by have := HFR.out ad h; simp only [ne_eq]; omega) _).put (p := ⟨w.heap.size + 1, 1, none⟩) (fun ad h => by have := HFR.out ad h; simp only [ne_eq]; omega) _, (HB2.out.setCell (p := ⟨w.heap.size + 1, 0, none⟩) (by simp only; omega) _).setCell (p := ⟨w.heap.size + 1, 1, none⟩) (by simp only; omega) _⟩

set_option maxRecDepth 100000 in
set_option maxHeartbeats 4000000 in
theorem Seen_true (bs : List Int) (s : Int) (A : Option Addr) (l c : Nat) (w : World) (hz : Zs w A l c bs) (hr : l * 8 ≤ 140737488355328) :
    Calls Try.prog 25 #[.agg #[.slice A l c, .int .i64 s], .bool true] w (SeenAs bs l s w) := by
  have hb1 := (Below.refl w.heap.size w).alloc (Nat.le_refl _) (.cells #[.slice A l c, .int .i64 s] 36)
  have hb2 := hb1.alloc hb1.size (.cells #[.slice none 0 0, .int .i64 0] 36)
  have HB := Lib.hid hb2
  have HN := Lib.hid ((Cs.new w #[.slice A l c, .int .i64 s] 36).alloc (.cells #[.slice none 0 0, .int .i64 0] 36))
  have HM := Lib.hid (Cs.new1 w (.cells #[.slice A l c, .int .i64 s] 36) #[.slice none 0 0, .int .i64 0] 36)
  have HZ := Lib.hid (hz.below hb2)
  clear hb1 hb2 hz
  go_enter Try.func25, Try.ntmps25
  go_upto_region 1 with fail
  obtain ⟨w1, hw1⟩ : ∃ w1, (w.alloc (.cells #[.slice A l c, .int .i64 s] 36)).alloc (.cells #[.slice none 0 0, .int .i64 0] 36) = w1 := ⟨_, rfl⟩
  rw [hw1] at HB HN HM HZ
  rw [hw1]
  clear hw1
  have n0 := HN.out.at 0 _ rfl
  go_wp2_with fail
  go_at_call 63
  refine (clone_b bs A l c _ HZ.out hr).mono ?_
  rintro e w2 ⟨A', c', rfl, hz2, hb, hfr⟩
  have hba := (Below.refl w2.heap.size w2).alloc (Nat.le_refl _) (.cells #[.slice A' l c', .int .i64 0] 36)
  have hbb := hb.trans (hba.mono hb.size)
  have HB2 := Lib.hid (HB.out.trans (hbb.mono HB.out.size))
  have HN2 := Lib.hid (HN.out.next hbb)
  have HM2 := Lib.hid (HM.out.next hbb)
  have HZ2 := Lib.hid (hz2.below hba)
  have HP2 := Lib.hid (Cs.new w2 #[.slice A' l c', .int .i64 0] 36)
  have HLT : Hid (w.heap.size + 1 < w2.heap.size) := Lib.hid (HM.out.next hb).lt
  have HFR : Hid (∀ ad, A' = some ad → w.heap.size + 1 < ad.block ∧ ad.block < w2.heap.size) := fun ad h => ⟨Nat.lt_of_lt_of_le HM.out.lt (hfr ad h).1, (hfr ad h).2⟩
  clear hb hba hbb hz2 HB HN HM HZ n0 hfr
  go_upto_region 2 with fail
  obtain ⟨w3, hw3⟩ : ∃ w3, w2.alloc (.cells #[.slice A' l c', .int .i64 0] 36) = w3 := ⟨_, rfl⟩
  obtain ⟨q, hq⟩ : ∃ q, w2.heap.size = q := ⟨_, rfl⟩
  rw [hw3] at HB2 HN2 HM2 HZ2 HP2
  rw [hq] at HP2 HLT HFR
  rw [hw3, hq]
  clear hw3 hq
  have n1 := HN2.out.at 1 _ rfl
  have m0 := HM2.out.at 0 _ rfl
  have m1 := HM2.out.at 1 _ rfl
  have mf0 := HM2.out.free 0
  have mf1 := HM2.out.free 1
  have p0 := HP2.out.at 0 _ rfl
  have p1 := HP2.out.at 1 _ rfl
  have pf1 := HP2.out.free 1
  have ne1 : ¬ q = w.heap.size + 1 := by have := HLT.out; omega
  have ne2 : ¬ w.heap.size + 1 = q := by have := HLT.out; omega
  have hml := HM2.out.lt
  have hpl := HP2.out.lt
  go_wp2_with fail
  have HF := (((HM2.out.other (p := ⟨q, 1, none⟩) ne1 (.int .i64 s)).set 0 (.slice A' l c') (by simp)).set 1 (.int .i64 s) (by simp))
  have z0 := HF.at 0 _ rfl
  have z1 := HF.at 1 _ rfl
  refine bodyPost_ret (v := .agg #[.slice A' l c', .int .i64 s]) (by simp [results, Try.results25, go_sem, z0, z1]) rfl ?_
  exact ⟨A', c', rfl, ((HZ2.out.put (p := ⟨q, 1, none⟩) (fun ad h => by have := HFR.out ad h; simp only [ne_eq]; omega) _).put (p := ⟨w.heap.size + 1, 0, none⟩) (fun ad h => by have := HFR.out ad h; simp only [ne_eq]; omega) _).put (p := ⟨w.heap.size + 1, 1, none⟩) (fun ad h => by have := HFR.out ad h; simp only [ne_eq]; omega) _, ((HB2.out.setCell (p := ⟨q, 1, none⟩) (by simp only; have := HLT.out; omega) _).setCell (p := ⟨w.heap.size + 1, 0, none⟩) (by simp only; omega) _).setCell (p := ⟨w.heap.size + 1, 1, none⟩) (by simp only; omega) _⟩
end Go.Proofs.Ytjpjmoejdkmglaa
