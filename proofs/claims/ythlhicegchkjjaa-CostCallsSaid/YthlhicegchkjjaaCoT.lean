/-
  The walks over Enter of the program and of the reference.
-/
import Derived.Test.YthlhicegchkjjaaCoL
namespace Go.Proofs.Ythlhicegchkjjaa
open Go.RowKit

namespace CM
/-- The cost of arguments, each with its number of scalars. -/
def tot (C : CM) : List ET → List Int → Int
  | e :: es, z :: zs => (C.sum e + C.c0 * z) + tot C es zs
  | _, _ => 0
/-- What Enter returns. -/
def enterR (C : CM) (es : List ET) (zs : List Int) : Int × Int := if wf C es = 0 then (if es.length = zs.length then (if cnts zs = 0 then (C.c3 + C.tot es zs, 0) else (0, 3)) else (0, 2)) else (0, wf C es)
theorem tot_next (C : CM) : ∀ (es : List ET) (zs : List Int) (k : Nat) (h : k < es.length) (_ : k < zs.length), C.tot (es.take (k + 1)) (zs.take (k + 1)) = C.tot (es.take k) (zs.take k) + (C.sum es[k] + C.c0 * zs.getD k 0)
  | [], _, _, h, _ => by simp at h
  | _ :: _, [], _, _, h => by simp at h
  | e :: es, z :: zs, 0, _, _ => by simp [tot]
  | e :: es, z :: zs, k + 1, h, h2 => by
    have := tot_next C es zs k (by simpa using h) (by simpa using h2)
    simp only [List.take_succ_cons, tot, List.getElem_cons_succ, List.getD_cons_succ] at this ⊢
    omega
theorem cnts_hit {zs : List Int} {k : Nat} (hk : k < zs.length) (h : zs.getD k 0 < 0 ∨ 32 < zs.getD k 0) : cnts zs = 3 := by
  unfold cnts
  rw [if_neg]
  intro ha
  have := ha k hk
  omega
theorem cnts_ok {zs : List Int} (h : ∀ j, j < zs.length → 0 ≤ zs.getD j 0 ∧ zs.getD j 0 ≤ 32) : cnts zs = 0 := if_pos h
theorem args_nil (C : CM) (es : List ET) : args C [] es = wf C es := by
  unfold args wf
  by_cases h : C.chk = 0
  · rw [if_pos h, if_pos h, if_pos (show codes [] = 0 from rfl)]
    by_cases h1 : codes es = 0
    · rw [if_pos h1, h1]; rfl
    · rw [if_neg h1]
  · rw [if_neg h, if_neg h]
end CM
theorem wf_hid {C : CM} {es : List ET} (h : CM.wf C es = 0) : C.ok := wf_ok h
/-- A model's block, behind which the world only grows. -/
structure Bo (w W : World) (C : CM) : Prop where
  below : Below w.heap.size w W
  lt : w.heap.size < W.heap.size
  cc : CIn W w.heap.size C
theorem Bo.next {w W W' : World} {C : CM} (h : Bo w W C) (hb : Below W.heap.size W W') : Bo w W' C :=
  ⟨h.below.trans (hb.mono h.below.size), Nat.lt_of_lt_of_le h.lt hb.size, h.cc.mk fun i => hb.cell (p := ⟨w.heap.size, i, none⟩) h.lt⟩
theorem Bo.drew {w W : World} {C : CM} (h : Bo w W C) : Bo w W.drew C := h.next (Below.refl _ _).drew
theorem bo (w : World) (C : CM) : Bo w (boxC w C) C := by
  refine ⟨boxC_below w C, by simp [boxC], ?_⟩
  unfold CIn boxC
  refine ⟨?_, ?_, ?_, ?_, ?_, ?_, ?_, ?_, ?_, ?_, ?_, ?_, ?_⟩ <;> simp
theorem keepT {w W : World} {C : CM} {g p : Nat} {o' n' : Int} {s' : ByteArray} {A' : Option Addr} {l' c' : Nat} {gz pz : Nat} {z : Int} (X : Bo w W C) (Y : Kx W g p o' n' s' A' l' c') (hz : W.cell? ⟨gz, pz, none⟩ = some (.int .i64 z)) :
    W.cell? ⟨g, p, none⟩ = some (.int .i64 o') ∧ W.cell? ⟨g, p + 1, none⟩ = some (.int .i64 n') ∧ W.cell? ⟨g, p + 2, none⟩ = some (.string s') ∧ W.cell? ⟨g, p + 3, none⟩ = some (.slice A' l' c') ∧ W.cell? ⟨gz, pz, none⟩ = some (.int .i64 z) ∧ W.cell? ⟨w.heap.size, 0, none⟩ = some (.int .i64 C.c0) ∧ W.cell? ⟨w.heap.size, 1, none⟩ = some (.int .i64 C.c1) ∧ W.cell? ⟨w.heap.size, 2, none⟩ = some (.int .i64 C.c2) ∧ W.cell? ⟨w.heap.size, 3, none⟩ = some (.int .i64 C.c3) ∧ W.cell? ⟨w.heap.size, 4, none⟩ = some (.int .i64 C.c4) ∧ W.cell? ⟨w.heap.size, 5, none⟩ = some (.int .i64 C.c5) ∧ W.cell? ⟨w.heap.size, 6, none⟩ = some (.int .i64 C.c6) ∧ W.cell? ⟨w.heap.size, 7, none⟩ = some (.int .i64 C.c7) ∧ W.cell? ⟨w.heap.size, 8, none⟩ = some (.int .i64 C.c8) ∧ W.cell? ⟨w.heap.size, 9, none⟩ = some (.int .i64 C.c9) ∧ W.cell? ⟨w.heap.size, 10, none⟩ = some (.int .i64 C.c10) ∧ W.cell? ⟨w.heap.size, 11, none⟩ = some (.int .i64 C.c11) ∧ W.cell? ⟨w.heap.size, 12, none⟩ = some (.int .i64 C.c12) :=
  ⟨Y.k0, Y.k1, Y.k2, Y.k3, hz, X.cc⟩

set_option maxRecDepth 100000 in
set_option maxHeartbeats 8000000 in
theorem enter_b (C : CM) (es : List ET) (zs : List Int) (A B : Option Addr) (c d l m : Nat) (x k0 : Int) (w : World) (hM : ML w) (hl : es.length = l) (hl2 : zs.length = m) (hl10 : l ≤ 10) (hS : ∀ (k : Nat) (h : k < es.length), ET.cnt es[k] ≤ 300 ∧ ET.dep es[k] ≤ 300) (hE : LOk w A c es) (hZ : ZOk w B d zs) (H : Hid (C.enterR es zs = (x, k0))) :
    Calls Try.prog 19 #[.agg #[.int .i64 C.c0, .int .i64 C.c1, .int .i64 C.c2, .int .i64 C.c3, .int .i64 C.c4, .int .i64 C.c5, .int .i64 C.c6, .int .i64 C.c7, .int .i64 C.c8, .int .i64 C.c9, .int .i64 C.c10, .int .i64 C.c11, .int .i64 C.c12], .slice A l c, .slice B m d] w fun e w' => e = .returned (.tuple #[.int .i64 x, .int .i64 k0]) ∧ Below w.heap.size w w' := by
  have hmm : m ≤ 9223372036854775807 := by have h1 := hZ.1; have h2 := hZ.2.1; unfold maxLen at h2; omega
  have hlm : l ≤ 9223372036854775807 := by omega
  obtain ⟨q0, hq⟩ : ∃ q, CM.wf C es = q := ⟨_, rfl⟩
  have hxk := H.out
  unfold CM.enterR at hxk
  rw [hq, hl, hl2] at hxk
  have HS3 := Lib.hid hS
  have HSM : Hid (Small es) := fun k h => ⟨by have := (HS3.out k h).1; omega, by have := (HS3.out k h).2; omega⟩
  have HE := Lib.hid hE
  have HZ := Lib.hid hZ
  have HLE := Lib.hid hl
  have HLZ := Lib.hid hl2
  have X0 := Lib.hid (bo w C)
  have HML := Lib.hid hM
  clear hM
  clear hE hZ hl hl2 hS H
  by_cases hq0 : q0 = 0
  · subst hq0
    rw [if_pos rfl] at hxk
    have HOK := Lib.hid (wf_ok hq)
    have HQ := Lib.hid (hq)
    clear hq
    by_cases hlm2 : l = m
    · subst hlm2
      rw [if_pos rfl] at hxk
      have h0 := HOK.out 0 (by omega)
      have h3 := HOK.out 3 (by omega)
      simp only [CM.get] at h0 h3
      obtain ⟨h00, h01⟩ := h0
      obtain ⟨h30, h31⟩ := h3
      go_enter Try.func19, Try.ntmps19
      go_wp2_with fail
      refine (wellf_b C es A c l 0 HLE.out HQ HSM.out _ (HML.out.below HML.out.pos X0.out.below) (HE.out.below X0.out.below)).mono ?_
      rintro e w2 ⟨rfl, hb⟩
      have X2 := Lib.hid (X0.out.next hb)
      clear hb X0
      have hcc := X2.out.cc
      unfold CIn at hcc
      obtain ⟨m_0, m_1, m_2, m_3, m_4, m_5, m_6, m_7, m_8, m_9, m_10, m_11, m_12⟩ := hcc
      go_wp2_with fail
      go_loopw [9, 27] (fun u v wr => ∃ (k : Nat) (t : Int), k ≤ l ∧ 0 ≤ t ∧ t ≤ 100 + k * 33200 ∧ u = .int .i64 t ∧ v = .int .i64 k ∧ Hid (t = C.c3 + C.tot (es.take k) (zs.take k)) ∧ Hid (∀ j, j < k → 0 ≤ zs.getD j 0 ∧ zs.getD j 0 ≤ 32) ∧ Hid (Bo w wr C)) (fun _ v _ => l - (intOf v).toNat)
      case atStart => exact ⟨0, C.c3, by omega, by omega, by omega, rfl, rfl, by show _ = _; simp [CM.tot], fun j hj => absurd hj (by omega), X2⟩
      case round =>
        obtain ⟨k, t, hk, ht0, ht1, rfl, rfl, HT, HK, X⟩ := hrel
        clear X2 m_0 m_1 m_2 m_3 m_4 m_5 m_6 m_7 m_8 m_9 m_10 m_11 m_12
        have hcc := X.out.cc
        unfold CIn at hcc
        obtain ⟨m_0, m_1, m_2, m_3, m_4, m_5, m_6, m_7, m_8, m_9, m_10, m_11, m_12⟩ := hcc
        by_cases hlt : k < l
        · have hlt' : k < es.length := by have := HLE.out; omega
          obtain ⟨o', n', s', ks', g, f, A', c', hkid, hAA, hg, hok, c0, c1, c2, c3⟩ := (HE.out.below X.out.below).kid k hlt'
          obtain ⟨l', hl'⟩ : ∃ l', ks'.length = l' := ⟨_, rfl⟩
          rw [hl'] at c3
          have Y : Kx wr g (f + k * 4) o' n' s' A' l' c' := ⟨hg, c0, c1, c2, c3⟩
          have HL' := Lib.hid hl'
          have hsm := HSM.out k hlt'
          have hs3 := (HS3.out k hlt').1
          rw [hkid] at hsm hs3
          have HSK := Lib.hid hsm
          have HO := Lib.hid hok
          obtain ⟨q, hqs⟩ : ∃ q, C.sum (.mk o' n' s' ks') = q := ⟨_, rfl⟩
          have HQS := Lib.hid hqs
          have hr2 := CM.sum_range HOK.out (.mk o' n' s' ks')
          rw [hqs] at hr2
          have hq00 : 0 ≤ q := hr2.1
          have hq01 : q ≤ 30000 := by omega
          obtain ⟨gz, fz, hBB, hgz, hz⟩ := (HZ.out.below X.out.below).2.2 k (by have := HLZ.out; omega)
          have HGZ := Lib.hid hgz
          subst hAA
          subst hBB
          obtain ⟨z, hzz⟩ : ∃ z, zs.getD k 0 = z := ⟨_, rfl⟩
          rw [hzz] at hz
          by_cases hz0 : z < 0
          · have hc3 : CM.cnts zs = 3 := CM.cnts_hit (k := k) (by have := HLZ.out; omega) (.inl (by rw [hzz]; exact hz0))
            rw [hc3, if_neg (by decide)] at hxk
            obtain ⟨rfl, rfl⟩ := pair_eq hxk
            clear hxk hc3 hzz HT HK hlt' hkid hok hl' hsm hs3 hqs hr2
            go_wp2_with fail
            go_ret2
            exact ⟨rfl, X.out.below⟩
          by_cases hz1 : 32 < z
          · have hc3 : CM.cnts zs = 3 := CM.cnts_hit (k := k) (by have := HLZ.out; omega) (.inr (by rw [hzz]; exact hz1))
            rw [hc3, if_neg (by decide)] at hxk
            obtain ⟨rfl, rfl⟩ := pair_eq hxk
            clear hxk hc3 hzz HT HK hlt' hkid hok hl' hsm hs3 hqs hr2
            go_wp2_with fail
            go_ret2
            exact ⟨rfl, X.out.below⟩
          have hz0' : 0 ≤ z := by omega
          have hz1' : z ≤ 32 := by omega
          have hp1 : 0 ≤ C.c0 * z := Int.mul_nonneg h00 hz0'
          have hp2 : C.c0 * z ≤ 100 * 32 := Int.mul_le_mul h01 hz1' hz0' (by omega)
          have HS : Hid (t + (q + C.c0 * z) = C.c3 + C.tot (es.take (k + 1)) (zs.take (k + 1))) := by
            show _ = _
            rw [HT.out, CM.tot_next C es zs k hlt' (by have := HLZ.out; omega), hkid, hqs, hzz]; omega
          have HK1 : Hid (∀ j, j < k + 1 → 0 ≤ zs.getD j 0 ∧ zs.getD j 0 ≤ 32) := by
            intro j hj
            by_cases hjk : j = k
            · subst hjk; rw [hzz]; omega
            · exact HK.out j (by omega)
          obtain ⟨u1, hu1⟩ : ∃ u, C.c0 * z = u := ⟨_, rfl⟩
          have hw1 : IntKind.i64.wrap (C.c0 * z) = u1 := by rw [← hu1]; exact IntWalk.i64_in _ (by omega)
          rw [hu1] at hp1 hp2 HS
          have hw2 : IntKind.i64.wrap (q + u1) = q + u1 := IntWalk.i64_in _ (by omega)
          have hw3 : IntKind.i64.wrap (t + (q + u1)) = t + (q + u1) := IntWalk.i64_in _ (by omega)
          have hts : t + (q + u1) ≤ 100 + ((k + 1 : Nat) : Int) * 33200 := by omega
          have hk0 : (0 : Int) ≤ (k : Int) := by omega
          have hk1 : (k : Int) < (l : Int) := by omega
          clear hzz HT HK hlt' hkid hok hl' hsm hs3 hqs hr2 hu1 hz0 hz1
          go_wp2_with fail
          go_region_held3 (fun W => W.cell? ⟨g, f + k * 4, none⟩ = some (.int .i64 o') ∧ W.cell? ⟨g, f + k * 4 + 1, none⟩ = some (.int .i64 n') ∧ W.cell? ⟨g, f + k * 4 + 2, none⟩ = some (.string s') ∧ W.cell? ⟨g, f + k * 4 + 3, none⟩ = some (.slice A' l' c') ∧ W.cell? ⟨gz, fz + k, none⟩ = some (.int .i64 z) ∧ W.cell? ⟨w.heap.size, 0, none⟩ = some (.int .i64 C.c0) ∧ W.cell? ⟨w.heap.size, 1, none⟩ = some (.int .i64 C.c1) ∧ W.cell? ⟨w.heap.size, 2, none⟩ = some (.int .i64 C.c2) ∧ W.cell? ⟨w.heap.size, 3, none⟩ = some (.int .i64 C.c3) ∧ W.cell? ⟨w.heap.size, 4, none⟩ = some (.int .i64 C.c4) ∧ W.cell? ⟨w.heap.size, 5, none⟩ = some (.int .i64 C.c5) ∧ W.cell? ⟨w.heap.size, 6, none⟩ = some (.int .i64 C.c6) ∧ W.cell? ⟨w.heap.size, 7, none⟩ = some (.int .i64 C.c7) ∧ W.cell? ⟨w.heap.size, 8, none⟩ = some (.int .i64 C.c8) ∧ W.cell? ⟨w.heap.size, 9, none⟩ = some (.int .i64 C.c9) ∧ W.cell? ⟨w.heap.size, 10, none⟩ = some (.int .i64 C.c10) ∧ W.cell? ⟨w.heap.size, 11, none⟩ = some (.int .i64 C.c11) ∧ W.cell? ⟨w.heap.size, 12, none⟩ = some (.int .i64 C.c12)) (first | exact keepT X.out.drew Y.drew hz | exact keepT X3.out Y3.out H3z.out) (first
            | (go_at_call 40; refine (sum_b C HOK.out o' n' s' ks' A' c' l' q _ HL'.out HSK.out.1 (HO.out.below (Below.refl _ _).drew) HQS).mono ?_; rintro e w3 ⟨rfl, hb⟩; have X3 := Lib.hid (X.out.drew.next hb); have Y3 := Lib.hid (Y.drew.next hb); have H3z := Lib.hid ((hb.cell (p := ⟨gz, fz + k, none⟩) HGZ.out).trans hz); clear hb))
          go_wp2_with fail
          go_roundw
          case rel => exact ⟨k + 1, t + (q + u1), by omega, by omega, hts, by first | rfl | simp [hw1, hw2, hw3], by go_num, HS, HK1, X3⟩
          case measure => simp [intOf]; omega
        · have hke : k = l := by omega
          have hc0 : CM.cnts zs = 0 := CM.cnts_ok (by intro j hj; exact HK.out j (by have := HLZ.out; omega))
          rw [hc0, if_pos rfl] at hxk
          obtain ⟨hx, rfl⟩ := pair_eq hxk
          have HX : Hid (t = x) := by
            show _ = _
            rw [← hx, HT.out, hke]
            have e1 : es.take l = es := by rw [← HLE.out, List.take_length]
            have e2 : zs.take l = zs := by rw [← HLZ.out, List.take_length]
            rw [e1, e2]
          clear hxk hc0 HT HK hx
          go_wp2_with fail
          go_ret2
          exact ⟨by rw [HX.out]; rfl, X.out.below⟩
    · rw [if_neg hlm2] at hxk
      obtain ⟨rfl, rfl⟩ := pair_eq hxk
      have j0 : ((l : Int) == (m : Int)) = false := by rw [beq_eq_false_iff_ne]; omega
      have j1 : ((l : Int) != (m : Int)) = true := by simp [bne, j0]
      have j2 : (l == m) = false := by rw [beq_eq_false_iff_ne]; exact hlm2
      have j3 : (l != m) = true := by simp [bne, j2]
      clear hxk hlm2
      go_enter Try.func19, Try.ntmps19
      go_wp2_with fail
      refine (wellf_b C es A c l 0 HLE.out HQ HSM.out _ (HML.out.below HML.out.pos X0.out.below) (HE.out.below X0.out.below)).mono ?_
      rintro e w2 ⟨rfl, hb⟩
      have X2 := Lib.hid (X0.out.next hb)
      clear hb X0
      go_wp2_with fail
      go_ret2
      exact ⟨rfl, X2.out.below⟩
  · rw [if_neg hq0] at hxk
    obtain ⟨rfl, rfl⟩ := pair_eq hxk
    have j0 : (q0 == 0) = false := by rw [beq_eq_false_iff_ne]; exact hq0
    have j1 : (q0 != 0) = true := by simp [bne, j0]
    have HQ := Lib.hid (hq)
    clear hq hxk hq0
    go_enter Try.func19, Try.ntmps19
    go_wp2_with fail
    refine (wellf_b C es A c l q0 HLE.out HQ HSM.out _ (HML.out.below HML.out.pos X0.out.below) (HE.out.below X0.out.below)).mono ?_
    rintro e w2 ⟨rfl, hb⟩
    have X2 := Lib.hid (X0.out.next hb)
    clear hb X0
    go_wp2_with fail
    go_ret2
    exact ⟨rfl, X2.out.below⟩
theorem CM.cnts_all {zs : List Int} (h : CM.cnts zs = 0) : ∀ j, j < zs.length → 0 ≤ zs.getD j 0 ∧ zs.getD j 0 ≤ 32 := by
  unfold CM.cnts at h
  by_cases hh : ∀ j, j < zs.length → 0 ≤ zs.getD j 0 ∧ zs.getD j 0 ≤ 32
  · exact hh
  · rw [if_neg hh] at h; exact absurd h (by decide)

set_option maxRecDepth 100000 in
set_option maxHeartbeats 8000000 in
theorem renter_b (C : CM) (es : List ET) (zs : List Int) (A B : Option Addr) (c d l m : Nat) (x k0 : Int) (w : World) (hl : es.length = l) (hl2 : zs.length = m) (hl10 : l ≤ 10) (hS : ∀ (k : Nat) (h : k < es.length), ET.cnt es[k] ≤ 300 ∧ ET.dep es[k] ≤ 300) (hE : LOk w A c es) (hZ : ZOk w B d zs) (H : Hid (C.enterR es zs = (x, k0))) :
    Calls Try.prog 20 #[.agg #[.int .i64 C.c0, .int .i64 C.c1, .int .i64 C.c2, .int .i64 C.c3, .int .i64 C.c4, .int .i64 C.c5, .int .i64 C.c6, .int .i64 C.c7, .int .i64 C.c8, .int .i64 C.c9, .int .i64 C.c10, .int .i64 C.c11, .int .i64 C.c12], .slice A l c, .slice B m d] w fun e w' => e = .returned (.tuple #[.int .i64 x, .int .i64 k0]) ∧ Below w.heap.size w w' := by
  have hmm : m ≤ 9223372036854775807 := by have h1 := hZ.1; have h2 := hZ.2.1; unfold maxLen at h2; omega
  have hlm : l ≤ 9223372036854775807 := by omega
  obtain ⟨q0, hq⟩ : ∃ q, CM.wf C es = q := ⟨_, rfl⟩
  have hxk := H.out
  unfold CM.enterR at hxk
  rw [hq, hl, hl2] at hxk
  have HS3 := Lib.hid hS
  have HSM : Hid (Small es) := fun k h => ⟨by have := (HS3.out k h).1; omega, by have := (HS3.out k h).2; omega⟩
  have HE := Lib.hid hE
  have HZ := Lib.hid hZ
  have HLE := Lib.hid hl
  have HLZ := Lib.hid hl2
  have X0 := Lib.hid (bo w C)
  clear hE hZ hl hl2 hS H
  by_cases hq0 : q0 = 0
  · subst hq0
    rw [if_pos rfl] at hxk
    have HOK := Lib.hid (wf_ok hq)
    have HQ := Lib.hid ((CM.args_nil C es).trans hq)
    clear hq
    by_cases hlm2 : l = m
    · subst hlm2
      rw [if_pos rfl] at hxk
      have h0 := HOK.out 0 (by omega)
      have h3 := HOK.out 3 (by omega)
      simp only [CM.get] at h0 h3
      obtain ⟨h00, h01⟩ := h0
      obtain ⟨h30, h31⟩ := h3
      obtain ⟨qz, hqz⟩ : ∃ q, CM.cnts zs = q := ⟨_, rfl⟩
      have HQZ := Lib.hid hqz
      rw [hqz] at hxk
      by_cases hz0 : qz = 0
      rotate_left
      · have hqz3 : qz = 3 := by
          rw [← hqz] at hz0 ⊢
          unfold CM.cnts at hz0 ⊢
          split
          · rename_i hh; rw [if_pos hh] at hz0; exact absurd rfl hz0
          · rfl
        rw [if_neg hz0] at hxk
        obtain ⟨rfl, rfl⟩ := pair_eq hxk
        subst hqz3
        clear hz0 hxk hqz
        go_enter Try.func20, Try.ntmps20
        go_wp2_with fail
        refine (rarg_b C [] es none A 0 c 0 l 0 rfl HLE.out HQ (fun k h => absurd h (by simp)) HSM.out _ (LOk.nil _) (HE.out.below X0.out.below)).mono ?_
        rintro e w2 ⟨rfl, hb⟩
        have X2 := Lib.hid (X0.out.next hb)
        clear hb X0
        go_wp2_with fail
        refine (rcounts_b zs B d l 3 HLZ.out HQZ _ (HZ.out.below X2.out.below)).mono ?_
        rintro e w3 ⟨rfl, rfl⟩
        go_wp2_with fail
        go_ret2
        exact ⟨rfl, X2.out.below⟩
      subst hz0
      rw [if_pos rfl] at hxk
      obtain ⟨hx, rfl⟩ := pair_eq hxk
      clear hxk hqz
      go_enter Try.func20, Try.ntmps20
      go_wp2_with fail
      refine (rarg_b C [] es none A 0 c 0 l 0 rfl HLE.out HQ (fun k h => absurd h (by simp)) HSM.out _ (LOk.nil _) (HE.out.below X0.out.below)).mono ?_
      rintro e w2 ⟨rfl, hb⟩
      have X2 := Lib.hid (X0.out.next hb)
      clear hb X0
      go_wp2_with fail
      refine (rcounts_b zs B d l 0 HLZ.out HQZ _ (HZ.out.below X2.out.below)).mono ?_
      rintro e w3 ⟨rfl, rfl⟩
      have hcc := X2.out.cc
      unfold CIn at hcc
      obtain ⟨m_0, m_1, m_2, m_3, m_4, m_5, m_6, m_7, m_8, m_9, m_10, m_11, m_12⟩ := hcc
      go_wp2_with fail
      go_loopw [9, 10] (fun u v wr => ∃ (k : Nat) (t : Int), k ≤ l ∧ 0 ≤ t ∧ t ≤ 100 + k * 33200 ∧ u = .int .i64 t ∧ v = .int .i64 k ∧ Hid (t = C.c3 + C.tot (es.take k) (zs.take k)) ∧ Hid (Bo w wr C)) (fun _ v _ => l - (intOf v).toNat)
      case atStart => exact ⟨0, C.c3, by omega, by omega, by omega, rfl, rfl, by show _ = _; simp [CM.tot], X2⟩
      case round =>
        obtain ⟨k, t, hk, ht0, ht1, rfl, rfl, HT, X⟩ := hrel
        clear X2 m_0 m_1 m_2 m_3 m_4 m_5 m_6 m_7 m_8 m_9 m_10 m_11 m_12
        have hcc := X.out.cc
        unfold CIn at hcc
        obtain ⟨m_0, m_1, m_2, m_3, m_4, m_5, m_6, m_7, m_8, m_9, m_10, m_11, m_12⟩ := hcc
        by_cases hlt : k < l
        · have hlt' : k < es.length := by have := HLE.out; omega
          obtain ⟨o', n', s', ks', g, f, A', c', hkid, hAA, hg, hok, c0, c1, c2, c3⟩ := (HE.out.below X.out.below).kid k hlt'
          obtain ⟨l', hl'⟩ : ∃ l', ks'.length = l' := ⟨_, rfl⟩
          rw [hl'] at c3
          have Y : Kx wr g (f + k * 4) o' n' s' A' l' c' := ⟨hg, c0, c1, c2, c3⟩
          have HL' := Lib.hid hl'
          have hsm := HSM.out k hlt'
          have hs3 := (HS3.out k hlt').1
          rw [hkid] at hsm hs3
          have HSK := Lib.hid hsm
          have HO := Lib.hid hok
          obtain ⟨q, hqs⟩ : ∃ q, C.sum (.mk o' n' s' ks') = q := ⟨_, rfl⟩
          have HQS := Lib.hid hqs
          have hr2 := CM.sum_range HOK.out (.mk o' n' s' ks')
          rw [hqs] at hr2
          have hq00 : 0 ≤ q := hr2.1
          have hq01 : q ≤ 30000 := by omega
          obtain ⟨gz, fz, hBB, hgz, hz⟩ := (HZ.out.below X.out.below).2.2 k (by have := HLZ.out; omega)
          have HGZ := Lib.hid hgz
          subst hAA
          subst hBB
          obtain ⟨z, hzz⟩ : ∃ z, zs.getD k 0 = z := ⟨_, rfl⟩
          rw [hzz] at hz
          have hzz2 := CM.cnts_all HQZ.out k (by have := HLZ.out; omega)
          rw [hzz] at hzz2
          have hz0' : 0 ≤ z := hzz2.1
          have hz1' : z ≤ 32 := hzz2.2
          have hp1 : 0 ≤ C.c0 * z := Int.mul_nonneg h00 hz0'
          have hp2 : C.c0 * z ≤ 100 * 32 := Int.mul_le_mul h01 hz1' hz0' (by omega)
          have HS : Hid (t + q + C.c0 * z = C.c3 + C.tot (es.take (k + 1)) (zs.take (k + 1))) := by
            show _ = _
            rw [HT.out, CM.tot_next C es zs k hlt' (by have := HLZ.out; omega), hkid, hqs, hzz]; omega
          obtain ⟨u1, hu1⟩ : ∃ u, C.c0 * z = u := ⟨_, rfl⟩
          have hw1 : IntKind.i64.wrap (C.c0 * z) = u1 := by rw [← hu1]; exact IntWalk.i64_in _ (by omega)
          rw [hu1] at hp1 hp2 HS
          have hw2 : IntKind.i64.wrap (t + q) = t + q := IntWalk.i64_in _ (by omega)
          have hw3 : IntKind.i64.wrap (t + q + u1) = t + q + u1 := IntWalk.i64_in _ (by omega)
          have hts : t + q + u1 ≤ 100 + ((k + 1 : Nat) : Int) * 33200 := by omega
          have hk0 : (0 : Int) ≤ (k : Int) := by omega
          have hk1 : (k : Int) < (l : Int) := by omega
          clear hzz hzz2 HT hlt' hkid hok hl' hsm hs3 hqs hr2 hu1
          go_wp2_with fail
          go_region_held3 (fun W => W.cell? ⟨g, f + k * 4, none⟩ = some (.int .i64 o') ∧ W.cell? ⟨g, f + k * 4 + 1, none⟩ = some (.int .i64 n') ∧ W.cell? ⟨g, f + k * 4 + 2, none⟩ = some (.string s') ∧ W.cell? ⟨g, f + k * 4 + 3, none⟩ = some (.slice A' l' c') ∧ W.cell? ⟨gz, fz + k, none⟩ = some (.int .i64 z) ∧ W.cell? ⟨w.heap.size, 0, none⟩ = some (.int .i64 C.c0) ∧ W.cell? ⟨w.heap.size, 1, none⟩ = some (.int .i64 C.c1) ∧ W.cell? ⟨w.heap.size, 2, none⟩ = some (.int .i64 C.c2) ∧ W.cell? ⟨w.heap.size, 3, none⟩ = some (.int .i64 C.c3) ∧ W.cell? ⟨w.heap.size, 4, none⟩ = some (.int .i64 C.c4) ∧ W.cell? ⟨w.heap.size, 5, none⟩ = some (.int .i64 C.c5) ∧ W.cell? ⟨w.heap.size, 6, none⟩ = some (.int .i64 C.c6) ∧ W.cell? ⟨w.heap.size, 7, none⟩ = some (.int .i64 C.c7) ∧ W.cell? ⟨w.heap.size, 8, none⟩ = some (.int .i64 C.c8) ∧ W.cell? ⟨w.heap.size, 9, none⟩ = some (.int .i64 C.c9) ∧ W.cell? ⟨w.heap.size, 10, none⟩ = some (.int .i64 C.c10) ∧ W.cell? ⟨w.heap.size, 11, none⟩ = some (.int .i64 C.c11) ∧ W.cell? ⟨w.heap.size, 12, none⟩ = some (.int .i64 C.c12)) (first | exact keepT X.out.drew Y.drew hz | exact keepT X3.out Y3.out H3z.out) (first
            | (go_at_call 42; refine (rsum_any C HOK.out _ o' n' s' ks' A' c' l' q _ HL'.out (Nat.le_refl _) HSK.out.1 (HO.out.below (Below.refl _ _).drew) HQS).mono ?_; rintro e w3 ⟨rfl, hb⟩; have X3 := Lib.hid (X.out.drew.next hb); have Y3 := Lib.hid (Y.drew.next hb); have H3z := Lib.hid ((hb.cell (p := ⟨gz, fz + k, none⟩) HGZ.out).trans hz); clear hb))
          go_wp2_with fail
          go_roundw
          case rel => exact ⟨k + 1, t + q + u1, by omega, by omega, hts, by first | rfl | simp [hw1, hw2, hw3], by go_num, HS, X3⟩
          case measure => simp [intOf]; omega
        · have hke : k = l := by omega
          have HX : Hid (t = x) := by
            show _ = _
            rw [← hx, HT.out, hke]
            have e1 : es.take l = es := by rw [← HLE.out, List.take_length]
            have e2 : zs.take l = zs := by rw [← HLZ.out, List.take_length]
            rw [e1, e2]
          clear HT hx
          go_wp2_with fail
          go_ret2
          exact ⟨by rw [HX.out]; rfl, X.out.below⟩
    · rw [if_neg hlm2] at hxk
      obtain ⟨rfl, rfl⟩ := pair_eq hxk
      have j0 : ((l : Int) == (m : Int)) = false := by rw [beq_eq_false_iff_ne]; omega
      have j1 : ((l : Int) != (m : Int)) = true := by simp [bne, j0]
      have j2 : (l == m) = false := by rw [beq_eq_false_iff_ne]; exact hlm2
      have j3 : (l != m) = true := by simp [bne, j2]
      clear hxk hlm2
      go_enter Try.func20, Try.ntmps20
      go_wp2_with fail
      refine (rarg_b C [] es none A 0 c 0 l 0 rfl HLE.out HQ (fun k h => absurd h (by simp)) HSM.out _ (LOk.nil _) (HE.out.below X0.out.below)).mono ?_
      rintro e w2 ⟨rfl, hb⟩
      have X2 := Lib.hid (X0.out.next hb)
      clear hb X0
      go_wp2_with fail
      go_ret2
      exact ⟨rfl, X2.out.below⟩
  · rw [if_neg hq0] at hxk
    obtain ⟨rfl, rfl⟩ := pair_eq hxk
    have j0 : (q0 == 0) = false := by rw [beq_eq_false_iff_ne]; exact hq0
    have j1 : (q0 != 0) = true := by simp [bne, j0]
    have HQ := Lib.hid ((CM.args_nil C es).trans hq)
    clear hq hxk hq0
    go_enter Try.func20, Try.ntmps20
    go_wp2_with fail
    refine (rarg_b C [] es none A 0 c 0 l q0 rfl HLE.out HQ (fun k h => absurd h (by simp)) HSM.out _ (LOk.nil _) (HE.out.below X0.out.below)).mono ?_
    rintro e w2 ⟨rfl, hb⟩
    have X2 := Lib.hid (X0.out.next hb)
    clear hb X0
    go_wp2_with fail
    go_ret2
    exact ⟨rfl, X2.out.below⟩
end Go.Proofs.Ythlhicegchkjjaa
