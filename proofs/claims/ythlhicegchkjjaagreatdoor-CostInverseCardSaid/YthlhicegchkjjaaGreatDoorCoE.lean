/-
  The walk over the program's cost of an expression: a closure that calls itself and adds to a variable that it has captured.
-/
import Derived.Test.YthlhicegchkjjaaGreatDoorCoD
import Derived.Laws.EntriesVeiled
namespace Go.Proofs.YthlhicegchkjjaaGreatDoor
open Go.RowKit
/-- Inside the closure: what it captured, and the parameter's own block behind it. -/
structure Sg (w W : World) (C : CM) (T B F : Nat) (t : Int) (o n : Int) (s : ByteArray) (A : Option Addr) (l c : Nat) : Prop where
  only : Only T (boxed w o n s A l c) W
  t0 : W.cell? ⟨T, 0, none⟩ = some (.int .i64 t)
  tf : W.frozen? ⟨T, 0, none⟩ = false
  cc : CIn W B C
  f0 : W.cell? ⟨F, 0, none⟩ = some (.func (Fn.func 57) #[] #[.pointer (some ⟨T, 0, none⟩), .pointer (some ⟨B, 0, none⟩), .pointer (some ⟨F, 0, none⟩)])
  lt : T < w.heap.size ∧ B < w.heap.size ∧ F < w.heap.size ∧ B ≠ T ∧ F ≠ T
theorem Sg.next {w W W' : World} {C : CM} {T B F : Nat} {t t' : Int} {o n : Int} {s : ByteArray} {A : Option Addr} {l c : Nat} (h : Sg w W C T B F t o n s A l c) (ho : Only T W W') (h0 : W'.cell? ⟨T, 0, none⟩ = some (.int .i64 t')) (hf : W'.frozen? ⟨T, 0, none⟩ = false) : Sg w W' C T B F t' o n s A l c := by
  obtain ⟨k0, k1, k2, k3, k4, k5, k6, k7, k8, k9⟩ := h
  have hz := k0.size
  simp [boxed] at hz
  have hB : ∀ i, W'.cell? ⟨B, i, none⟩ = W.cell? ⟨B, i, none⟩ := fun i => ho.cell (p := ⟨B, i, none⟩) (by show B < _; omega) k8
  have hF : W'.cell? ⟨F, 0, none⟩ = W.cell? ⟨F, 0, none⟩ := ho.cell (p := ⟨F, 0, none⟩) (by show F < _; omega) k9
  exact ⟨k0.trans ho, h0, hf, k3.mk hB, by rw [hF]; exact k4, k5, k6, k7, k8, k9⟩
theorem Sg.grow {w W W' : World} {C : CM} {T B F : Nat} {t : Int} {o n : Int} {s : ByteArray} {A : Option Addr} {l c : Nat} (h : Sg w W C T B F t o n s A l c) (hb : Below W.heap.size W W') : Sg w W' C T B F t o n s A l c := by
  have hT : T < W.heap.size := by have := h.only.size; have := h.lt.1; simp [boxed] at *; omega
  exact h.next (Only.of_below hb) ((hb.cell (p := ⟨T, 0, none⟩) hT).trans h.t0) ((hb.frozen (p := ⟨T, 0, none⟩) hT).trans h.tf)
theorem Sg.drew {w W : World} {C : CM} {T B F : Nat} {t : Int} {o n : Int} {s : ByteArray} {A : Option Addr} {l c : Nat} (h : Sg w W C T B F t o n s A l c) : Sg w W.drew C T B F t o n s A l c := h.grow (Below.refl _ _).drew
theorem Sg.set {w W : World} {C : CM} {T B F : Nat} {t : Int} {o n : Int} {s : ByteArray} {A : Option Addr} {l c : Nat} (h : Sg w W C T B F t o n s A l c) (t' : Int) : Sg w (W.setCell ⟨T, 0, none⟩ (.int .i64 t')) C T B F t' o n s A l c := by
  have h0 := h.t0
  have hf := h.tf
  exact h.next (Only.set T 0 W _) (by go_simp) (by go_simp)
theorem Sg.cells {w W : World} {C : CM} {T B F : Nat} {t : Int} {o n : Int} {s : ByteArray} {A : Option Addr} {l c : Nat} (h : Sg w W C T B F t o n s A l c) :
    W.cell? ⟨w.heap.size, 0, none⟩ = some (.int .i64 o) ∧ W.cell? ⟨w.heap.size, 1, none⟩ = some (.int .i64 n) ∧ W.cell? ⟨w.heap.size, 2, none⟩ = some (.string s) ∧ W.cell? ⟨w.heap.size, 3, none⟩ = some (.slice A l c) := by
  have hne := h.lt.1
  have hc : ∀ i, W.cell? ⟨w.heap.size, i, none⟩ = (boxed w o n s A l c).cell? ⟨w.heap.size, i, none⟩ := fun i => h.only.cell (p := ⟨w.heap.size, i, none⟩) (by simp [boxed]) (by show w.heap.size ≠ T; omega)
  rw [hc, hc, hc, hc]
  exact boxed_cells (Below.refl _ _)
theorem Sg.out {w W : World} {C : CM} {T B F : Nat} {t : Int} {o n : Int} {s : ByteArray} {A : Option Addr} {l c : Nat} (h : Sg w W C T B F t o n s A l c) : Only T w W := (Only.of_below (boxed_below w o n s A l c)).trans h.only
set_option maxHeartbeats 4000000 in
theorem sum1_any (C : CM) (hC : C.ok) (m : Nat) : ∀ (o n : Int) (s : ByteArray) (ks : List ET) (A : Option Addr) (c l : Nat) (w0 w : World) (T B F : Nat) (t r : Int), ks.length = l → ET.cnt (.mk o n s ks) ≤ m → EOk w0 s A c ks → Below w0.heap.size w0 w → w0.heap.size ≤ T → T < w.heap.size → B < w.heap.size → F < w.heap.size → B ≠ T → F ≠ T →
    0 ≤ t → r ≤ 100000000 → Hid (t + C.sum (.mk o n s ks) = r) → w.cell? ⟨T, 0, none⟩ = some (.int .i64 t) → w.frozen? ⟨T, 0, none⟩ = false → CIn w B C → w.cell? ⟨F, 0, none⟩ = some (.func (Fn.func 57) #[] #[.pointer (some ⟨T, 0, none⟩), .pointer (some ⟨B, 0, none⟩), .pointer (some ⟨F, 0, none⟩)]) →
    Calls Tryz.prog 57 #[.agg #[.int .i64 o, .int .i64 n, .string s, .slice A l c], .pointer (some ⟨T, 0, none⟩), .pointer (some ⟨B, 0, none⟩), .pointer (some ⟨F, 0, none⟩)] w fun e w' => e = .returned (.tuple #[]) ∧ Only T w w' ∧ w'.cell? ⟨T, 0, none⟩ = some (.int .i64 r) ∧ w'.frozen? ⟨T, 0, none⟩ = false := by
  induction m with
  | zero => intro o n s ks A c l w0 w T B F t r _ h; simp [ET.cnt] at h
  | succ m ih =>
    intro o n s ks A c l w0 w T B F t r hl hm hE hB hT hTw hBw hFw hBT hFT ht hr HR ct cf ccc cF
    have IH := Lib.hid ih
    clear ih
    have hlm : l ≤ 9223372036854775807 := by have h1 := hE.2.1; have h2 := hE.2.2.1; unfold maxLen at h2; omega
    have HE := Lib.hid hE
    have HM := Lib.hid hm
    have HLN := Lib.hid hl
    have HB := Lib.hid hB
    have HOK := Lib.hid hC
    obtain ⟨q0, hq0⟩ : ∃ q, C.node o = q := ⟨_, rfl⟩
    have hqr := CM.node_range hC o
    rw [hq0] at hqr
    have HQ0 := Lib.hid hq0
    have hkr := CM.sumL_range hC ks
    have htq : t + q0 ≤ 100000000 := by have := HR.out; simp only [CM.sum] at this; rw [hq0] at this; omega
    have HR' : Hid (t + q0 + C.sumL ks = r) := by
      show _ = _
      have := HR.out; simp only [CM.sum] at this; rw [hq0] at this; omega
    have hcl := Lib.hid (ET.cntL_app)
    clear hE hl hq0 hm hB hkr HR
    have S0 : Hid (Sg w (boxed w o n s A l c) C T B F t o n s A l c) := by
      refine ⟨Only.refl _ _, ?_, ?_, ?_, ?_, hTw, hBw, hFw, hBT, hFT⟩
      · exact ((boxed_below w o n s A l c).cell (p := ⟨T, 0, none⟩) hTw).trans ct
      · exact ((boxed_below w o n s A l c).frozen (p := ⟨T, 0, none⟩) hTw).trans cf
      · exact ccc.mk fun i => (boxed_below w o n s A l c).cell (p := ⟨B, i, none⟩) hBw
      · exact ((boxed_below w o n s A l c).cell (p := ⟨F, 0, none⟩) hFw).trans cF
    clear ct cf ccc cF
    have HW : Hid (IntKind.i64.wrap (t + q0) = t + q0) := IntWalk.i64_in _ (by omega)
    go_enter Tryz.func57, Tryz.ntmps57
    go_wp2_with fail
    have hbx : w.alloc (.cells #[.int .i64 o, .int .i64 n, .string s, .slice A l c] 44) = boxed w o n s A l c := rfl
    rw [hbx]
    clear hbx
    generalize boxed w o n s A l c = W0 at S0 ⊢
    obtain ⟨e0, e1, e2, e3⟩ := S0.out.cells
    have t0 := S0.out.t0
    have tf := S0.out.tf
    have hcc := S0.out.cc
    unfold CIn at hcc
    obtain ⟨k0, k1, k2, k3, k4, k5, k6, k7, k8, k9, k10, k11, k12⟩ := hcc
    go_upto_region 1 with fail
    go_cut [] (fun wc => Hid (Sg w wc C T B F (t + q0) o n s A l c))
    case first =>
      go_region_with (go_at_call 58; refine (node_b C o q0 HQ0 _).mono ?_; rintro e w2 ⟨rfl, hb⟩; have S1 := Lib.hid (S0.out.drew.grow hb); have t1 := S1.out.t0; have tf1 := S1.out.tf; clear hb)
      all_goals
        go_wp2_with fail
        go_meet
        case rel => first | exact S1.out.set (t + q0) | (rw [HW.out]; exact S1.out.set (t + q0))
    case rest =>
      clear e0 e1 e2 e3 t0 tf k0 k1 k2 k3 k4 k5 k6 k7 k8 k9 k10 k11 k12 S0
      have S2 := hcut
      clear hcut
      obtain ⟨e0, e1, e2, e3⟩ := S2.out.cells
      go_wp2_with fail
      go_loopw [16] (fun v wr => ∃ (k : Nat) (t' : Int), k ≤ l ∧ 0 ≤ t' ∧ v = .int .i64 k ∧ Hid (t' = t + q0 + C.sumL (ks.take k)) ∧ Hid (Sg w wr C T B F t' o n s A l c)) (fun v _ => l - (intOf v).toNat)
      case atStart => exact ⟨0, t + q0, by omega, by omega, rfl, by show _ = _; simp [CM.sumL], S2⟩
      case round =>
        obtain ⟨k, t', hk, ht', rfl, HT, S⟩ := hrel
        clear S2 e0 e1 e2 e3
        have hBr : Below w0.heap.size w0 wr := HB.out.trans (S.out.out.below hT HB.out.size)
        by_cases hlt : k < l
        · have hlt' : k < ks.length := by have := HLN.out; omega
          obtain ⟨o', n', s', ks', g, f, A', c', hkid, hAA, hg, hok, c0, c1, c2, c3⟩ := HE.out.kid k hlt'
          have hkc := ET.cnt_kid o n s ks k hlt'
          rw [hkid] at hkc
          have HO := Lib.hid hok
          obtain ⟨q, hq⟩ : ∃ q, C.sum (.mk o' n' s' ks') = q := ⟨_, rfl⟩
          have HS : Hid (t' + q = t + q0 + C.sumL (ks.take (k + 1))) := by
            show _ = _
            rw [HT.out, ET.take_one ks k hlt', CM.sumL_app, hkid]; simp only [CM.sumL]; omega
          have hr2 := CM.sum_range HOK.out (.mk o' n' s' ks')
          have hr3 := CM.sumL_range HOK.out (ks.drop (k + 1))
          have hr4 := CM.sumL_app C (ks.take (k + 1)) (ks.drop (k + 1))
          rw [List.take_append_drop] at hr4
          have hts : t' + q ≤ 100000000 := by have := HS.out; have := HR'.out; omega
          have hc1 : ET.cnt (.mk o' n' s' ks') ≤ m := by have := HM.out; omega
          have HC1 := Lib.hid hc1
          have HQ := Lib.hid hq
          obtain ⟨l', hl'⟩ : ∃ l', ks'.length = l' := ⟨_, rfl⟩
          rw [hl'] at c3
          have HL' := Lib.hid hl'
          have HG : Hid (∀ i, wr.cell? ⟨g, i, none⟩ = w0.cell? ⟨g, i, none⟩) := fun i => hBr.cell (p := ⟨g, i, none⟩) hg
          have d0 := (HG.out _).trans c0
          have d1 := (HG.out _).trans c1
          have d2 := (HG.out _).trans c2
          have d3 := (HG.out _).trans c3
          have hq0' : 0 ≤ q := by omega
          have HBR := Lib.hid hBr
          subst hAA
          clear hok hkid hkc hc1 hq hl' hr2 hr3 hr4 hlt' c0 c1 c2 c3 HG hBr
          have cF := S.out.f0
          obtain ⟨e0, e1, e2, e3⟩ := S.out.cells
          have hTr : T < wr.heap.size := by have := S.out.out.size; omega
          have hBr' : B < wr.heap.size := by have := S.out.out.size; omega
          have hFr : F < wr.heap.size := by have := S.out.out.size; omega
          go_wp2_with fail
          have SA : Hid (Sg w (wr.alloc (.cells #[.int .i64 o', .int .i64 n', .string s', .slice A' l' c'] 44)) C T B F t' o n s (some ⟨g, f, none⟩) l c) := S.out.grow ((Below.refl _ _).alloc (Nat.le_refl _) _)
          have HQT : Hid (t' + C.sum (.mk o' n' s' ks') = t' + q) := by show _ = _; rw [HQ.out]
          refine (IH.out o' n' s' ks' A' c' l' w0 _ T B F t' (t' + q) HL'.out HC1.out HO.out (HBR.out.alloc HBR.out.size _) hT (by simp; omega) (by simp; omega) (by simp; omega) hBT hFT ht' hts HQT SA.out.t0 SA.out.tf SA.out.cc SA.out.f0).mono ?_
          rintro e w2 ⟨rfl, ho, h0, hf⟩
          have S3 := Lib.hid (SA.out.next ho h0 hf)
          clear ho h0 hf SA S e0 e1 e2 e3 d0 d1 d2 d3 cF
          go_wp2_with fail
          go_roundw
          case rel => exact ⟨k + 1, t' + q, by omega, by omega, by go_num, HS, S3⟩
          case measure => simp [intOf]; omega
        · have hke : k = l := by omega
          have HX : Hid (t' = r) := by
            show _ = _
            rw [HT.out, hke, ← HLN.out, List.take_length]; exact HR'.out
          go_wp2_with fail
          go_returns
          exact ⟨rfl, S.out.out, by rw [← HX.out]; exact S.out.t0, S.out.tf⟩
set_option maxHeartbeats 2000000 in
theorem sum_b (C : CM) (hC : C.ok) (o n : Int) (s : ByteArray) (ks : List ET) (A : Option Addr) (c l : Nat) (r : Int) (w : World) (hl : ks.length = l) (hm : ET.cnt (.mk o n s ks) ≤ 1000000) (hE : EOk w s A c ks) (H : Hid (C.sum (.mk o n s ks) = r)) :
    Calls Tryz.prog 35 #[.agg #[.int .i64 C.c0, .int .i64 C.c1, .int .i64 C.c2, .int .i64 C.c3, .int .i64 C.c4, .int .i64 C.c5, .int .i64 C.c6, .int .i64 C.c7, .int .i64 C.c8, .int .i64 C.c9, .int .i64 C.c10, .int .i64 C.c11, .int .i64 C.c12], .agg #[.int .i64 o, .int .i64 n, .string s, .slice A l c]] w fun e w' => e = .returned (.int .i64 r) ∧ Below w.heap.size w w' := by
  have hr : r ≤ 100000000 := by have := CM.sum_range hC (.mk o n s ks); have := H.out; omega
  have HE := Lib.hid hE
  have HLN := Lib.hid hl
  have HM := Lib.hid hm
  have HOK := Lib.hid hC
  clear hE hl hm hC
  go_enter Tryz.func35, Tryz.ntmps35
  go_wp2_with fail
  have HR : Hid ((0 : Int) + C.sum (.mk o n s ks) = r) := by show _ = _; rw [← H.out]; omega
  refine (sum1_any C HOK.out _ o n s ks A c l w _ (w.heap.size + 1 + 1) w.heap.size (w.heap.size + 1 + 1 + 1) 0 r HLN.out (Nat.le_refl _) HE.out ?_ (by omega) (by simp) (by simp; omega) (by simp) (by omega) (by omega) (by omega) hr HR ?_ ?_ ?_ ?_).mono ?_
  · (repeat' (first | exact Below.refl _ _ | refine Below.drew ?_ | refine below_drewN ?_ _ | refine Below.alloc ?_ (by simp; try omega) _ | refine Below.setCell ?_ (by simp; try omega) _))
  · go_simp
  · go_simp
  · unfold CIn
    refine ⟨?_, ?_, ?_, ?_, ?_, ?_, ?_, ?_, ?_, ?_, ?_, ?_, ?_⟩ <;> go_simp
  · go_simp
  rintro e w2 ⟨rfl, ho, h0, hf⟩
  have HB : Hid (Below w.heap.size w w2) := Below.trans (by (repeat' (first | exact Below.refl _ _ | refine Below.drew ?_ | refine below_drewN ?_ _ | refine Below.alloc ?_ (by simp; try omega) _ | refine Below.setCell ?_ (by simp; try omega) _))) (ho.below (by omega) (by simp; omega))
  clear ho hf
  go_wp2_with fail
  go_ret
  exact ⟨rfl, HB.out⟩
end Go.Proofs.YthlhicegchkjjaaGreatDoor
