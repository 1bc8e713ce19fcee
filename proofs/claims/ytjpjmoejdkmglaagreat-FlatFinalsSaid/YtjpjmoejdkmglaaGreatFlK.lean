/-
  The walks over value and the closure in it.
-/
import Derived.Test.YtjpjmoejdkmglaaGreatFlJ
namespace Go.Proofs.YtjpjmoejdkmglaaGreat
open Go.RowKit

/-- What the closure has captured: the values' slice and the term. -/
structure Vw (W : World) (p2 p3 : Nat) (Ax : Option Addr) (lx cx : Nat) (vals : List Int) (o n : Int) (A : Option Addr) (l c : Nat) (ks : List Tm) : Prop where
  c2 : Cs W p2 [.slice Ax lx cx]
  c3 : Cs W p3 [.int .i64 o, .int .i64 n, .slice A l c]
  tk : TOk W A c ks
  zs : Zs W Ax lx cx vals
theorem Vw.next {W W' : World} {p2 p3 : Nat} {Ax : Option Addr} {lx cx : Nat} {vals : List Int} {o n : Int} {A : Option Addr} {l c : Nat} {ks : List Tm} (h : Vw W p2 p3 Ax lx cx vals o n A l c ks) (hb : Below W.heap.size W W') : Vw W' p2 p3 Ax lx cx vals o n A l c ks := ⟨h.c2.next hb, h.c3.next hb, h.tk.below hb, h.zs.below hb⟩
theorem Vw.drew {W : World} {p2 p3 : Nat} {Ax : Option Addr} {lx cx : Nat} {vals : List Int} {o n : Int} {A : Option Addr} {l c : Nat} {ks : List Tm} (h : Vw W p2 p3 Ax lx cx vals o n A l c ks) : Vw W.drew p2 p3 Ax lx cx vals o n A l c ks := h.next (Below.refl _ _).drew

set_option maxHeartbeats 2000000 in
theorem kid_b (vs : List Vr) (inp : Bool) (vals : List Int) (Ax : Option Addr) (lx cx : Nat) (m : Nat) (IH : Hid (∀ (o n : Int) (ks : List Tm) (l : Nat) (A : Option Addr) (c : Nat) (w : World) (r : Int), ks.length = l → Tm.cnt (.mk o n ks) ≤ m → TOk w A c ks → Zs w Ax lx cx vals → Hid (formedB vs inp (.mk o n ks) = true) → Hid ((rangedP vs (.mk o n ks)).isSome = true) → Hid (valueP vals (.mk o n ks) = r) →
    Calls Tryz.prog 41 #[.slice Ax lx cx, .agg #[.int .i64 o, .int .i64 n, .slice A l c]] w fun e w' => e = .returned (.int .i64 r) ∧ Below w.heap.size w w')) (o n : Int) (ks : List Tm) (l : Nat) (A : Option Addr) (c : Nat) (hl : ks.length = l) (hm : Tm.cntL ks ≤ m) (hf : ∀ i (hi : i < ks.length), formedB vs inp ks[i] = true) (hg : ∀ i (hi : i < ks.length), (rangedP vs ks[i]).isSome = true)
    (i : Nat) (r : Int) (hi : i < l) (H : Hid ((valuesL vals ks).getD i 0 = r)) (p2 p3 : Nat) (w : World) (hv : Vw w p2 p3 Ax lx cx vals o n A l c ks) :
    Calls Tryz.prog 70 #[.int .i64 i, .pointer (some ⟨p2, 0, none⟩), .pointer (some ⟨p3, 0, none⟩)] w fun e w' => e = .returned (.int .i64 r) ∧ Below w.heap.size w w' := by
  have HV := Lib.hid hv
  have hlm : l ≤ 9223372036854775807 := by have h1 := hv.tk.1; have h2 := hv.tk.2.1; unfold maxLen at h2; omega
  have hkl : i < ks.length := by omega
  obtain ⟨o', n', ks', g, f, A', c', hkid, hA, hg', hok, k0, k1, k2⟩ := hv.tk.kid i hkl
  subst hA
  obtain ⟨l', hl'⟩ : ∃ l', ks'.length = l' := ⟨_, rfl⟩
  rw [hl'] at k2
  have HL' := Lib.hid hl'
  have HF := hf i hkl
  have HG := hg i hkl
  have HVV := H.out
  rw [valuesL_get vals ks i hkl] at HVV
  have hcm : Tm.cnt ks[i] ≤ m := Nat.le_trans (Tm.cntL_get ks i hkl) hm
  rw [hkid] at HF HG HVV hcm
  have HF' := Lib.hid HF
  have HG' := Lib.hid HG
  have HV' := Lib.hid HVV
  have HCM := Lib.hid hcm
  have HOK := Lib.hid (hok.below (Below.refl w.heap.size w).drew)
  have HZ := Lib.hid (hv.zs.below (Below.refl w.heap.size w).drew)
  have a0 := hv.c2.at 0 _ rfl
  have b2 := hv.c3.at 2 _ rfl
  have hi' : (i : Int) < (l : Int) := by omega
  have kp : ∀ W, Below w.heap.size w W → (W.cell? ⟨p2, 0, none⟩ = some (.slice Ax lx cx) ∧ W.cell? ⟨p3, 2, none⟩ = some (.slice (some ⟨g, f, none⟩) l c) ∧ W.cell? ⟨g, f + i * 3, none⟩ = some (.int .i64 o') ∧ W.cell? ⟨g, f + i * 3 + 1, none⟩ = some (.int .i64 n') ∧ W.cell? ⟨g, f + i * 3 + 2, none⟩ = some (.slice A' l' c')) := fun W h => ⟨(hv.c2.next h).at 0 _ rfl, (hv.c3.next h).at 2 _ rfl, (h.cell (p := ⟨g, _, none⟩) hg').trans k0, (h.cell (p := ⟨g, _, none⟩) hg').trans k1, (h.cell (p := ⟨g, _, none⟩) hg').trans k2⟩
  have KP := Lib.hid kp
  clear kp
  clear hv hok hkid hl' HF HG HVV H hcm hf hg
  go_enter Tryz.func70, Tryz.ntmps70
  go_upto_region 1 with fail
  go_region_held3 (fun W => W.cell? ⟨p2, 0, none⟩ = some (.slice Ax lx cx) ∧ W.cell? ⟨p3, 2, none⟩ = some (.slice (some ⟨g, f, none⟩) l c) ∧ W.cell? ⟨g, f + i * 3, none⟩ = some (.int .i64 o') ∧ W.cell? ⟨g, f + i * 3 + 1, none⟩ = some (.int .i64 n') ∧ W.cell? ⟨g, f + i * 3 + 2, none⟩ = some (.slice A' l' c')) (first | exact KP.out _ (Below.refl _ _).drew | exact KP.out _ ((Below.refl _ _).drew.trans hb)) (first
    | (go_at_call 41; refine (IH.out o' n' ks' l' A' c' _ r HL'.out HCM.out HOK.out HZ.out HF' HG' HV').mono ?_; rintro e w2 ⟨rfl, hb⟩))
  go_wp2_with fail
  go_ret
  exact ⟨rfl, (Below.refl w.heap.size w).drew.trans (hb.mono (Nat.le_refl _))⟩
end Go.Proofs.YtjpjmoejdkmglaaGreat
