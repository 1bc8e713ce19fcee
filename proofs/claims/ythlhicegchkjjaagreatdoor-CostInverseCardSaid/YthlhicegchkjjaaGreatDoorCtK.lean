/-
  Texts of cost models: what the library's variables hold; the library's functions on texts; the walk over the program's entry.
-/
import Derived.Test.YthlhicegchkjjaaGreatDoorCtJ
import Derived.Test.YthlhicegchkjjaaGreatDoorShelf
import Derived.Test.YthlhicegchkjjaaGreatDoorFlFr
import Derived.Lib.SmallJoins
import Derived.Handy
namespace Go.Proofs.YthlhicegchkjjaaGreatDoor
open Go.RowKit

/-- What the listed variables hold; they lie below B. -/
structure Env (B : Nat) (w : World) : Prop where
  bd : 0 < B ∧ 1 < B ∧ 2 < B ∧ 6 < B
  nt : NT w
  ml : ML w
  pow : Lib.TabIs Tryz.prog w "internal/strconv.uint64pow10" .u64 Lib.pow10Tab
  er : ∃ ev, w.cell? ⟨6, 0, none⟩ = some ev ∧ (ev = .nilIface ∨ ∃ te pe, ev = .iface te pe)
theorem tabIs_at {B : Nat} {w w' : World} {s : String} {g : Nat} {k : IntKind} {zs : List Int} (hg : Tryz.prog.globalNamed s = some g) (hl : g < B) (h : Lib.TabIs Tryz.prog w s k zs) (hb : Below B w w') : Lib.TabIs Tryz.prog w' s k zs := by
  unfold Lib.TabIs World.var? at h ⊢
  rw [hg] at h ⊢
  simp only [Option.bind_some] at h ⊢
  rw [hb.block g hl]
  exact h
theorem Env.below {B : Nat} {w w' : World} (h : Env B w) (hb : Below B w w') : Env B w' := by
  obtain ⟨b1, b2, b3, b4⟩ := h.bd
  refine ⟨h.bd, ⟨Nat.lt_of_lt_of_le h.nt.lt hb.size, fun k hk => (hb.cell (p := ⟨_, k, none⟩) b1).trans (h.nt.cell k hk)⟩, h.ml.below b3 hb, tabIs_at (by kernel_rfl) b2 h.pow hb, ?_⟩
  obtain ⟨ev, h1, h2⟩ := h.er
  exact ⟨ev, (hb.cell (p := ⟨_, 0, none⟩) b4).trans h1, h2⟩
theorem trim_c (s u : ByteArray) (HU : Hid (u.data.toList = Lib.trimB s.data.toList 32)) (hs : s.size ≤ 9000) (w : World) :
    Calls Tryz.prog 23 #[.string s, .string ⟨#[32]⟩] w fun e w' => e = .returned (.string u) ∧ Below w.heap.size w w' := by
  refine (Tryz.strings_Trim_one s 32 (by decide) w (by omega)).mono fun e w' ⟨he, hw⟩ => ⟨?_, ?_⟩
  · rw [he]
    exact congrArg (fun z => Ending.returned (.string z)) (bytes_eq HU.out.symm)
  · rcases hw with rfl | rfl
    · exact Below.refl _ _
    · exact (Below.refl _ _).drew
theorem tleft_c (s u : ByteArray) (HU : Hid (u.data.toList = Lib.trimLeftB s.data.toList 32)) (w : World) :
    Calls Tryz.prog 51 #[.string s, .string ⟨#[32]⟩] w fun e w' => e = .returned (.string u) ∧ w = w' := by
  refine (Tryz.strings_TrimLeft_one s 32 (by decide) w).mono fun e w' ⟨he, hw⟩ => ⟨?_, hw.symm⟩
  rw [he]
  exact congrArg (fun z => Ending.returned (.string z)) (bytes_eq HU.out.symm)
theorem cut_c (u x y : ByteArray) (f : Bool) (H : Hid (Lib.cut u.data.toList [32] = (x.data.toList, y.data.toList, f))) (hu : u.size ≤ 9000) (w : World) (hm : ML w) :
    Calls Tryz.prog 50 #[.string u, .string ⟨#[32]⟩] w fun e w' => e = .returned (.tuple #[.string x, .string y, .bool f]) ∧ Below w.heap.size w w' := by
  obtain ⟨m, hm⟩ := hm
  refine (Tryz.strings_Cut u ⟨#[32]⟩ m w (by omega) hm).mono fun e w' ⟨he, n, hw⟩ => ⟨?_, ?_⟩
  · have h2 : Lib.cut u.data.toList (⟨#[32]⟩ : ByteArray).data.toList = (x.data.toList, y.data.toList, f) := H.out
    rw [he, h2]
  · rw [hw]
    exact below_drewN (Below.refl _ _) n
theorem atoi_ok (z : ByteArray) (v : Int) (h : Hid (Lib.atoiAll z.data.toList = .ok v)) (hz : z.size ≤ 9000) (w : World) :
    Calls Tryz.prog 54 #[.string z] w fun e w' => e = .returned (.tuple #[.int .i64 v, .nilIface]) ∧ Below w.heap.size w w' := by
  refine (Tryz.strconv_Atoi_ok z (by omega) v h.out w).mono fun e w' ⟨he, hw⟩ => ⟨he, ?_⟩
  rcases hw with rfl | ⟨t, rfl⟩
  · exact Below.refl _ _
  · exact Go.Joins.below_bytesWorld _ _ _ _ (Nat.le_refl _)
theorem atoi_rng (B : Nat) (z : ByteArray) (h : Hid (Lib.atoiAll z.data.toList = .range)) (hz : z.size ≤ 9000) (w : World) (hE : Env B w) :
    Calls Tryz.prog 54 #[.string z] w fun e w' => (∃ v t p, e = .returned (.tuple #[.int .i64 v, .iface t p])) ∧ Below w.heap.size w w' := by
  obtain ⟨ev, h1, h2⟩ := hE.er
  refine (Tryz.strconv_Atoi_range z (by omega) h.out ev w h1 h2).mono fun e w' ⟨N, he, _, _, hb⟩ => ⟨⟨_, _, _, he⟩, hb⟩

/-! ### One piece -/
/-- The place, the number, the code, and which entries are set. -/
def entT (sn : List Bool) (s : List UInt8) : Int × Int × Int × List Bool :=
  match partT (Lib.trimB s 32) with
  | none => (0, 0, 6, sn)
  | some (w, d) => match nameIx w with
    | none => (0, 0, 7, sn)
    | some i => if sn.getD i false then (0, 0, 8, sn) else if 100 < valD 0 d then (0, 0, 3, sn.set i true) else ((i : Nat), (valD 0 d : Nat), 0, sn.set i true)
theorem stepT_ent (l : List Int) (sn : List Bool) (s : List UInt8) : stepT l sn s = if (entT sn s).2.2.1 = 0 then (0, l.set (entT sn s).1.toNat (entT sn s).2.1, (entT sn s).2.2.2) else ((entT sn s).2.2.1, l, sn) := by
  unfold stepT entT
  cases partT (Lib.trimB s 32) with
  | none => rfl
  | some p =>
    obtain ⟨w, d⟩ := p
    simp only
    cases nameIx w with
    | none => rfl
    | some i =>
      simp only
      by_cases h1 : sn.getD i false = true
      · rw [if_pos h1, if_pos h1]; rfl
      · rw [if_neg h1, if_neg h1]
        by_cases h2 : 100 < valD 0 d
        · rw [if_pos h2, if_pos h2]; rfl
        · rw [if_neg h2, if_neg h2, if_pos rfl, Int.toNat_natCast]
theorem nameIx_lt {w : List UInt8} {i : Nat} (h : nameIx w = some i) : i < 13 := by
  unfold nameIx at h
  rw [List.findIdx?_eq_some_iff_getElem] at h
  exact h.1
theorem part_bool (u W Y Z : List UInt8) (f : Bool) (hc : Lib.cut u [32] = (W, Y, f)) (hz : Z = Lib.trimLeftB Y 32) :
    partT u = if (f && ((!W.isEmpty && W.all lowc) && ((!Z.isEmpty && Z.all digc) && !(decide (1 < Z.length) && (Z.head? == some 48))))) = true then some (W, Z) else none := by
  rw [partT_prog, hc]
  simp only [← hz]
  congr 1
  unfold numOk
  cases f <;> cases W <;> cases Z <;> simp
  intro _ _
  constructor
  · rintro ⟨h1, h2, h3⟩
    exact ⟨⟨h2, h3⟩, h1.symm⟩
  · rintro ⟨⟨h2, h3⟩, h1⟩
    exact ⟨h1.symm, h2, h3⟩
theorem low_p : ∀ c : UInt8, lowc c = decide ((97 : Int) ≤ (c.toNat : Int) ∧ (c.toNat : Int) ≤ 122) := fun c => by
  unfold lowc
  rw [decide_eq_decide]
  omega
theorem dig_p : ∀ c : UInt8, digc c = decide ((48 : Int) ≤ (c.toNat : Int) ∧ (c.toNat : Int) ≤ 57) := fun c => by
  unfold digc
  rw [decide_eq_decide]
  omega
theorem trimB_len (s : List UInt8) (c : UInt8) : (Lib.trimB s c).length ≤ s.length := by
  unfold Lib.trimB Lib.trimLeftB Lib.trimRightB
  refine Nat.le_trans (List.dropWhile_sublist _).length_le ?_
  rw [List.length_reverse]
  refine Nat.le_trans (List.dropWhile_sublist _).length_le ?_
  rw [List.length_reverse]
  exact Nat.le_refl _
theorem tleft_len (s : List UInt8) (c : UInt8) : (Lib.trimLeftB s c).length ≤ s.length := (List.dropWhile_sublist _).length_le
theorem cut_len {u W Y : List UInt8} {f : Bool} (h : Lib.cut u [32] = (W, Y, f)) : W.length ≤ u.length ∧ Y.length ≤ u.length := by
  rw [cut_one] at h
  split at h
  · cases h
    refine ⟨(List.takeWhile_sublist _).length_le, ?_⟩
    rw [List.length_drop]
    have := (List.dropWhile_sublist (l := u) (· != 32)).length_le
    omega
  · cases h
    simp
set_option maxRecDepth 100000 in
set_option maxHeartbeats 4000000 in
theorem entry_b (B : Nat) (s : ByteArray) (hs : s.size ≤ 9000) (q : Nat) (sn : List Bool) (hsn : sn.length = 13) (i n c : Int) (sn' : List Bool) (H : Hid (entT sn s.data.toList = (i, n, c, sn'))) (w : World) (hE : Env B w) (hB : B ≤ w.heap.size) (hqB : B ≤ q) (hq : Cs w q (sn.map Value.bool)) :
    Calls Tryz.prog 25 #[.string s, .pointer (some ⟨q, 0, none⟩)] w fun e w' => e = .returned (.tuple #[.int .i64 i, .int .i64 n, .int .i64 c]) ∧ Fr (· = q) w w' ∧ Cs w' q (sn'.map Value.bool) := by
  obtain ⟨u, hu⟩ := mk_bytes (Lib.trimB s.data.toList 32)
  obtain ⟨x, hx⟩ := mk_bytes (Lib.cut u.data.toList [32]).1
  obtain ⟨y, hy⟩ := mk_bytes (Lib.cut u.data.toList [32]).2.1
  obtain ⟨f, hf⟩ : ∃ f, (Lib.cut u.data.toList [32]).2.2 = f := ⟨_, rfl⟩
  obtain ⟨z, hz⟩ := mk_bytes (Lib.trimLeftB y.data.toList 32)
  have hc : Lib.cut u.data.toList [32] = (x.data.toList, y.data.toList, f) := by rw [hx, hy, ← hf]
  have hul : u.size ≤ 9000 := by rw [bsize_len, hu]; have := trimB_len s.data.toList 32; rw [← bsize_len] at this; omega
  have hxl : x.size ≤ 9000 := by rw [bsize_len]; have := (cut_len hc).1; rw [← bsize_len u] at this; omega
  have hzl : z.size ≤ 9000 := by rw [bsize_len, hz]; have := tleft_len y.data.toList 32; have := (cut_len hc).2; rw [← bsize_len u] at this; omega
  have hpt := part_bool u.data.toList x.data.toList y.data.toList z.data.toList f hc hz
  have HE := Lib.hid hE
  have HQ := Lib.hid hq
  have HU := Lib.hid hu
  have HC := Lib.hid hc
  have HZ := Lib.hid hz
  have HBw := Lib.hid (And.intro hB hqB)
  have HSN := Lib.hid hsn
  obtain ⟨b1, hb1⟩ : ∃ b, (!x.data.toList.isEmpty && x.data.toList.all lowc) = b := ⟨_, rfl⟩
  obtain ⟨b2, hb2⟩ : ∃ b, (!z.data.toList.isEmpty && z.data.toList.all digc) = b := ⟨_, rfl⟩
  have H1 := Lib.hid hb1
  have H2 := Lib.hid hb2
  have HLO := Lib.hid low_p
  have HDI := Lib.hid dig_p
  have hE0 := H.out
  unfold entT at hE0
  rw [← hu, hpt, hb1, hb2] at hE0
  have hsyn : (f && (b1 && (b2 && !(decide (1 < z.data.toList.length) && (z.data.toList.head? == some 48))))) = false → i = 0 ∧ n = 0 ∧ c = 6 ∧ sn' = sn := fun h => by
    rw [if_neg (by rw [h]; decide)] at hE0
    simp only [Prod.mk.injEq] at hE0
    exact ⟨hE0.1.symm, hE0.2.1.symm, hE0.2.2.1.symm, hE0.2.2.2.symm⟩
  have HSY := Lib.hid hsyn
  have HE0 := Lib.hid hE0
  clear hE hq hu hc hz hB hqB hsn hb1 hb2 hx hy hf hpt hE0 hsyn H
  have G1 : Hid True := trivial
  go_enter Tryz.func25, Tryz.ntmps25
  go_upto_region 4 with (first
    | (go_at_call 23; refine (trim_c s u HU hs _).mono ?_; rintro e w1 ⟨rfl, hb⟩; have HB1 := Lib.hid hb; clear hb)
    | (go_at_call 50; refine (cut_c u x y f HC hul _ (HE.out.below (HB1.out.mono HBw.out.1)).ml).mono ?_; rintro e w2 ⟨rfl, hb⟩; have HB2 := Lib.hid (HB1.out.trans (hb.mono HB1.out.size)); clear hb)
    | (go_at_call 51; refine (tleft_c y z HZ _).mono ?_; rintro e w3 ⟨rfl, rfl⟩)
    | fail)
  have hzi : z.size ≤ 9223372036854775807 := by omega
  cases f with
  | false =>
    obtain ⟨rfl, rfl, rfl, rfl⟩ := HSY.out rfl
    clear HSY HE0
    go_wp2_with fail
    go_returns
    exact ⟨rfl, Fr.of HB2.out, HQ.out.next HB2.out⟩
  | true =>
  cases b1 with
  | false =>
    obtain ⟨rfl, rfl, rfl, rfl⟩ := HSY.out rfl
    clear HSY HE0
    go_wp2_with (first | (go_at_call 52; refine (lower_b x 97 122 lowc HLO false H1 (by unfold maxLen; omega) _).mono ?_; rintro e w4 ⟨rfl, rfl⟩) | fail)
    go_returns
    exact ⟨rfl, Fr.of HB2.out, HQ.out.next HB2.out⟩
  | true =>
  cases b2 with
  | false =>
    obtain ⟨rfl, rfl, rfl, rfl⟩ := HSY.out rfl
    clear HSY HE0
    go_wp2_with (first | (go_at_call 52; clear G1; refine (lower_b x 97 122 lowc HLO true H1 (by unfold maxLen; omega) _).mono ?_; rintro e w4 ⟨rfl, rfl⟩) | (go_at_call 52; ((fail_if_success (clear G1)); refine (lower_b z 48 57 digc HDI false H2 (by unfold maxLen; omega) _).mono ?_); rintro e w4 ⟨rfl, rfl⟩) | fail)
    go_returns
    exact ⟨rfl, Fr.of HB2.out, HQ.out.next HB2.out⟩
  | true =>
  have hz0 : 0 < z.size := by
    have h := H2.out
    rw [Bool.and_eq_true] at h
    rw [bsize_len]
    cases hl : z.data.toList with
    | nil => rw [hl] at h; exact absurd h.1 (by decide)
    | cons a l => simp
  have hz0' : (0 : Int) < (z.size : Int) := by omega
  have HHD : Hid (z.data.toList.head? = some z[0]) := Lib.hid (by rw [List.head?_eq_getElem?]; exact bget z 0 hz0)
  by_cases hbad : 1 < z.size ∧ z[0].toNat = 48
  · have hb3 : (true && (true && (true && !(decide (1 < z.data.toList.length) && (z.data.toList.head? == some 48))))) = false := by
      rw [HHD.out, decide_eq_true (show 1 < z.data.toList.length by rw [← bsize_len]; exact hbad.1), show z[0] = 48 from UInt8.toNat_inj.1 hbad.2]
      rfl
    obtain ⟨rfl, rfl, rfl, rfl⟩ := HSY.out hb3
    obtain ⟨k1, k2⟩ := hbad
    have k1' : (1 : Int) < (z.size : Int) := by omega
    have k2' : (z[0].toNat : Int) = 48 := by omega
    clear HSY HE0 hb3 HHD k2
    go_wp2_with (first | (go_at_call 52; clear G1; refine (lower_b x 97 122 lowc HLO true H1 (by unfold maxLen; omega) _).mono ?_; rintro e w4 ⟨rfl, rfl⟩) | (go_at_call 52; ((fail_if_success (clear G1)); refine (lower_b z 48 57 digc HDI true H2 (by unfold maxLen; omega) _).mono ?_); rintro e w4 ⟨rfl, rfl⟩) | fail)
    go_returns
    exact ⟨rfl, Fr.of HB2.out, HQ.out.next HB2.out⟩
  have hb3 : (true && (true && (true && !(decide (1 < z.data.toList.length) && (z.data.toList.head? == some 48))))) = true := by
    rw [HHD.out]
    by_cases k1 : 1 < z.size
    · have k2 : ¬ z[0] = 48 := fun e => hbad ⟨k1, by rw [e]; rfl⟩
      have k3 : (some z[0] == some (48 : UInt8)) = false := by simpa using k2
      rw [k3, Bool.and_false]
      rfl
    · rw [decide_eq_false (show ¬ 1 < z.data.toList.length by rw [← bsize_len]; exact k1)]
      rfl
  have hE1 := HE0.out
  rw [if_pos hb3] at hE1
  simp only at hE1
  have HE1 := Lib.hid hE1
  have HZN : Hid (numOk z.data.toList = true) := Lib.hid (by
    have h2 := H2.out
    simp only [Bool.true_and, Bool.and_eq_true] at h2 hb3
    unfold numOk
    rw [h2.1, h2.2, Bool.and_comm (z.data.toList.head? == some 48), hb3]
    rfl)
  clear HE0 HSY hb3 hE1 HHD
  obtain ⟨fx, hfx⟩ : ∃ v, findT x.data.toList = v := ⟨_, rfl⟩
  have HF := Lib.hid hfx
  have hnz : (decide ((1 : Int) < (z.size : Int)) = false ∧ ¬ (1 : Int) < (z.size : Int)) ∨ ((1 : Int) < (z.size : Int) ∧ ¬ (z[0].toNat : Int) = 48 ∧ ((z[0].toNat : Int) == 48) = false) := by
    by_cases k1 : 1 < z.size
    · have k2 : ¬ (z[0].toNat : Int) = 48 := fun e => hbad ⟨k1, by omega⟩
      exact .inr ⟨by omega, k2, beq_eq_false_iff_ne.2 k2⟩
    · exact .inl ⟨decide_eq_false (by omega), by omega⟩
  clear hbad hfx
  have hkd : ∀ k : Nat, nameIx x.data.toList = some k → fx = k ∧ k < 13 := fun k hk => ⟨by rw [← HF.out]; unfold findT; rw [hk], nameIx_lt hk⟩
  have hkn : nameIx x.data.toList = none → fx = -1 := fun hk => by rw [← HF.out]; unfold findT; rw [hk]
  have HKD := Lib.hid hkd
  have HKN := Lib.hid hkn
  clear hkd hkn
  obtain ⟨ix, hix⟩ : ∃ v, nameIx x.data.toList = v := ⟨_, rfl⟩
  rw [hix] at HE1 HKD HKN
  have HE2 := Lib.hid (HE.out.below (HB2.out.mono HBw.out.1))
  have HQ2 := Lib.hid (HQ.out.next HB2.out)
  clear hix
  rcases hnz with ⟨hz1, hz2⟩ | ⟨hz1, hz2, hz3⟩
  all_goals
    go_upto_region 7 with (first | (go_at_call 52; clear G1; refine (lower_b x 97 122 lowc HLO true H1 (by unfold maxLen; omega) _).mono ?_; rintro e w4 ⟨rfl, rfl⟩) | (go_at_call 52; ((fail_if_success (clear G1)); refine (lower_b z 48 57 digc HDI true H2 (by unfold maxLen; omega) _).mono ?_); rintro e w4 ⟨rfl, rfl⟩) | (go_at_call 53; refine (find_b x fx HF _ HE2.out.nt).mono ?_; rintro e w5 ⟨rfl, rfl⟩) | fail)
    cases ix with
    | none =>
      obtain rfl := HKN.out rfl
      have hr := HE1.out
      simp only [Prod.mk.injEq] at hr
      obtain ⟨rfl, rfl, rfl, rfl⟩ := hr
      clear HE1 HF HKN HKD
      go_wp2_with fail
      go_returns
      exact ⟨rfl, Fr.of HB2.out, HQ2.out⟩
    | some k =>
      obtain ⟨rfl, hk⟩ := HKD.out k rfl
      have hk0 : (0 : Int) ≤ (k : Int) := by omega
      have hk13 : (k : Int) < 13 := by omega
      have hkn : ¬ (k : Int) < 0 := by omega
      obtain ⟨b, hb⟩ : ∃ b, sn.getD k false = b := ⟨_, rfl⟩
      have hr := HE1.out
      simp only [hb] at hr
      have hkl : k < sn.length := by rw [HSN.out]; exact hk
      have c0 := HQ2.out.at k (.bool b) (by rw [List.getElem?_map, List.getElem?_eq_getElem hkl, ← hb, List.getD_eq_getElem?_getD, List.getElem?_eq_getElem hkl]; rfl)
      have f0 := HQ2.out.free k
      have hql := HQ2.out.lt
      clear HE1 HF HKN HKD hb hkl
      cases b with
      | true =>
        rw [if_pos rfl] at hr
        simp only [Prod.mk.injEq] at hr
        obtain ⟨rfl, rfl, rfl, rfl⟩ := hr
        go_wp2_with fail
        go_returns
        exact ⟨rfl, Fr.of HB2.out, HQ2.out⟩
      | false =>
        rw [if_neg (by decide)] at hr
        have HFR := Lib.hid ((Fr.of (S := (· = q)) HB2.out).setCell (p := ⟨q, k, none⟩) rfl (.bool true))
        have HCS := Lib.hid (HQ2.out.set k (.bool true) (by rw [List.length_map, HSN.out]; exact hk))
        rw [← List.map_set] at HCS
        have HE3 := Lib.hid (HE2.out.below ((Below.refl B w2).setCell (p := ⟨q, k, none⟩) HBw.out.2 (.bool true)))
        have hat := atoi_dig z.data.toList HZN.out
        by_cases hv : valD 0 z.data.toList ≤ 100
        · rw [if_neg (by omega)] at hr
          simp only [Prod.mk.injEq] at hr
          obtain ⟨rfl, rfl, rfl, rfl⟩ := hr
          have HA := Lib.hid (hat.1 hv)
          have hv0 : ¬ (100 : Int) < ((valD 0 z.data.toList : Nat) : Int) := by omega
          obtain ⟨v, hvv⟩ : ∃ v : Int, ((valD 0 z.data.toList : Nat) : Int) = v := ⟨_, rfl⟩
          rw [hvv] at HA hv0
          have HVV := Lib.hid hvv
          clear hvv hat hv
          go_wp2_with (first | (go_at_call 54; refine (atoi_ok z v HA hzl _).mono ?_; rintro e w6 ⟨rfl, hb⟩; have HB6 := Lib.hid hb; clear hb) | fail)
          go_returns
          exact ⟨by rw [HVV.out]; rfl, HFR.out.trans (Fr.of HB6.out), HCS.out.next HB6.out⟩
        · rw [if_pos (by omega)] at hr
          simp only [Prod.mk.injEq] at hr
          obtain ⟨rfl, rfl, rfl, rfl⟩ := hr
          rcases hat.2 (by omega) with ⟨v, hv2, hA⟩ | hA
          · have HA := Lib.hid hA
            clear hA hat hv
            go_wp2_with (first | (go_at_call 54; refine (atoi_ok z v HA hzl _).mono ?_; rintro e w6 ⟨rfl, hb⟩; have HB6 := Lib.hid hb; clear hb) | fail)
            go_returns
            exact ⟨rfl, HFR.out.trans (Fr.of HB6.out), HCS.out.next HB6.out⟩
          · have HA := Lib.hid hA
            clear hA hat hv
            go_wp2_with (first | (go_at_call 54; refine (atoi_rng B z HA hzl _ HE3.out).mono ?_; rintro e w6 ⟨⟨v, tp, pp, rfl⟩, hb⟩; have HB6 := Lib.hid hb; clear hb) | fail)
            go_returns
            exact ⟨rfl, HFR.out.trans (Fr.of HB6.out), HCS.out.next HB6.out⟩
end Go.Proofs.YthlhicegchkjjaaGreatDoor
