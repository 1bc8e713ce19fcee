/-
  The walk over the program's Parse.
-/
import Derived.Test.YtpapbpekihgnlaaDoorBsTe
namespace Go.Proofs.YtpapbpekihgnlaaDoor
open Go.RowKit Tx

/-- What Parse reads of the package variables. -/
structure Txt (w : World) : Prop where
  tabs : Tabs w
  ml : ∃ m : Int, w.cell? ⟨1, 0, none⟩ = some (.int .i64 m)
  es : ∃ ev, w.cell? ⟨2, 0, none⟩ = some ev ∧ (ev = .nilIface ∨ ∃ te pe, ev = .iface te pe)
  er : ∃ ev, w.cell? ⟨3, 0, none⟩ = some ev ∧ (ev = .nilIface ∨ ∃ te pe, ev = .iface te pe)
theorem Txt.below {w w' : World} (h : Txt w) (hb : Below w.heap.size w w') : Txt w' := by
  refine ⟨h.tabs.below hb, ?_, ?_, ?_⟩
  · obtain ⟨m, hm⟩ := h.ml
    exact ⟨m, (hb.cell (p := ⟨_, _, none⟩) (World.block_lt_of_cell? w _ hm)).trans hm⟩
  · obtain ⟨m, hm, r⟩ := h.es
    exact ⟨m, (hb.cell (p := ⟨_, _, none⟩) (World.block_lt_of_cell? w _ hm)).trans hm, r⟩
  · obtain ⟨m, hm, r⟩ := h.er
    exact ⟨m, (hb.cell (p := ⟨_, _, none⟩) (World.block_lt_of_cell? w _ hm)).trans hm, r⟩
theorem cutp_b (s x : ByteArray) (ok : Bool) (h1 : Hid (x.data.toList = Lib.trimPrefix s.data.toList [123])) (h2 : Hid (Lib.hasPrefix s.data.toList [123] = ok)) (w : World) :
    Calls Tryd.prog 63 #[.string s, .string ⟨#[123]⟩] w fun e w' => e = .returned (.tuple #[.string x, .bool ok]) ∧ w' = w := by
  refine (Tryd.strings_CutPrefix s ⟨#[123]⟩ w).mono ?_
  rintro e w' ⟨rfl, rfl⟩
  refine ⟨?_, rfl⟩
  have e1 : (⟨(Lib.trimPrefix s.data.toList [123]).toArray⟩ : ByteArray) = x := bytes_ext h1.out.symm
  have e2 := h2.out
  rw [← e1, ← e2]
theorem cut_b (s a b : ByteArray) (ok : Bool) (hs : s.size ≤ 100000) (h : Hid (Lib.cut s.data.toList [125, 47] = (a.data.toList, b.data.toList, ok))) (w : World) (hT : Txt w) :
    Calls Tryd.prog 64 #[.string s, .string ⟨#[125, 47]⟩] w fun e w' => e = .returned (.tuple #[.string a, .string b, .bool ok]) ∧ Below w.heap.size w w' := by
  obtain ⟨m, hm⟩ := hT.ml
  refine (Tryd.strings_Cut s ⟨#[125, 47]⟩ m w (by omega) hm).mono ?_
  rintro e w' ⟨rfl, n, rfl⟩
  refine ⟨?_, below_drewN (Below.refl _ _) n⟩
  have hc : Lib.cut s.data.toList ((⟨#[125, 47]⟩ : ByteArray).data.toList) = (a.data.toList, b.data.toList, ok) := h.out
  rw [hc]
theorem atoi_b (s : ByteArray) (hs : s.size ≤ 100000) (w : World) (hT : Txt w) :
    Calls Tryd.prog 65 #[.string s] w fun e w' => (∃ (v : Int) (ev : Value), e = .returned (.tuple #[.int .i64 v, ev]) ∧ ((Lib.atoiAll s.data.toList = .ok v ∧ ev = .nilIface) ∨ ((∀ u, Lib.atoiAll s.data.toList ≠ .ok u) ∧ ∃ ty p, ev = .iface ty p))) ∧ Below w.heap.size w w' := by
  cases h : Lib.atoiAll s.data.toList with
  | ok v =>
    refine (Tryd.strconv_Atoi_ok s (by omega) v h w).mono ?_
    rintro e w' ⟨rfl, hw⟩
    refine ⟨⟨v, .nilIface, rfl, .inl ⟨rfl, rfl⟩⟩, ?_⟩
    rcases hw with rfl | ⟨t, rfl⟩
    · exact Below.refl _ _
    · exact Lib.bytesWorld_below w _ t
  | «syntax» =>
    obtain ⟨ev, hv, hev⟩ := hT.es
    refine (Tryd.strconv_Atoi_syntax s (by omega) h ev w hv hev).mono ?_
    rintro e w' ⟨N, rfl, _, _, hb⟩
    exact ⟨⟨_, _, rfl, .inr ⟨(fun u e => by cases e), _, _, rfl⟩⟩, hb⟩
  | range =>
    obtain ⟨ev, hv, hev⟩ := hT.er
    refine (Tryd.strconv_Atoi_range s (by omega) h ev w hv hev).mono ?_
    rintro e w' ⟨N, rfl, _, _, hb⟩
    exact ⟨⟨_, _, rfl, .inr ⟨(fun u e => by cases e), _, _, rfl⟩⟩, hb⟩
theorem trim_len (t p : List UInt8) : (Lib.trimPrefix t p).length ≤ t.length := by
  unfold Lib.trimPrefix
  split
  · rw [List.length_drop]; omega
  · exact Nat.le_refl _
theorem cut_len (t p : List UInt8) : (Lib.cut t p).1.length ≤ t.length ∧ (Lib.cut t p).2.1.length ≤ t.length := by
  unfold Lib.cut
  split
  · rw [List.length_take, List.length_drop]; omega
  · exact ⟨Nat.le_refl _, Nat.zero_le _⟩
theorem piece_len (sep : ByteArray) : ∀ (k : Nat) (s : ByteArray), ∀ p ∈ Lib.splitB sep 0 k s, p.size ≤ s.size
  | 0, s, p, hp => by rw [Lib.splitB_zero] at hp; obtain rfl := List.mem_singleton.1 hp; exact Nat.le_refl _
  | k + 1, s, p, hp => by
    unfold Lib.splitB at hp
    split at hp
    · obtain rfl := List.mem_singleton.1 hp; exact Nat.le_refl _
    · rcases List.mem_cons.1 hp with rfl | h
      · rw [bytes_size, Lib.extract_from_zero, List.length_take, ← bytes_size]; omega
      · have := piece_len sep k _ p h
        rw [bytes_size (s.extract _ _), Lib.extract_to_end, List.length_drop, ← bytes_size] at this
        omega
def zvals (zs : List Int) : List Value := zs.map fun z => Value.int .i64 z
theorem zvals_snoc (zs : List Int) (z : Int) : zvals (zs ++ [z]) = zvals zs ++ [.int .i64 z] := by simp [zvals]
theorem own_zi {w : World} {base : Nat} {e : TypeId} {A : Option Addr} {l c : Nat} {zs : List Int} (hl : zs.length = l) (h : w.ownsRow base e 1 (.slice A l c) l (zvals zs)) : Zs w A l c zs := by
  obtain ⟨_, h | ⟨g, cap, cur, hv, hb, hh, h1, h2, h3, h4⟩⟩ := h
  · obtain ⟨h, hx⟩ := h
    subst hx
    obtain rfl := List.eq_nil_of_length_eq_zero hl
    cases h
    exact ⟨rfl, Nat.le_refl _, Nat.zero_le _, fun h => absurd h (by omega)⟩
  · cases hv
    refine ⟨hl, h1, h2, fun _ => ⟨g, 0, rfl, ?_, fun j hj => ?_⟩⟩
    · rcases Nat.lt_or_ge g w.heap.size with hl | hl
      · exact hl
      · rw [Array.getElem?_eq_none hl] at hh; cases hh
    · rw [Nat.zero_add]
      have hu : (zvals zs)[j]? = some (.int .i64 (zs.getD j 0)) := by simp [zvals, List.getD_eq_getElem?_getD, show j < zs.length by omega]
      rw [← h4, List.getElem?_take] at hu
      split at hu
      · rw [Array.getElem?_toList] at hu
        simp [World.cell?, hh, hu]
      · cases hu
theorem more_nil {xs : List Nat} (h : more false xs = []) : xs = [] := by
  cases xs with
  | nil => rfl
  | cons x xs =>
    rw [more] at h
    cases hd : Lib.decDigits x with
    | nil => exact absurd hd (dec_ne x)
    | cons c l => rw [hd] at h; cases h

set_option maxRecDepth 100000 in
set_option maxHeartbeats 4000000 in
theorem parse_b (s : ByteArray) (hs : s.size ≤ 30000) (hts : (∃ m ws, isText s.data.toList m ws) ∨ s.size ≤ 4000) (R : Int × List Nat × Int) (H : Hid (parR s.data.toList = R)) (w : World) (hT : Txt w) :
    Calls Tryd.prog 45 #[.string s] w fun e w' => Post w R e w' := by
  have HTA := Lib.hid hT
  have HTS := Lib.hid hts
  obtain ⟨t, ht⟩ : ∃ t, s.data.toList = t := ⟨_, rfl⟩
  have HTT : Hid ((⟨t.toArray⟩ : ByteArray) = s) := bytes_ext ht.symm
  have HTL : Hid (t.length = s.size) := by rw [← ht]; exact (Lib.size_eq s).symm
  obtain ⟨i0, hi, hi0, hi1, hi2⟩ := info_parts (P := Tryd.prog) (e := 3) (z := .int .i64 0) (size := 1) (bytes := 8) (by kernel_rfl)
  obtain ⟨ok, hok⟩ : ∃ b, Lib.hasPrefix t [123] = b := ⟨_, rfl⟩
  obtain ⟨x1, hx1⟩ : ∃ x : ByteArray, x.data.toList = Lib.trimPrefix t [123] := ⟨⟨(Lib.trimPrefix t [123]).toArray⟩, rfl⟩
  obtain ⟨⟨c1, c2, fnd⟩, hcut⟩ : ∃ c, Lib.cut (Lib.trimPrefix t [123]) [125, 47] = c := ⟨_, rfl⟩
  obtain ⟨l1, hl1⟩ : ∃ x : ByteArray, x.data.toList = c1 := ⟨⟨c1.toArray⟩, rfl⟩
  obtain ⟨sz, hsz⟩ : ∃ x : ByteArray, x.data.toList = c2 := ⟨⟨c2.toArray⟩, rfl⟩
  have hx1s : x1.size ≤ 30000 := by
    have := trim_len t [123]
    rw [bytes_size, hx1]; have := HTL.out; omega
  have hcl := cut_len (Lib.trimPrefix t [123]) [125, 47]
  rw [hcut, ← hx1, ← bytes_size] at hcl
  have hl1s : l1.size ≤ s.size := by
    have h2 := trim_len t [123]
    rw [← hx1, ← bytes_size, HTL.out] at h2
    rw [bytes_size, hl1]; have := hcl.1; simp only at this; omega
  have hszs : sz.size ≤ 30000 := by rw [bytes_size, hsz]; have := hcl.2; simp only at this; omega
  have HX1 : Hid (x1.data.toList = Lib.trimPrefix s.data.toList [123]) := by show _ = _; rw [ht]; exact hx1
  have HOK : Hid (Lib.hasPrefix s.data.toList [123] = ok) := by show _ = _; rw [ht]; exact hok
  have HCUT : Hid (Lib.cut x1.data.toList [125, 47] = (l1.data.toList, sz.data.toList, fnd)) := by show _ = _; rw [hx1, hl1, hsz]; exact hcut
  -- what a text says of all this
  have HWAY : Hid (∀ m ws, isText t m ws → ok = true ∧ fnd = true ∧ l1.data.toList = more false (membR m ws) ∧ Lib.atoiAll sz.data.toList = .ok (m : Int)) := fun m ws h => by
    obtain ⟨e1, e2, e3⟩ := text_way h
    rw [hcut] at e2
    have e4 := Prod.mk.inj e2
    have e5 := Prod.mk.inj e4.2
    exact ⟨hok.symm.trans e1, e5.2, hl1.trans e4.1, by rw [hsz, e5.1]; exact e3⟩
  rw [ht] at H HTS
  have hbx := (Below.refl w.heap.size w).alloc (Nat.le_refl _) (.cells #[.int .i64 0, .slice none 0 0] 24)
  have HBX := Lib.hid hbx
  clear hT hts ht hok hx1 hcut hl1 hsz hcl hbx
  go_enter Tryd.func45, Tryd.ntmps45
  go_wp2_with fail
  go_at_call 63
  refine (cutp_b s x1 ok HX1 HOK _).mono ?_
  rintro e w2 ⟨rfl, rfl⟩
  go_wp2_with fail
  go_at_call 64
  refine (cut_b x1 l1 sz fnd (by omega) HCUT _ (HTA.out.below HBX.out)).mono ?_
  rintro e w3 ⟨rfl, hb3⟩
  have HR3 := Lib.hid ((Cs.new w #[.int .i64 0, .slice none 0 0] 24).next hb3)
  have HB3 := Lib.hid (HBX.out.trans (hb3.mono HBX.out.size))
  clear hb3 HBX
  go_wp2_with fail
  go_at_call 65
  refine (atoi_b sz (by omega) _ (HTA.out.below HB3.out)).mono ?_
  rintro e w4 ⟨⟨v, ev, rfl, hev⟩, hb4⟩
  have HR := Lib.hid (HR3.out.next hb4)
  have HB := Lib.hid (HB3.out.trans (hb4.mono HB3.out.size))
  clear hb4 HB3 HR3
  have r0 := HR.out.at 0 _ rfl
  have r1 := HR.out.at 1 _ rfl
  have f0 := HR.out.free 0
  have f1 := HR.out.free 1
  cases ok with
  | false =>
    have hR : R = (0, [], 6) := by
      rw [← H.out]
      refine parR_bad fun m ws ht => ?_
      cases (HWAY.out m ws ht).1
    subst hR
    clear H
    go_wp2_with fail
    obtain ⟨k0, k1⟩ := two_cells HR.out (.int .i64 0) (.slice none 0 0)
    refine bodyPost_ret (v := .tuple #[.agg #[.int .i64 0, .slice none 0 0], .int .i64 6]) (by simp [results, Tryd.results45, go_sem, k0, k1]) rfl ?_
    exact post_bad rfl ((HB.out.setCell (Nat.le_refl _) _).setCell (Nat.le_refl _) _)
  | true =>
  cases fnd with
  | false =>
    have hR : R = (0, [], 6) := by
      rw [← H.out]
      refine parR_bad fun m ws ht => ?_
      cases (HWAY.out m ws ht).2.1
    subst hR
    clear H
    go_wp2_with fail
    obtain ⟨k0, k1⟩ := two_cells HR.out (.int .i64 0) (.slice none 0 0)
    refine bodyPost_ret (v := .tuple #[.agg #[.int .i64 0, .slice none 0 0], .int .i64 6]) (by simp [results, Tryd.results45, go_sem, k0, k1]) rfl ?_
    exact post_bad rfl ((HB.out.setCell (Nat.le_refl _) _).setCell (Nat.le_refl _) _)
  | true =>
  rcases hev with ⟨hat, rfl⟩ | ⟨hat, ty, pv, rfl⟩
  case inr =>
    have HAT := Lib.hid hat
    clear hat
    have hR : R = (0, [], 6) := by
      rw [← H.out]
      refine parR_bad fun m ws ht => ?_
      exact HAT.out _ (HWAY.out m ws ht).2.2.2
    subst hR
    clear H
    go_wp2_with fail
    obtain ⟨k0, k1⟩ := two_cells HR.out (.int .i64 0) (.slice none 0 0)
    refine bodyPost_ret (v := .tuple #[.agg #[.int .i64 0, .slice none 0 0], .int .i64 6]) (by simp [results, Tryd.results45, go_sem, k0, k1]) rfl ?_
    exact post_bad rfl ((HB.out.setCell (Nat.le_refl _) _).setCell (Nat.le_refl _) _)
  have HV : Hid (∀ m ws, isText t m ws → v = m) := fun m ws h => by
    have := (HWAY.out m ws h).2.2.2
    rw [hat] at this
    exact Lib.NumEnd.ok.inj this
  clear hat
  by_cases hle : l1 = ⟨#[]⟩
  · have HFT : Hid (∀ m ws, isText t m ws → v = m ∧ ([] : List Int) = ints (membR m ws)) := fun m ws h => by
      refine ⟨HV.out m ws h, ?_⟩
      have h1 := (HWAY.out m ws h).2.2.1
      rw [hle] at h1
      rw [more_nil h1.symm]
      rfl
    obtain ⟨zs, hzs⟩ : ∃ zs : List Int, zs = [] := ⟨_, rfl⟩
    have HZ : Hid (Zs w4 none 0 0 zs) := by show Zs _ _ _ _ _; rw [hzs]; exact Zs.nil w4
    rw [← hzs] at HFT
    obtain ⟨A2, hA2⟩ : ∃ A : Option Addr, A = none := ⟨_, rfl⟩
    obtain ⟨L, hL⟩ : ∃ L : Nat, L = 0 := ⟨_, rfl⟩
    obtain ⟨c2, hc2⟩ : ∃ L : Nat, L = 0 := ⟨_, rfl⟩
    have HZ' : Hid (Zs w4 none 0 0 zs) := HZ
    clear hzs
    subst hle
    go_upto_region 16 with fail
    clear HZ
    subst hA2 hL hc2
    rename Hid (Zs w4 none 0 0 zs) => HZ
    obtain ⟨⟨Q1, Q2, Q3⟩, hQ⟩ : ∃ Q, ofR v zs = Q := ⟨_, rfl⟩
    have HQ := Lib.hid hQ
    obtain ⟨lq, hlq⟩ : ∃ k, Q2.length = k := ⟨_, rfl⟩
    have HLQ := Lib.hid hlq
    clear hQ hlq
    go_wp2_with fail
    go_at_call 15
    refine (of_b v none 0 0 zs (by omega) (Q1, Q2, Q3) HQ _ HZ.out).mono ?_
    rintro e w6 ⟨⟨A6, k6, rfl, hO⟩, hb⟩
    simp only [HLQ.out] at hO ⊢
    have hba := (Below.refl w6.heap.size w6).alloc (Nat.le_refl _) (.cells #[.int .i64 Q1, .slice A6 lq k6] 24)
    have HO6 := Lib.hid ((hO.mono (B' := w.heap.size + 1) (by have := HR.out.lt; omega)).below hba)
    have HR6 := Lib.hid ((HR.out.next hb).next hba)
    have hB1 := HB.out.trans (hb.mono HB.out.size)
    have HB6 := Lib.hid (hB1.trans (hba.mono hB1.size))
    have HN6 := Lib.hid (Cs.new w6 #[.int .i64 Q1, .slice A6 lq k6] 24)
    clear hb hba hO hB1 HR HB HZ r0 r1 f0 f1
    go_upto_region 17 with fail
    obtain ⟨w7, hw7⟩ : ∃ w7, w6.alloc (.cells #[.int .i64 Q1, .slice A6 lq k6] 24) = w7 := ⟨_, rfl⟩
    obtain ⟨b7, hb7⟩ : ∃ b, w6.heap.size = b := ⟨_, rfl⟩
    rw [hw7] at HO6 HR6 HB6 HN6
    rw [hb7] at HN6
    rw [hw7, hb7]
    clear hw7 hb7
    rename Hid (Cs w7 w.heap.size _) => HR
    rename Hid (Below w.heap.size w w7) => HB
    have r0 := HR.out.at 0 _ rfl
    have r1 := HR.out.at 1 _ rfl
    have f0 := HR.out.free 0
    have f1 := HR.out.free 1
    have n0 := HN6.out.at 0 _ rfl
    have n1 := HN6.out.at 1 _ rfl
    by_cases hq3 : Q3 = 0
    case neg =>
      have hR : R = (0, [], 6) := by
        rw [← H.out]
        refine parR_bad fun m ws ht => ?_
        obtain ⟨hv, hzs⟩ := HFT.out m ws ht
        have h1 := HQ.out
        rw [hv, hzs, memb_of ht.1 ht.2.1] at h1
        exact hq3 (Prod.mk.inj (Prod.mk.inj h1).2).2.symm
      subst hR
      clear H
      have hd3 : (Q3 != 0) = true := by rw [bne_iff_ne]; exact hq3
      go_wp2_with fail
      obtain ⟨k0, k1⟩ := two_cells HR.out (.int .i64 0) (.slice none 0 0)
      refine bodyPost_ret (v := .tuple #[.agg #[.int .i64 0, .slice none 0 0], .int .i64 6]) (by simp [results, Tryd.results45, go_sem, k0, k1]) rfl ?_
      exact post_bad rfl ((HB.out.setCell (Nat.le_refl _) _).setCell (Nat.le_refl _) _)
    subst hq3
    obtain ⟨tx, htx⟩ : ∃ tx, textR Q1 Q2 = tx := ⟨_, rfl⟩
    have HTX := Lib.hid htx
    obtain ⟨txb, htb⟩ : ∃ b : ByteArray, (⟨tx.toArray⟩ : ByteArray) = b := ⟨_, rfl⟩
    have HTB := Lib.hid htb
    clear htx htb
    go_wp2_with fail
    go_at_call 43
    refine (text_b Q1 A6 lq k6 Q2 tx HTX _ (HTA.out.tabs.below HB.out) HO6.out.wd).mono ?_
    rintro e w8 ⟨rfl, hb⟩
    rw [HTB.out]
    have HR8 := Lib.hid (HR.out.next hb)
    have HN8 := Lib.hid (HN6.out.next hb)
    have HO8 := Lib.hid (HO6.out.below hb)
    have HB8 := Lib.hid (HB.out.trans (hb.mono HB.out.size))
    clear hb HR HB HN6 HO6 r0 r1 f0 f1 n0 n1
    rename Hid (Cs w8 w.heap.size _) => HR
    rename Hid (Below w.heap.size w w8) => HB
    have r0 := HR.out.at 0 _ rfl
    have r1 := HR.out.at 1 _ rfl
    have f0 := HR.out.free 0
    have f1 := HR.out.free 1
    have n0 := HN8.out.at 0 _ rfl
    have n1 := HN8.out.at 1 _ rfl
    by_cases hst : txb = s
    case neg =>
      have hR : R = (0, [], 6) := by
        rw [← H.out]
        refine parR_bad fun m ws ht => ?_
        obtain ⟨hv, hzs⟩ := HFT.out m ws ht
        have h1 := HQ.out
        rw [hv, hzs, memb_of ht.1 ht.2.1] at h1
        have e1 := (Prod.mk.inj h1).1
        have e2 := (Prod.mk.inj (Prod.mk.inj h1).2).1
        apply hst
        rw [← HTB.out, ← HTX.out, ← e1, ← e2, ht.2.2, ← HTT.out]
      subst hR
      clear H
      have hd3 : (txb.toList == s.toList) = false := by rw [beq_eq_false_iff_ne, Lib.toList_data, Lib.toList_data]; exact fun e => hst (bytes_ext e)
      go_wp2_with fail
      obtain ⟨k0, k1⟩ := two_cells HR.out (.int .i64 0) (.slice none 0 0)
      refine bodyPost_ret (v := .tuple #[.agg #[.int .i64 0, .slice none 0 0], .int .i64 6]) (by simp [results, Tryd.results45, go_sem, k0, k1]) rfl ?_
      exact post_bad rfl ((HB.out.setCell (Nat.le_refl _) _).setCell (Nat.le_refl _) _)
    have hR : R = (Q1, Q2, 0) := by
      rw [← H.out, ← HQ.out]
      refine of_par (by rw [HQ.out]) ?_
      rw [HQ.out]
      show textR Q1 Q2 = t
      rw [HTX.out]
      have h5 := congrArg (fun b : ByteArray => b.data.toList) ((HTB.out.trans hst).trans HTT.out.symm)
      simpa using h5
    subst hR
    have hd3 : (txb.toList == s.toList) = true := by rw [hst]; exact beq_self_eq_true _
    clear H hst
    go_wp2_with fail
    obtain ⟨k0, k1⟩ := two_cells HR.out (.int .i64 Q1) (.slice A6 lq k6)
    refine bodyPost_ret (v := .tuple #[.agg #[.int .i64 Q1, .slice A6 lq k6], .int .i64 0]) (by simp [results, Tryd.results45, go_sem, k0, k1]) rfl ?_
    exact fin_set HO8.out (by omega) (by omega) HB.out _ _
  · have hd2 : l1.toList.isEmpty = false := by
      rw [Lib.toList_data]
      cases h : l1.data.toList with
      | nil => exact absurd (bytes_ext h) hle
      | cons _ _ => rfl
    have hd1 : (l1.toList == []) = false := by
      rw [beq_eq_false_iff_ne, Lib.toList_data]; exact fun e => hle (bytes_ext e)
    have hd3 : ¬ l1.toList = [] := by
      rw [Lib.toList_data]; exact fun e => hle (bytes_ext e)
    obtain ⟨ml, hml⟩ := (HTA.out.below HB.out).ml
    obtain ⟨sep, hsep⟩ : ∃ b : ByteArray, b = ⟨#[44, 32]⟩ := ⟨_, rfl⟩
    have hsep1 : sep.data.toList = [44, 32] := by rw [hsep]
    have hsepz : sep.size = 2 := by rw [hsep]; rfl
    obtain ⟨P, hP⟩ : ∃ P, Lib.splitB sep 0 (Lib.countB l1 sep) l1 = P := ⟨_, rfl⟩
    obtain ⟨N, hN⟩ : ∃ N, Lib.countB l1 sep + 1 = N := ⟨_, rfl⟩
    have hPl : P.length = N := by rw [← hP, ← hN]; exact Lib.splitB_all sep (by omega) 0 _ l1 rfl
    have hPs : ∀ p ∈ P, p.size ≤ 30000 := by rw [← hP]; exact fun p hp => Nat.le_trans (piece_len sep _ l1 p hp) (by omega)
    have HPT : Hid (∀ m ws, isText t m ws → P.map (fun p => p.data.toList) = (membR m ws).map Lib.decDigits) := fun m ws h => by
      have h1 := (HWAY.out m ws h).2.2.1
      cases hM : membR m ws with
      | nil =>
        rw [hM] at h1
        exact absurd (bytes_ext h1) hle
      | cons x xs =>
        rw [hM] at h1
        rw [← hP]
        exact (split_more sep hsep1 x xs l1 h1).2
    have hN5 : N ≤ 5000 := by
      rcases HTS.out with ⟨m, ws, h⟩ | h
      · have h1 := congrArg List.length (HPT.out m ws h)
        rw [List.length_map, List.length_map] at h1
        have := membR_len m ws
        omega
      · have := Lib.countB_le sep (by omega) l1.size l1 (Nat.le_refl _)
        omega
    have HPL := Lib.hid hPl
    have HPS := Lib.hid hPs
    have hsplit := fun wx (hx : wx.cell? ⟨1, 0, none⟩ = some (.int .i64 ml)) => Tryd.strings_Split l1 sep ml wx (by omega) hx (by omega)
    rw [hP, hN, hsep] at hsplit
    have HSPL := Lib.hid hsplit
    have HML := Lib.hid hml
    clear hPl hPs hP hN hsep hsep1 hsepz hsplit hml hle
    go_wp2_with fail
    go_at_call 66
    refine (HSPL.out _ HML.out).mono ?_
    rintro e w5 ⟨rfl, rfl⟩
    have hba := (Below.refl w4.heap.size w4).alloc (Nat.le_refl _) (.cells (P.map Value.string).toArray 9)
    have HP5 := Lib.hid (Cs.new w4 (P.map Value.string).toArray 9)
    have HR5 := Lib.hid (HR.out.next hba)
    have HB5 := Lib.hid (HB.out.trans (hba.mono HB.out.size))
    obtain ⟨g5, hg5⟩ : ∃ g, w4.heap.size = g := ⟨_, rfl⟩
    obtain ⟨w5, hw5⟩ : ∃ w5, w4.alloc (.cells (P.map Value.string).toArray 9) = w5 := ⟨_, rfl⟩
    have hgl : w.heap.size < g5 := by rw [← hg5]; exact HR.out.lt
    rw [hw5] at HP5 HR5 HB5 ⊢
    rw [hg5] at HP5 ⊢
    clear hba hg5 hw5 HR HB HML HSPL r0 r1 f0 f1
    have hN5' : (N : Int) ≤ 5000 := by omega
    go_wp2_with fail
    go_loopw [10, 49] (fun a b wr => ∃ (k : Nat) (zs : List Int) (A2 : Option Addr) (c2 : Nat), k ≤ N ∧ b = .int .i64 k ∧ a = .slice A2 k c2 ∧ Hid (zs.length = k) ∧ Hid (∀ j, j < k → ∀ p, P[j]? = some p → Lib.atoiAll p.data.toList = .ok (zs.getD j 0)) ∧ Hid (wr.ownsRow (g5 + 1) 3 1 (.slice A2 k c2) k (zvals zs)) ∧ Hid (Cs wr g5 (P.map Value.string)) ∧ Hid (Cs wr w.heap.size [.int .i64 0, .slice none 0 0]) ∧ Hid (Below w.heap.size w wr)) (fun _ b _ => N - (intOf b).toNat)
    case atStart => exact ⟨0, [], none, 0, by omega, rfl, rfl, rfl, (fun j hj => absurd hj (by omega)), ⟨rfl, .inl ⟨rfl, rfl⟩⟩, HP5, HR5, HB5⟩
    case round =>
      clear HP5 HR5 HB5
      obtain ⟨k, zs, A2, c2, hk, rfl, rfl, HZL, HZA, HO, HP, HR, HB⟩ := hrel
      have r0 := HR.out.at 0 _ rfl
      have r1 := HR.out.at 1 _ rfl
      have f0 := HR.out.free 0
      have f1 := HR.out.free 1
      have hrl := HR.out.lt
      have hpl := HP.out.lt
      by_cases hlt : k < N
      · have hlt' : (k : Int) < (N : Int) := by omega
        have hkP : k < P.length := by rw [HPL.out]; exact hlt
        obtain ⟨x, hx⟩ : ∃ x, P[k] = x := ⟨_, rfl⟩
        have hxs : x.size ≤ 30000 := by rw [← hx]; exact HPS.out _ (List.getElem_mem hkP)
        have hPk : P[k]? = some x := by rw [List.getElem?_eq_getElem hkP, hx]
        have hcell := HP.out.at k (.string x) (by rw [List.getElem?_map, hPk]; rfl)
        have HPK := Lib.hid hPk
        clear hx hPk
        go_wp2_with fail
        go_at_call 65
        refine (atoi_b x (by omega) _ (HTA.out.below HB.out)).mono ?_
        rintro e w6 ⟨⟨z, ev, rfl, hev⟩, hb⟩
        have HO6 := Lib.hid (own_below HO.out hb)
        have HP6 := Lib.hid (HP.out.next hb)
        have HR6 := Lib.hid (HR.out.next hb)
        have HB6 := Lib.hid (HB.out.trans (hb.mono HB.out.size))
        have hpl6 := HP6.out.lt
        have hrl6 := HR6.out.lt
        clear hb HO HP HR HB r0 r1 f0 f1 hcell
        rename Hid (Cs w6 w.heap.size _) => HR
        rename Hid (Below w.heap.size w w6) => HB
        have r0 := HR.out.at 0 _ rfl
        have r1 := HR.out.at 1 _ rfl
        have f0 := HR.out.free 0
        have f1 := HR.out.free 1
        rcases hev with ⟨hat, rfl⟩ | ⟨hat, ty, pv, rfl⟩
        case inr =>
          have HAT := Lib.hid hat
          clear hat
          have hR : R = (0, [], 6) := by
            rw [← H.out]
            refine parR_bad fun m ws ht => ?_
            have h1 := congrArg (fun l : List (List UInt8) => l[k]?) (HPT.out m ws ht)
            simp only [List.getElem?_map, HPK.out, Option.map_some] at h1
            cases hM : (membR m ws)[k]? with
            | none => rw [hM] at h1; cases h1
            | some y =>
              rw [hM] at h1
              have h2 : x.data.toList = Lib.decDigits y := Option.some.inj h1
              have hy : y < 4096 := memb_lt (List.mem_of_getElem? hM)
              exact HAT.out _ (by rw [h2]; exact atoi_dec y (by omega))
          subst hR
          clear H
          go_wp2_with fail
          obtain ⟨k0, k1⟩ := two_cells HR.out (.int .i64 0) (.slice none 0 0)
          refine bodyPost_ret (v := .tuple #[.agg #[.int .i64 0, .slice none 0 0], .int .i64 6]) (by simp [results, Tryd.results45, go_sem, k0, k1]) rfl ?_
          exact post_bad rfl ((HB.out.setCell (Nat.le_refl _) _).setCell (Nat.le_refl _) _)
        have HZL7 : Hid ((zs ++ [z]).length = k + 1) := by show _ = _; rw [List.length_append, HZL.out]; rfl
        have HZA7 : Hid (∀ j, j < k + 1 → ∀ p, P[j]? = some p → Lib.atoiAll p.data.toList = .ok ((zs ++ [z]).getD j 0)) := fun j hj p hp => by
          by_cases hjk : j = k
          · subst hjk
            rw [HPK.out] at hp
            obtain rfl := Option.some.inj hp
            rw [List.getD_eq_getElem?_getD, List.getElem?_append_right (by rw [HZL.out]; exact Nat.le_refl _), HZL.out, Nat.sub_self]
            exact hat
          · have := HZA.out j (by omega) p hp
            rw [this, List.getD_eq_getElem?_getD, List.getD_eq_getElem?_getD, List.getElem?_append_left (by rw [HZL.out]; omega)]
        have hzv := zvals_snoc zs z
        have HZV := Lib.hid hzv
        clear hat hzv HZL HZA HPK
        go_wp2_with (at_builtin; (refine wpList_append_own _ rfl _ _ 25 rfl (g5 + 1) 3 i0 (.int .i64 0) 1 8 Tryd.underlying25 hi hi0 hi1 hi2 rfl (by decide) _ k (zvals zs) rfl (HO6.out.alloc _) ⟨w6.heap.size, 0, none⟩ 1 1 [.int .i64 z] rfl rfl ?q1 ?q2 ?q3 ?q4 ?q5 ?_))
        try (case q1 => intro j u hj; match j, hj with | 0, hj => simp at hj; subst hj; simp [Addr.add])
        case q2 => first | rfl | (intro u hu; simp at hu; subst hu; rfl)
        case q3 => unfold maxLen; omega
        case q4 => omega
        case q5 => first | omega | (simp; omega)
        intro v' w7 hown7 hgrow _
        have hbel : Below (g5 + 1) w6 w7 := ((Below.refl _ w6).alloc (by omega) _).grown hgrow (by simp; omega) (fun q hq => (HO6.out.lt q hq).1)
        obtain ⟨A7, c7, rfl⟩ := own_form hown7
        rw [← HZV.out] at hown7
        have HO7 := Lib.hid hown7
        have HP7 := Lib.hid (cs_low HP6.out hbel (by omega))
        have HR7 := Lib.hid (cs_low HR.out hbel (by omega))
        have HB7 := Lib.hid (HB.out.trans (hbel.mono (by omega)))
        clear hown7 hgrow hbel HO6 HP6 HR HB r0 r1 f0 f1
        go_wp2_with fail
        go_roundw
        case rel => exact ⟨k + 1, zs ++ [z], A7, c7, by omega, by go_num, rfl, HZL7, HZA7, HO7, HP7, HR7, HB7⟩
        case measure => simp [intOf]; omega
      · obtain rfl : k = N := by omega
        have HFT : Hid (∀ m ws, isText t m ws → v = m ∧ zs = ints (membR m ws)) := fun m ws h => by
          refine ⟨HV.out m ws h, ?_⟩
          have h1 := HPT.out m ws h
          have hl := congrArg List.length h1
          rw [List.length_map, List.length_map, HPL.out] at hl
          refine List.ext_getElem (by rw [HZL.out, ints_len]; exact hl) fun j hj1 hj2 => ?_
          rw [ints_len] at hj2
          have h2 := congrArg (fun l : List (List UInt8) => l[j]?) h1
          have hjP : j < P.length := by rw [HPL.out, hl]; exact hj2
          simp only [List.getElem?_map, List.getElem?_eq_getElem hjP, List.getElem?_eq_getElem hj2, Option.map_some] at h2
          have h3 := HZA.out j (by omega) _ (List.getElem?_eq_getElem hjP)
          have hy : (membR m ws)[j] < 4096 := memb_lt (List.getElem_mem hj2)
          rw [Option.some.inj h2, atoi_dec _ (by omega)] at h3
          have h4 := Lib.NumEnd.ok.inj h3
          rw [List.getD_eq_getElem?_getD, List.getElem?_eq_getElem hj1] at h4
          show zs[j] = (ints (membR m ws))[j]
          simp only [ints, List.getElem_map]
          exact h4.symm
        have HZ := Lib.hid (own_zi HZL.out HO.out)
        obtain ⟨L, hL⟩ : ∃ L, k = L := ⟨_, rfl⟩
        clear HZL HZA HO HP HPT hpl hrl
        subst hL
        go_upto_region 16 with fail
        obtain ⟨⟨Q1, Q2, Q3⟩, hQ⟩ : ∃ Q, ofR v zs = Q := ⟨_, rfl⟩
        have HQ := Lib.hid hQ
        obtain ⟨lq, hlq⟩ : ∃ k, Q2.length = k := ⟨_, rfl⟩
        have HLQ := Lib.hid hlq
        clear hQ hlq
        go_wp2_with fail
        go_at_call 15
        refine (of_b v A2 k c2 zs (by omega) (Q1, Q2, Q3) HQ _ HZ.out).mono ?_
        rintro e w6 ⟨⟨A6, k6, rfl, hO⟩, hb⟩
        simp only [HLQ.out] at hO ⊢
        have hba := (Below.refl w6.heap.size w6).alloc (Nat.le_refl _) (.cells #[.int .i64 Q1, .slice A6 lq k6] 24)
        have HO6 := Lib.hid ((hO.mono (B' := w.heap.size + 1) (by have := HR.out.lt; omega)).below hba)
        have HR6 := Lib.hid ((HR.out.next hb).next hba)
        have hB1 := HB.out.trans (hb.mono HB.out.size)
        have HB6 := Lib.hid (hB1.trans (hba.mono hB1.size))
        have HN6 := Lib.hid (Cs.new w6 #[.int .i64 Q1, .slice A6 lq k6] 24)
        clear hb hba hO hB1 HR HB HZ r0 r1 f0 f1
        go_upto_region 17 with fail
        obtain ⟨w7, hw7⟩ : ∃ w7, w6.alloc (.cells #[.int .i64 Q1, .slice A6 lq k6] 24) = w7 := ⟨_, rfl⟩
        obtain ⟨b7, hb7⟩ : ∃ b, w6.heap.size = b := ⟨_, rfl⟩
        rw [hw7] at HO6 HR6 HB6 HN6
        rw [hb7] at HN6
        rw [hw7, hb7]
        clear hw7 hb7
        rename Hid (Cs w7 w.heap.size _) => HR
        rename Hid (Below w.heap.size w w7) => HB
        have r0 := HR.out.at 0 _ rfl
        have r1 := HR.out.at 1 _ rfl
        have f0 := HR.out.free 0
        have f1 := HR.out.free 1
        have n0 := HN6.out.at 0 _ rfl
        have n1 := HN6.out.at 1 _ rfl
        by_cases hq3 : Q3 = 0
        case neg =>
          have hR : R = (0, [], 6) := by
            rw [← H.out]
            refine parR_bad fun m ws ht => ?_
            obtain ⟨hv, hzs⟩ := HFT.out m ws ht
            have h1 := HQ.out
            rw [hv, hzs, memb_of ht.1 ht.2.1] at h1
            exact hq3 (Prod.mk.inj (Prod.mk.inj h1).2).2.symm
          subst hR
          clear H
          have hd3 : (Q3 != 0) = true := by rw [bne_iff_ne]; exact hq3
          go_wp2_with fail
          obtain ⟨k0, k1⟩ := two_cells HR.out (.int .i64 0) (.slice none 0 0)
          refine bodyPost_ret (v := .tuple #[.agg #[.int .i64 0, .slice none 0 0], .int .i64 6]) (by simp [results, Tryd.results45, go_sem, k0, k1]) rfl ?_
          exact post_bad rfl ((HB.out.setCell (Nat.le_refl _) _).setCell (Nat.le_refl _) _)
        subst hq3
        obtain ⟨tx, htx⟩ : ∃ tx, textR Q1 Q2 = tx := ⟨_, rfl⟩
        have HTX := Lib.hid htx
        obtain ⟨txb, htb⟩ : ∃ b : ByteArray, (⟨tx.toArray⟩ : ByteArray) = b := ⟨_, rfl⟩
        have HTB := Lib.hid htb
        clear htx htb
        go_wp2_with fail
        go_at_call 43
        refine (text_b Q1 A6 lq k6 Q2 tx HTX _ (HTA.out.tabs.below HB.out) HO6.out.wd).mono ?_
        rintro e w8 ⟨rfl, hb⟩
        rw [HTB.out]
        have HR8 := Lib.hid (HR.out.next hb)
        have HN8 := Lib.hid (HN6.out.next hb)
        have HO8 := Lib.hid (HO6.out.below hb)
        have HB8 := Lib.hid (HB.out.trans (hb.mono HB.out.size))
        clear hb HR HB HN6 HO6 r0 r1 f0 f1 n0 n1
        rename Hid (Cs w8 w.heap.size _) => HR
        rename Hid (Below w.heap.size w w8) => HB
        have r0 := HR.out.at 0 _ rfl
        have r1 := HR.out.at 1 _ rfl
        have f0 := HR.out.free 0
        have f1 := HR.out.free 1
        have n0 := HN8.out.at 0 _ rfl
        have n1 := HN8.out.at 1 _ rfl
        by_cases hst : txb = s
        case neg =>
          have hR : R = (0, [], 6) := by
            rw [← H.out]
            refine parR_bad fun m ws ht => ?_
            obtain ⟨hv, hzs⟩ := HFT.out m ws ht
            have h1 := HQ.out
            rw [hv, hzs, memb_of ht.1 ht.2.1] at h1
            have e1 := (Prod.mk.inj h1).1
            have e2 := (Prod.mk.inj (Prod.mk.inj h1).2).1
            apply hst
            rw [← HTB.out, ← HTX.out, ← e1, ← e2, ht.2.2, ← HTT.out]
          subst hR
          clear H
          have hd3 : (txb.toList == s.toList) = false := by rw [beq_eq_false_iff_ne, Lib.toList_data, Lib.toList_data]; exact fun e => hst (bytes_ext e)
          go_wp2_with fail
          obtain ⟨k0, k1⟩ := two_cells HR.out (.int .i64 0) (.slice none 0 0)
          refine bodyPost_ret (v := .tuple #[.agg #[.int .i64 0, .slice none 0 0], .int .i64 6]) (by simp [results, Tryd.results45, go_sem, k0, k1]) rfl ?_
          exact post_bad rfl ((HB.out.setCell (Nat.le_refl _) _).setCell (Nat.le_refl _) _)
        have hR : R = (Q1, Q2, 0) := by
          rw [← H.out, ← HQ.out]
          refine of_par (by rw [HQ.out]) ?_
          rw [HQ.out]
          show textR Q1 Q2 = t
          rw [HTX.out]
          have h5 := congrArg (fun b : ByteArray => b.data.toList) ((HTB.out.trans hst).trans HTT.out.symm)
          simpa using h5
        subst hR
        have hd3 : (txb.toList == s.toList) = true := by rw [hst]; exact beq_self_eq_true _
        clear H hst
        go_wp2_with fail
        obtain ⟨k0, k1⟩ := two_cells HR.out (.int .i64 Q1) (.slice A6 lq k6)
        refine bodyPost_ret (v := .tuple #[.agg #[.int .i64 Q1, .slice A6 lq k6], .int .i64 0]) (by simp [results, Tryd.results45, go_sem, k0, k1]) rfl ?_
        exact fin_set HO8.out (by omega) (by omega) HB.out _ _
end Go.Proofs.YtpapbpekihgnlaaDoor
