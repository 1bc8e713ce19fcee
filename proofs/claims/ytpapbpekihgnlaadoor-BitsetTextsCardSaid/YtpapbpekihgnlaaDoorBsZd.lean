/-
  Plain laws: the algebra of valid sets, their sizes, their members in order.
-/
import Derived.Test.YtpapbpekihgnlaaDoorBsZc
namespace Go.Proofs.YtpapbpekihgnlaaDoor
open Go.RowKit

/-- The words W are the set with the flags f. -/
structure Is (m : Nat) (W : List Nat) (f : Nat → Bool) : Prop where
  eq : W = Bs.mk m f
theorem Is.of {m : Nat} {W : List Nat} (hv : Bs.vld m W = true) (hf : Bs.fits W) : Is m W (Bs.bit W) := ⟨(Bs.vld_mk hv hf).symm⟩
theorem Is.len {m : Nat} {W : List Nat} {f : Nat → Bool} (h : Is m W f) : W.length = (m + 63) / 64 := by rw [h.eq, Bs.mk_len]
theorem Is.vld {m : Nat} {W : List Nat} {f : Nat → Bool} (h : Is m W f) (hm : m ≤ 4096) : Bs.vld m W = true := by rw [h.eq]; exact Bs.mk_vld m f hm
theorem Is.bit {m : Nat} {W : List Nat} {f : Nat → Bool} (h : Is m W f) (i : Nat) (hi : i < m) : Bs.bit W i = f i := by rw [h.eq, Bs.mk_bit, decide_eq_true hi, Bool.true_and]
theorem pairR_ok {m : Nat} {x y : List Nat} (h : Bs.vld m x = true) (h' : Bs.vld m y = true) : pairR m x m y = 0 := by
  unfold pairR
  rw [if_neg (by rw [h, h']; simp), if_pos rfl]
theorem Is.com {m : Nat} {x y W : List Nat} {f g : Nat → Bool} (o : Bool → Bool → Bool) (hx : Is m x f) (hy : Is m y g) (hm : m ≤ 4096) (h : Is m W fun i => o (f i) (g i)) : comR o m x m y = ((m : Int), W, 0) := by
  unfold comR
  rw [if_pos (pairR_ok (hx.vld hm) (hy.vld hm)), Int.toNat_natCast, h.eq]
  have e : (Bs.mk m fun i => o (Bs.bit x i) (Bs.bit y i)) = Bs.mk m fun i => o (f i) (g i) := Bs.mk_congr fun i hi => by rw [hx.bit i hi, hy.bit i hi]
  rw [e]
theorem Is.comp {m : Nat} {x W : List Nat} {f : Nat → Bool} (hx : Is m x f) (hm : m ≤ 4096) (h : Is m W fun i => !f i) : compR m x = ((m : Int), W, 0) := by
  unfold compR
  rw [if_neg (by rw [hx.vld hm]; simp), Int.toNat_natCast, h.eq]
  have e : (Bs.mk m fun i => !Bs.bit x i) = Bs.mk m fun i => !f i := Bs.mk_congr fun i hi => by rw [hx.bit i hi]
  rw [e]
theorem Is.equal {m : Nat} {x y : List Nat} {f g : Nat → Bool} (hx : Is m x f) (hy : Is m y g) (hm : m ≤ 4096) (h : ∀ i, f i = g i) : eqR m x m y = true := by
  unfold eqR
  rw [pairR_ok (hx.vld hm) (hy.vld hm)]
  have e : x = y := by rw [hx.eq, hy.eq]; exact Bs.mk_congr fun i _ => h i
  rw [decide_eq_true e]
  rfl
theorem Is.sub {m : Nat} {x y : List Nat} {f g : Nat → Bool} (hx : Is m x f) (hy : Is m y g) (hm : m ≤ 4096) (h : ∀ i, f i = true → g i = true) : subR m x m y = true := by
  unfold subR
  rw [pairR_ok (hx.vld hm) (hy.vld hm), Int.toNat_natCast]
  have e : ((List.range m).all fun i => !Bs.bit x i || Bs.bit y i) = true := by
    rw [List.all_eq_true]
    intro i hi
    rw [hx.bit i (List.mem_range.1 hi), hy.bit i (List.mem_range.1 hi)]
    cases hf : f i
    · rfl
    · rw [h i hf]; rfl
  rw [e]
  rfl
/-- A subset is a set whose union with the other one is that one. -/
theorem Is.sub_eq {m : Nat} {x y u : List Nat} {f g : Nat → Bool} (hx : Is m x f) (hy : Is m y g) (hu : Is m u fun i => f i || g i) (hm : m ≤ 4096) (b : Bool) (h : subR m x m y = b) : eqR m u m y = b := by
  rw [← h]
  unfold eqR subR
  rw [pairR_ok (hu.vld hm) (hy.vld hm), pairR_ok (hx.vld hm) (hy.vld hm), Int.toNat_natCast]
  have e : decide (u = y) = (List.range m).all fun i => !Bs.bit x i || Bs.bit y i := by
    rw [Bool.eq_iff_iff, decide_eq_true_iff, List.all_eq_true]
    constructor
    · intro h i hi
      have hi' := List.mem_range.1 hi
      have h1 := hu.bit i hi'
      rw [h, hy.bit i hi'] at h1
      rw [hx.bit i hi', hy.bit i hi']
      cases hf : f i
      · rfl
      · rw [hf] at h1; rw [h1]; rfl
    · intro h
      rw [hu.eq, hy.eq]
      refine Bs.mk_congr fun i hi => ?_
      have h1 := h i (List.mem_range.2 hi)
      rw [hx.bit i hi, hy.bit i hi] at h1
      cases hf : f i
      · rfl
      · rw [hf] at h1; simpa using h1.symm
  rw [e]
theorem Is.memb {m : Nat} {x : List Nat} {f : Nat → Bool} (hx : Is m x f) (hm : m ≤ 4096) : membR m x = (List.range m).filter f := by
  unfold membR
  rw [if_pos (hx.vld hm), Int.toNat_natCast]
  unfold Bs.upto
  exact List.filter_congr fun i hi => hx.bit i (List.mem_range.1 hi)
theorem len_or_and (f g : Nat → Bool) (l : List Nat) : (l.filter fun i => f i || g i).length + (l.filter fun i => f i && g i).length = (l.filter f).length + (l.filter g).length := by
  induction l with
  | nil => rfl
  | cons a l ih =>
    simp only [List.filter_cons]
    cases f a <;> cases g a <;> simp <;> omega
theorem len_not (f : Nat → Bool) (l : List Nat) : (l.filter f).length + (l.filter fun i => !f i).length = l.length := by
  induction l with
  | nil => rfl
  | cons a l ih =>
    simp only [List.filter_cons]
    cases f a <;> simp <;> omega
/-- The members are in ascending order. -/
theorem memb_sorted (n : Int) (ws : List Nat) : (membR n ws).Pairwise (· < ·) := by
  unfold membR
  split
  · unfold Bs.upto
    exact List.Pairwise.filter _ List.pairwise_lt_range
  · exact List.Pairwise.nil
theorem memb_asc {n : Int} {ws : List Nat} {j k : Nat} (hj : j < k) (hk : k < (membR n ws).length) : (membR n ws).getD j 0 < (membR n ws).getD k 0 := by
  have h := List.pairwise_iff_getElem.1 (memb_sorted n ws) j k (by omega) hk hj
  rw [List.getD_eq_getElem?_getD, List.getD_eq_getElem?_getD, List.getElem?_eq_getElem hk, List.getElem?_eq_getElem (show j < (membR n ws).length by omega)]
  exact h
/-- The member at a place, -1 behind the last. -/
def atR (r : List Nat) (k : Nat) : Int := if k < r.length then ((r.getD k 0 : Nat) : Int) else -1
theorem next_first (n : Int) (ws : List Nat) : nextR n ws (-1) = atR (membR n ws) 0 := by
  unfold atR
  split
  · next h => exact nextR_at h (by omega) (fun j hj => absurd hj (by omega))
  · next h => exact nextR_nil fun j hj => absurd hj (by omega)
theorem next_next (n : Int) (ws : List Nat) (k : Nat) (hk : k < (membR n ws).length) : nextR n ws (((membR n ws).getD k 0 : Nat) : Int) = atR (membR n ws) (k + 1) := by
  unfold atR
  split
  · next h =>
    refine nextR_at h ?_ fun j hj => ?_
    · have := memb_asc (n := n) (ws := ws) (j := k) (k := k + 1) (by omega) h; omega
    · by_cases hjk : j = k
      · rw [hjk]; omega
      · have := memb_asc (n := n) (ws := ws) (j := j) (k := k) (by omega) hk; omega
  · next h =>
    refine nextR_nil fun j hj => ?_
    by_cases hjk : j = k
    · rw [hjk]; omega
    · have := memb_asc (n := n) (ws := ws) (j := j) (k := k) (by omega) hk; omega
theorem memb_has {m : Nat} {ws : List Nat} (hv : Bs.vld m ws = true) (k : Nat) (hk : k < (membR m ws).length) : hasR m ws (((membR m ws).getD k 0 : Nat) : Int) = true := by
  have hmem : (membR m ws).getD k 0 ∈ membR m ws := by
    rw [List.getD_eq_getElem?_getD, List.getElem?_eq_getElem hk]; exact List.getElem_mem hk
  unfold membR at hmem
  rw [if_pos hv, Int.toNat_natCast] at hmem
  obtain ⟨h1, h2⟩ := List.mem_filter.1 hmem
  have h3 := List.mem_range.1 h1
  have e : (if Bs.vld m ws = true then Bs.upto ws m else []) = membR m ws := by unfold membR; rw [Int.toNat_natCast]
  rw [if_pos hv] at e
  change List.getD (Bs.upto ws m) k 0 < m at h3
  change Bs.bit ws (List.getD (Bs.upto ws m) k 0) = true at h2
  rw [e] at h2 h3
  unfold hasR
  rw [hv, Int.toNat_natCast, h2, decide_eq_true (by omega), decide_eq_true (by omega)]
  rfl
theorem memb_of {m : Nat} {ws : List Nat} (hv : Bs.vld m ws = true) (hf : Bs.fits ws) : ofR m (ints (membR m ws)) = ((m : Int), ws, 0) := by
  have hm := Bs.vld_le hv
  have hmb : membR m ws = Bs.upto ws m := by unfold membR; rw [if_pos hv, Int.toNat_natCast]
  have hin : ∀ z ∈ ints (membR m ws), ∃ k : Nat, z = k ∧ k < m ∧ Bs.bit ws k = true := fun z hz => by
    obtain ⟨k, hk, rfl⟩ := List.mem_map.1 hz
    rw [hmb] at hk
    obtain ⟨h1, h2⟩ := List.mem_filter.1 hk
    exact ⟨k, rfl, List.mem_range.1 h1, h2⟩
  unfold ofR
  rw [if_neg, Int.toNat_natCast]
  · have e : (Bs.mk m fun i => (ints (membR m ws)).contains (i : Int)) = Bs.mk m (Bs.bit ws) := Bs.mk_congr fun i hi => by
      rw [Bool.eq_iff_iff, List.contains_iff_mem]
      constructor
      · intro h
        obtain ⟨k, h1, _, h3⟩ := hin _ h
        rw [show i = k by omega]; exact h3
      · intro h
        refine List.mem_map.2 ⟨i, ?_, rfl⟩
        rw [hmb]
        exact List.mem_filter.2 ⟨List.mem_range.2 hi, h⟩
    rw [e, Bs.vld_mk hv hf]
  · rintro (h | h | ⟨z, hz, h⟩)
    · omega
    · omega
    · obtain ⟨k, h1, h2, _⟩ := hin z hz
      omega
end Go.Proofs.YtpapbpekihgnlaaDoor
