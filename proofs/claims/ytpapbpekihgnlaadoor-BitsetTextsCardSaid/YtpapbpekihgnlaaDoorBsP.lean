/-
  Counting the bits of a word, and taking them one by one; no program is in sight here.
-/
import Derived.Test.YtpapbpekihgnlaaDoorBs
namespace Go.Proofs.YtpapbpekihgnlaaDoor
namespace Bs

theorem and_split (k a b c d : Nat) (ha : a < 2 ^ k) (hc : c < 2 ^ k) : (a + 2 ^ k * b) &&& (c + 2 ^ k * d) = (a &&& c) + 2 ^ k * (b &&& d) := by
  refine Nat.eq_of_testBit_eq fun j => ?_
  have hac : a &&& c < 2 ^ k := Nat.and_lt_two_pow a hc
  rw [Nat.testBit_and, Nat.add_comm a, Nat.add_comm c, Nat.add_comm (a &&& c), Nat.testBit_two_pow_mul_add b ha, Nat.testBit_two_pow_mul_add d hc, Nat.testBit_two_pow_mul_add (b &&& d) hac]
  split <;> simp
/-- The number of the bits of x below n. -/
def pc : Nat → Nat → Nat
  | 0, _ => 0
  | n + 1, x => x % 2 + pc n (x / 2)
theorem pc_le (n x : Nat) : pc n x ≤ n := by
  induction n generalizing x with
  | zero => simp [pc]
  | succ n ih => have := ih (x / 2); simp only [pc]; omega
theorem pc_add (a b x : Nat) : pc (a + b) x = pc a x + pc b (x / 2 ^ a) := by
  induction a generalizing x with
  | zero => simp [pc]
  | succ a ih =>
    rw [show a + 1 + b = (a + b) + 1 by omega]
    simp only [pc]
    rw [ih, Nat.div_div_eq_div_mul, show 2 * 2 ^ a = 2 ^ (a + 1) by rw [Nat.pow_succ]; omega]
    omega
/-- The digit d, n times, in the base b. -/
def rep (b d : Nat) : Nat → Nat
  | 0 => 0
  | n + 1 => d + b * rep b d n
def S1 : Nat → Nat → Nat
  | 0, _ => 0
  | n + 1, x => (x % 2 + x / 2 % 2) + 4 * S1 n (x / 4)
def S2 : Nat → Nat → Nat
  | 0, _ => 0
  | n + 1, x => pc 4 x + 16 * S2 n (x / 16)
def S3 : Nat → Nat → Nat
  | 0, _ => 0
  | n + 1, x => pc 8 x + 256 * S3 n (x / 256)
theorem s1 (n x : Nat) : (x / 2 &&& rep 4 1 n) + (x &&& rep 4 1 n) = S1 n x := by
  induction n generalizing x with
  | zero => simp [rep, S1]
  | succ n ih =>
    simp only [rep, S1]
    rw [← ih (x / 4)]
    have e1 : x / 2 &&& (1 + 4 * rep 4 1 n) = x / 2 % 2 + 4 * (x / 4 / 2 &&& rep 4 1 n) := by
      have := and_split 2 (x / 2 % 4) (x / 4 / 2) 1 (rep 4 1 n) (by omega) (by omega)
      rw [Nat.and_one_is_mod] at this
      rw [show x / 2 = x / 2 % 4 + 2 ^ 2 * (x / 4 / 2) by omega]
      rw [show (4 : Nat) = 2 ^ 2 from rfl] at *
      rw [this]
      omega
    have e2 : x &&& (1 + 4 * rep 4 1 n) = x % 2 + 4 * (x / 4 &&& rep 4 1 n) := by
      have := and_split 2 (x % 4) (x / 4) 1 (rep 4 1 n) (by omega) (by omega)
      rw [Nat.and_one_is_mod, show x % 4 + 2 ^ 2 * (x / 4) = x by omega] at this
      rw [show (4 : Nat) * rep 4 1 n = 2 ^ 2 * rep 4 1 n from rfl, this]
      omega
    rw [e1, e2]
    omega
theorem s1_two (n x : Nat) : S1 (n + 2) x = ((x % 2 + x / 2 % 2) + 4 * (x / 4 % 2 + x / 4 / 2 % 2)) + 16 * S1 n (x / 16) := by
  simp only [S1]
  rw [show x / 4 / 4 = x / 16 by omega]
  omega
theorem s2 (n x : Nat) : (S1 (2 * n) x / 4 &&& rep 16 3 n) + (S1 (2 * n) x &&& rep 16 3 n) = S2 n x := by
  induction n generalizing x with
  | zero => simp [rep, S2]
  | succ n ih =>
    simp only [rep, S2]
    rw [← ih (x / 16), show 2 * (n + 1) = 2 * n + 2 by omega, s1_two]
    obtain ⟨z, hz⟩ : ∃ z, S1 (2 * n) (x / 16) = z := ⟨_, rfl⟩
    obtain ⟨d, hd⟩ : ∃ d, x % 2 + x / 2 % 2 = d := ⟨_, rfl⟩
    obtain ⟨e, he⟩ : ∃ e, x / 4 % 2 + x / 4 / 2 % 2 = e := ⟨_, rfl⟩
    have hp : pc 4 x = d + e := by simp only [pc]; omega
    rw [hz, hd, he, hp]
    have e1 : (d + 4 * e + 16 * z) / 4 &&& (3 + 16 * rep 16 3 n) = e + 16 * (z / 4 &&& rep 16 3 n) := by
      have := and_split 4 (e + 4 * (z % 4)) (z / 4) 3 (rep 16 3 n) (by omega) (by omega)
      rw [show (3 : Nat) = 2 ^ 2 - 1 from rfl, Nat.and_two_pow_sub_one_eq_mod] at this
      rw [show (d + 4 * e + 16 * z) / 4 = e + 4 * (z % 4) + 2 ^ 4 * (z / 4) by omega, show (3 : Nat) + 16 * rep 16 3 n = 2 ^ 2 - 1 + 2 ^ 4 * rep 16 3 n from rfl]
      refine this.trans ?_
      rw [show 2 ^ 2 - 1 = 3 from rfl] at *
      omega
    have e2 : (d + 4 * e + 16 * z) &&& (3 + 16 * rep 16 3 n) = d + 16 * (z &&& rep 16 3 n) := by
      have := and_split 4 (d + 4 * e) z 3 (rep 16 3 n) (by omega) (by omega)
      rw [show (3 : Nat) = 2 ^ 2 - 1 from rfl, Nat.and_two_pow_sub_one_eq_mod] at this
      rw [show (3 : Nat) + 16 * rep 16 3 n = 2 ^ 2 - 1 + 2 ^ 4 * rep 16 3 n from rfl]
      refine this.trans ?_
      rw [show 2 ^ 2 - 1 = 3 from rfl] at *
      omega
    rw [e1, e2]
    omega
theorem s2_two (n x : Nat) : S2 (n + 2) x = (pc 4 x + 16 * pc 4 (x / 16)) + 256 * S2 n (x / 256) := by
  simp only [S2]
  rw [show x / 16 / 16 = x / 256 by omega]
  omega
theorem s2_mod (n x : Nat) : S2 n x % 16 ≤ 4 := by
  cases n with
  | zero => simp [S2]
  | succ n => have := pc_le 4 x; simp only [S2]; omega
theorem s3 (n x : Nat) : (S2 (2 * n) x / 16 + S2 (2 * n) x) &&& rep 256 15 n = S3 n x := by
  induction n generalizing x with
  | zero => simp [rep, S3]
  | succ n ih =>
    simp only [rep, S3]
    rw [← ih (x / 256), show 2 * (n + 1) = 2 * n + 2 by omega, s2_two]
    have hz4 := s2_mod (2 * n) (x / 256)
    obtain ⟨z, hz⟩ : ∃ z, S2 (2 * n) (x / 256) = z := ⟨_, rfl⟩
    have hd4 := pc_le 4 x
    have he4 := pc_le 4 (x / 16)
    obtain ⟨d, hd⟩ : ∃ d, pc 4 x = d := ⟨_, rfl⟩
    obtain ⟨e, he⟩ : ∃ e, pc 4 (x / 16) = e := ⟨_, rfl⟩
    have hp : pc 8 x = d + e := by rw [show 8 = 4 + 4 from rfl, pc_add, hd]; exact congrArg (d + ·) he
    rw [hz] at hz4 ⊢
    rw [hd] at hd4 ⊢
    rw [he] at he4 ⊢
    rw [hp]
    have := and_split 8 (d + e + 16 * (e + z % 16)) (z / 16 + z) 15 (rep 256 15 n) (by omega) (by omega)
    rw [show (15 : Nat) = 2 ^ 4 - 1 from rfl, Nat.and_two_pow_sub_one_eq_mod] at this
    rw [show (d + 16 * e + 256 * z) / 16 + (d + 16 * e + 256 * z) = d + e + 16 * (e + z % 16) + 2 ^ 8 * (z / 16 + z) by omega, show (15 : Nat) + 256 * rep 256 15 n = 2 ^ 4 - 1 + 2 ^ 8 * rep 256 15 n from rfl]
    refine this.trans ?_
    rw [show 2 ^ 4 - 1 = 15 from rfl] at *
    omega
theorem s1_lt (n x : Nat) : 3 * S1 n x ≤ 2 * (4 ^ n - 1) := by
  induction n generalizing x with
  | zero => simp [S1]
  | succ n ih => have := ih (x / 4); have := Nat.one_le_pow n 4 (by omega); simp only [S1]; rw [Nat.pow_succ]; omega
theorem s2_lt (n x : Nat) : 15 * S2 n x ≤ 4 * (16 ^ n - 1) := by
  induction n generalizing x with
  | zero => simp [S2]
  | succ n ih => have := ih (x / 16); have := Nat.one_le_pow n 16 (by omega); have := pc_le 4 x; simp only [S2]; rw [Nat.pow_succ]; omega
/-- The eight bytes added. -/
theorem s4 (x a b c : Nat) (ha : S3 8 x = a) (hb : a + a / 256 = b) (hc : b + b / 65536 = c) : (c + c / 4294967296) % 128 = pc 64 x ∧ c + c / 4294967296 < 2 ^ 63 := by
  have e : pc 64 x = pc 8 x + (pc 8 (x / 256) + (pc 8 (x / 256 / 256) + (pc 8 (x / 256 / 256 / 256) + (pc 8 (x / 256 / 256 / 256 / 256) + (pc 8 (x / 256 / 256 / 256 / 256 / 256) + (pc 8 (x / 256 / 256 / 256 / 256 / 256 / 256) + pc 8 (x / 256 / 256 / 256 / 256 / 256 / 256 / 256))))))) := by
    rw [show 64 = 8 + (8 + (8 + (8 + (8 + (8 + (8 + 8)))))) from rfl]
    simp only [pc_add, show 2 ^ 8 = 256 from rfl]
  have h0 := pc_le 8 x
  have h1 := pc_le 8 (x / 256)
  have h2 := pc_le 8 (x / 256 / 256)
  have h3 := pc_le 8 (x / 256 / 256 / 256)
  have h4 := pc_le 8 (x / 256 / 256 / 256 / 256)
  have h5 := pc_le 8 (x / 256 / 256 / 256 / 256 / 256)
  have h6 := pc_le 8 (x / 256 / 256 / 256 / 256 / 256 / 256)
  have h7 := pc_le 8 (x / 256 / 256 / 256 / 256 / 256 / 256 / 256)
  simp only [S3] at ha
  rw [e]
  clear e
  generalize pc 8 x = p0 at *
  generalize pc 8 (x / 256) = p1 at *
  generalize pc 8 (x / 256 / 256) = p2 at *
  generalize pc 8 (x / 256 / 256 / 256) = p3 at *
  generalize pc 8 (x / 256 / 256 / 256 / 256) = p4 at *
  generalize pc 8 (x / 256 / 256 / 256 / 256 / 256) = p5 at *
  generalize pc 8 (x / 256 / 256 / 256 / 256 / 256 / 256) = p6 at *
  generalize pc 8 (x / 256 / 256 / 256 / 256 / 256 / 256 / 256) = p7 at *
  have hb' : b = (p0 + p1) + 256 * ((p1 + p2) + 256 * ((p2 + p3) + 256 * ((p3 + p4) + 256 * ((p4 + p5) + 256 * ((p5 + p6) + 256 * ((p6 + p7) + 256 * p7)))))) := by omega
  clear ha hb
  have hc' : c = (p0 + p1 + p2 + p3) + 256 * ((p1 + p2 + p3 + p4) + 256 * ((p2 + p3 + p4 + p5) + 256 * ((p3 + p4 + p5 + p6) + 256 * ((p4 + p5 + p6 + p7) + 256 * ((p5 + p6 + p7) + 256 * ((p6 + p7) + 256 * p7)))))) := by omega
  clear hc hb'
  have hd : c / 4294967296 = (p4 + p5 + p6 + p7) + 256 * ((p5 + p6 + p7) + 256 * ((p6 + p7) + 256 * p7)) := by omega
  rw [hd]
  clear hd
  refine ⟨?_, by omega⟩
  have he : c + ((p4 + p5 + p6 + p7) + 256 * ((p5 + p6 + p7) + 256 * ((p6 + p7) + 256 * p7))) = (p0 + p1 + p2 + p3 + p4 + p5 + p6 + p7) + 128 * (2 * ((p1 + p2 + p3 + p4) + 256 * ((p2 + p3 + p4 + p5) + 256 * ((p3 + p4 + p5 + p6) + 256 * ((p4 + p5 + p6 + p7) + 256 * ((p5 + p6 + p7) + 256 * ((p6 + p7) + 256 * p7)))))) + 2 * ((p5 + p6 + p7) + 256 * ((p6 + p7) + 256 * p7))) := by omega
  rw [he, Nat.add_mul_mod_self_left]
  omega
theorem rep_32 : rep 4 1 32 = 6148914691236517205 := by decide
theorem rep_16 : rep 16 3 16 = 3689348814741910323 := by decide
theorem rep_8 : rep 256 15 8 = 1085102592571150095 := by decide

/-- The bits of a word in ascending order. -/
def bl (x : Nat) : List Nat := (List.range 64).filter x.testBit
theorem bl_zero : bl 0 = [] := by
  unfold bl
  rw [List.filter_eq_nil_iff]
  simp
/-- The numbers below k that are members. -/
def upto (ws : List Nat) (k : Nat) : List Nat := (List.range k).filter (bit ws)
theorem upto_word (ws : List Nat) (k : Nat) : upto ws (64 * (k + 1)) = upto ws (64 * k) ++ (bl (ws.getD k 0)).map (64 * k + ·) := by
  unfold upto bl
  rw [show 64 * (k + 1) = 64 * k + 64 by omega, List.range_add, List.filter_append, List.filter_map]
  congr 2
  refine List.filter_congr fun j hj => ?_
  have hj' : j < 64 := List.mem_range.1 hj
  show bit ws (64 * k + j) = _
  unfold bit
  rw [show (64 * k + j) / 64 = k by omega, show (64 * k + j) % 64 = j by omega]
theorem upto_succ (ws : List Nat) (k : Nat) : upto ws (k + 1) = upto ws k ++ if bit ws k then [k] else [] := by
  unfold upto
  rw [List.range_succ, List.filter_append]
  congr 1
  by_cases h : bit ws k = true
  · simp [h]
  · simp [h]
theorem upto_vld {n : Nat} {ws : List Nat} (h : vld n ws = true) : upto ws (64 * ws.length) = upto ws n := by
  obtain ⟨_, h2, h3, h4⟩ := vld_iff.1 h
  unfold upto
  rw [show 64 * ws.length = n + (64 * ws.length - n) by omega, List.range_add, List.filter_append]
  have : ((List.range (64 * ws.length - n)).map (n + ·)).filter (bit ws) = [] := by
    rw [List.filter_eq_nil_iff]
    intro a ha
    obtain ⟨j, _, rfl⟩ := List.mem_map.1 ha
    rw [h4 (n + j) (by omega)]
    simp
  rw [this, List.append_nil]
theorem pc_bl_aux (n x : Nat) : ((List.range n).filter x.testBit).length = pc n x := by
  induction n generalizing x with
  | zero => simp [pc]
  | succ n ih =>
    rw [Nat.add_comm n 1, List.range_add, List.filter_append, List.filter_map, List.length_append, List.length_map]
    have e : ((List.range n).filter (x.testBit ∘ (1 + ·))) = (List.range n).filter (x / 2).testBit := by
      refine List.filter_congr fun j _ => ?_
      show x.testBit (1 + j) = _
      rw [Nat.add_comm, Nat.testBit_succ]
    rw [e, ih, Nat.add_comm 1 n]
    simp only [pc]
    have : (List.range 1) = [0] := rfl
    rw [this, Nat.add_comm]
    have h2 : x % 2 = 0 ∨ x % 2 = 1 := by omega
    rcases h2 with h2 | h2
    · simp [Nat.testBit_zero, h2]
    · simp [Nat.testBit_zero, h2]; omega
theorem bl_len (x : Nat) : (bl x).length = pc 64 x := pc_bl_aux 64 x

/-- Each number that is not zero is an odd one times a power of two. -/
theorem odd_part (x : Nat) (hx : x ≠ 0) : ∃ t m, x = 2 ^ t * (2 * m + 1) := by
  induction x using Nat.strongRecOn with
  | _ x ih =>
    rcases Nat.mod_two_eq_zero_or_one x with h | h
    · obtain ⟨t, m, hm⟩ := ih (x / 2) (by omega) (by omega)
      exact ⟨t + 1, m, by rw [Nat.pow_succ]; have : x = x / 2 * 2 := by omega
                          rw [this, hm]; rw [Nat.mul_comm _ 2, ← Nat.mul_assoc, Nat.mul_comm 2]⟩
    · exact ⟨0, x / 2, by omega⟩
theorem odd_bit (t m j : Nat) : (2 ^ t * (2 * m + 1)).testBit j = if j < t then false else if j = t then true else m.testBit (j - t - 1) := by
  have := Nat.testBit_two_pow_mul_add (2 * m + 1) (Nat.two_pow_pos t) j
  rw [Nat.add_zero] at this
  rw [this]
  split
  · simp
  · split
    · next h => subst h; simp [Nat.testBit_zero]
    · rw [show j - t = (j - t - 1) + 1 by omega, Nat.testBit_succ]
      congr 1
      omega
theorem and_low (t m : Nat) : 2 ^ t * (2 * m + 1) &&& (2 ^ t * (2 * m + 1) - 1) = 2 ^ t * (2 * m) := by
  have hp := Nat.two_pow_pos t
  have h := and_split t 0 (2 * m + 1) (2 ^ t - 1) (2 * m) hp (by omega)
  rw [Nat.zero_add, Nat.zero_and, Nat.zero_add] at h
  have e : 2 ^ t * (2 * m + 1) - 1 = 2 ^ t - 1 + 2 ^ t * (2 * m) := by rw [Nat.mul_add, Nat.mul_one]; omega
  rw [e, h]
  congr 1
  have h2 := and_split 1 1 m 0 m (by omega) (by omega)
  rw [show 1 + 2 ^ 1 * m = 2 * m + 1 by omega, show 0 + 2 ^ 1 * m = 2 * m by omega, Nat.and_self] at h2
  rw [h2]
  simp
theorem even_bit (t m j : Nat) : (2 ^ t * (2 * m)).testBit j = if j ≤ t then false else m.testBit (j - t - 1) := by
  have := Nat.testBit_two_pow_mul_add m (Nat.two_pow_pos (t + 1)) j
  rw [Nat.add_zero, Nat.pow_succ, Nat.mul_assoc] at this
  rw [this]
  by_cases h : j ≤ t
  · rw [if_pos h, if_pos (by omega)]; simp
  · rw [if_neg h, if_neg (by omega)]; congr 1
theorem odd_lt {t m k : Nat} (h : 2 ^ t * (2 * m + 1) < 2 ^ k) : t < k := by
  have h2 := Nat.le_mul_of_pos_right (2 ^ t) (show 0 < 2 * m + 1 by omega)
  exact (Nat.pow_lt_pow_iff_right (by omega)).1 (Nat.lt_of_le_of_lt h2 h)
theorem bl_step (t m : Nat) (h : 2 ^ t * (2 * m + 1) < 2 ^ 64) : bl (2 ^ t * (2 * m + 1)) = t :: bl (2 ^ t * (2 * m)) := by
  have ht := odd_lt h
  unfold bl
  rw [show 64 = t + (1 + (63 - t)) by omega, List.range_add, List.range_add, List.filter_append, List.filter_append, List.map_append, List.filter_append, List.filter_append]
  have e1 : (List.range t).filter (2 ^ t * (2 * m + 1)).testBit = [] := by
    rw [List.filter_eq_nil_iff]; intro j hj; rw [odd_bit, if_pos (List.mem_range.1 hj)]; simp
  have e2 : (List.range t).filter (2 ^ t * (2 * m)).testBit = [] := by
    rw [List.filter_eq_nil_iff]; intro j hj; rw [even_bit, if_pos (Nat.le_of_lt (List.mem_range.1 hj))]; simp
  have e3 : ((List.range 1).map (t + ·)).filter (2 ^ t * (2 * m + 1)).testBit = [t] := by
    have : (List.range 1) = [0] := rfl
    rw [this]
    simp [odd_bit]
  have e4 : ((List.range 1).map (t + ·)).filter (2 ^ t * (2 * m)).testBit = [] := by
    have : (List.range 1) = [0] := rfl
    rw [this]
    simp [even_bit]
  rw [e1, e2, e3, e4]
  simp only [List.nil_append, List.singleton_append]
  congr 1
  refine List.filter_congr fun j hj => ?_
  obtain ⟨a, ha, rfl⟩ := List.mem_map.1 hj
  obtain ⟨b, _, rfl⟩ := List.mem_map.1 ha
  rw [odd_bit, even_bit, if_neg (by omega), if_neg (by omega), if_neg (by omega)]
theorem and_comp (k m : Nat) (h : m < 2 ^ k) : m &&& (2 ^ k - (m + 1)) = 0 := by
  refine Nat.eq_of_testBit_eq fun j => ?_
  rw [Nat.testBit_and, Nat.testBit_two_pow_sub_succ h, Nat.zero_testBit]
  by_cases hm : m.testBit j = true
  · simp [hm]
  · simp [hm]
/-- x and its negative: the least bit. -/
theorem and_neg (t m : Nat) (h : 2 ^ t * (2 * m + 1) < 2 ^ 64) : 2 ^ t * (2 * m + 1) &&& (2 ^ 64 - 2 ^ t * (2 * m + 1)) = 2 ^ t := by
  have ht := odd_lt h
  have hp := Nat.two_pow_pos t
  have e64 : 2 ^ 64 = 2 ^ t * (2 * 2 ^ (63 - t)) := by rw [← Nat.mul_assoc, ← Nat.pow_succ, ← Nat.pow_add]; congr 1; omega
  have hm : m < 2 ^ (63 - t) := by
    rw [e64] at h
    have := Nat.lt_of_mul_lt_mul_left h
    omega
  have e : 2 ^ 64 - 2 ^ t * (2 * m + 1) = 2 ^ t * (2 * (2 ^ (63 - t) - (m + 1)) + 1) := by
    rw [e64, ← Nat.mul_sub]
    congr 1
    omega
  rw [e]
  have h1 := and_split t 0 (2 * m + 1) 0 (2 * (2 ^ (63 - t) - (m + 1)) + 1) hp hp
  simp only [Nat.zero_add, Nat.zero_and] at h1
  rw [h1]
  have h2 := and_split 1 1 m 1 (2 ^ (63 - t) - (m + 1)) (by omega) (by omega)
  rw [and_comp _ _ hm] at h2
  rw [show 1 + 2 ^ 1 * m = 2 * m + 1 by omega, show 1 + 2 ^ 1 * (2 ^ (63 - t) - (m + 1)) = 2 * (2 ^ (63 - t) - (m + 1)) + 1 by omega] at h2
  rw [h2]
  simp
end Bs
end Go.Proofs.YtpapbpekihgnlaaDoor
