/-
  Texts of cost models: the walk over the reference's Number.
-/
import Derived.Test.YthlhicegchkjjaaGreatDoorCtM
import Derived.Laws.IdiomStrings
namespace Go.Proofs.YthlhicegchkjjaaGreatDoor
open Go.RowKit

theorem dec_len (n : Nat) (h : n ≤ 1000) : (Lib.decDigits n).length ≤ 4 := by
  unfold Lib.decDigits; split; · simp
  unfold Lib.decDigits; split; · simp
  unfold Lib.decDigits; split; · simp
  unfold Lib.decDigits; split; · simp
  omega
theorem dec_big {n : Nat} (h : ¬ n < 10) : Lib.decDigits n = Lib.decDigits (n / 10) ++ [UInt8.ofNat (48 + n % 10)] := by rw [Lib.decDigits, dif_neg h]
theorem byte_conv (d : Nat) (hd : d < 10) (c : ByteArray) (hc : c.data.toList = [UInt8.ofNat (48 + d)]) (T : TypeId) (w : World) (g : Nat) (hg : w.heap.size = g) :
    (convert 68 9 (.slice (some ⟨g, 0, none⟩) 1 1)).run Tryz.prog (w.alloc (.cells #[.int .u8 (48 + (d : Int))] T)) = .ok (.string c) (w.alloc (.cells #[.int .u8 (48 + (d : Int))] T)) := by
  subst hg
  have h := run_convert_bytes_back (P := Tryz.prog) (w.alloc (.cells #[.int .u8 (48 + (d : Int))] T)) 68 9 5 ⟨w.heap.size, 0, none⟩ 1 [UInt8.ofNat (48 + d)] Tryz.underlying68 Tryz.underlying5 Tryz.underlying9 (fun j hj => by
    have : j = 0 := by simpa using hj
    subst this
    have e : ((UInt8.ofNat (48 + d)).toNat : Int) = 48 + (d : Int) := by rw [UInt8.toNat_ofNat']; omega
    rw [List.getElem_cons_zero, e]
    show (w.alloc (.cells #[.int .u8 (48 + (d : Int))] T)).cell? ⟨w.heap.size, 0, none⟩ = _
    simp)
  rw [List.length_singleton] at h
  rw [h]
  refine congrArg (fun z => Result.ok (Value.string z) _) (bytes_eq ?_)
  rw [hc]
set_option maxRecDepth 100000 in
set_option maxHeartbeats 2000000 in
theorem number_b (m : Nat) : ∀ (n : Nat), n ≤ m → n ≤ 1000 → ∀ (r : ByteArray), Hid (r.data.toList = Lib.decDigits n) → ∀ (w : World),
    Calls Tryz.prog 14 #[.int .i64 n] w fun e w' => e = .returned (.string r) ∧ Below w.heap.size w w' := by
  induction m with
  | zero =>
    intro n hn _ r hr w
    obtain rfl : n = 0 := by omega
    have hcv := fun w => byte_conv 0 (by omega) r (by rw [hr.out, Lib.decDigits_one (by omega)]) 5 w w.heap.size rfl
    simp only [Int.add_zero, show ((0 : Nat) : Int) = 0 from rfl] at hcv
    clear hr
    go_enter Tryz.func14, Tryz.ntmps14
    go_wp2_with fail
    go_ret
    exact ⟨rfl, (Below.refl _ _).alloc (Nat.le_refl _) _⟩
  | succ m ih =>
    intro n hn hn6 r hr w
    obtain ⟨d, hd⟩ : ∃ d : Nat, n % 10 = d := ⟨_, rfl⟩
    have hd10 : d < 10 := by omega
    obtain ⟨c, hc⟩ := mk_bytes [UInt8.ofNat (48 + d)]
    have hcv := fun w => byte_conv d hd10 c hc 5 w w.heap.size rfl
    have hrem : (n : Int).tmod 10 = (d : Int) := by rw [Int.tmod_eq_emod_of_nonneg (by omega)]; omega
    have hrem2 : (n : Int) % 10 = (d : Int) := by omega
    have hw1 : IntKind.i64.wrap (48 + (d : Int)) = 48 + (d : Int) := IntWalk.i64_in _ (by omega)
    have hw2 : IntKind.u8.wrap (48 + (d : Int)) = 48 + (d : Int) := by
      show (48 + (d : Int)) % 256 = _
      omega
    have hn0 : ¬ (n : Int) < 0 := by omega
    by_cases h10 : n < 10
    · have hdn : d = n := by omega
      obtain rfl : c = r := bytes_eq (by rw [hc, hr.out, Lib.decDigits_one h10, hdn])
      have h10' : (n : Int) < 10 := by omega
      clear hr hc hd hdn ih
      go_enter Tryz.func14, Tryz.ntmps14
      go_wp2_with fail
      go_ret
      exact ⟨rfl, (Below.refl _ _).alloc (Nat.le_refl _) _⟩
    · obtain ⟨p, hp⟩ := mk_bytes (Lib.decDigits (n / 10))
      have HP := Lib.hid hp
      have hpl : p.data.toList.length ≤ 4 := by rw [hp]; exact dec_len _ (by omega)
      have had := add_fact p c r (by rw [hp, hc, hr.out, dec_big h10, hd]) (by rw [hr.out]; have := dec_len n hn6; omega)
      have hquo : (n : Int).tdiv 10 = ((n / 10 : Nat) : Int) := by rw [Int.tdiv_eq_ediv_of_nonneg (by omega)]; omega
      have hquo2 : (n : Int) / 10 = ((n / 10 : Nat) : Int) := by omega
      obtain ⟨n', hn'⟩ : ∃ n', n / 10 = n' := ⟨_, rfl⟩
      rw [hn'] at HP hquo hquo2
      have hn1 : n' ≤ m := by omega
      have hn7 : n' ≤ 1000 := by omega
      have hwn : IntKind.i64.wrap (n' : Int) = (n' : Int) := IntWalk.i64_in _ (by omega)
      have h10' : ¬ (n : Int) < 10 := by omega
      clear hr hc hd hp hpl hn'
      go_enter Tryz.func14, Tryz.ntmps14
      go_wp2_with (first | (go_at_call 14; refine (ih n' hn1 hn7 p HP _).mono ?_; rintro e u1 ⟨rfl, hb⟩; have HB1 := Lib.hid hb; clear hb) | fail)
      go_ret
      exact ⟨rfl, ((Below.refl _ _).alloc (Nat.le_refl _) _).trans (HB1.out.mono (by simp))⟩
/-- Number at a number up to 100. -/
theorem num_c (n : Nat) (h : n ≤ 100) (r : ByteArray) (H : Hid (r.data.toList = decT n)) (w : World) :
    Calls Tryz.prog 14 #[.int .i64 n] w fun e w' => e = .returned (.string r) ∧ Below w.heap.size w w' :=
  number_b n n (Nat.le_refl _) (by omega) r (Lib.hid (by
    rw [H.out, ← itoa_dec n h]
    unfold Lib.itoa
    rw [if_neg (by omega), Int.toNat_natCast])) w
end Go.Proofs.YthlhicegchkjjaaGreatDoor
