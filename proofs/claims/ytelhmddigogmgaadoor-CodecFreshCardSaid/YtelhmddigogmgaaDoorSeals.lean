/-
What follows of the sealed words by the sum's algebra. Plain numbers, no program.
-/
import Derived.Test.YtelhmddigogmgaaDoorAlg
import Derived.Test.YtelhmddigogmgaaDoorWSeal
namespace Go.Proofs.YtelhmddigogmgaaDoor

theorem num_le (n v : Nat) (h : v < 2 ^ (8 * n)) : num (le n v) = v := by
  induction n generalizing v with
  | zero => simp [le, num]; simp at h; omega
  | succ n ih =>
    simp only [le, num]
    rw [ih (v / 256) (by rw [show 8 * (n + 1) = 8 * n + 8 from by omega, Nat.pow_add] at h; omega)]
    omega
theorem num_append (a b : List Nat) : num (a ++ b) = num a + num b * 2 ^ (8 * a.length) := by
  induction a with
  | nil => simp [num]
  | cons x a ih =>
    simp only [List.cons_append, num, ih, List.length_cons]
    rw [show 8 * (a.length + 1) = 8 + 8 * a.length from by omega, Nat.pow_add]
    simp only [Nat.mul_add]
    have : 256 * (num b * 2 ^ (8 * a.length)) = num b * (2 ^ 8 * 2 ^ (8 * a.length)) := by rw [← Nat.mul_assoc, Nat.mul_comm 256, Nat.mul_assoc]
    omega
theorem seal_bytes (a v : Nat) : ∀ x ∈ le 8 a ++ le 4 v, x < 256 := by
  intro x h
  rcases List.mem_append.1 h with h | h
  · exact le_byte _ _ x h
  · exact le_byte _ _ x h
theorem num_seal (a v : Nat) (ha : a < 18446744073709551616) (hv : v < 4294967296) : num (le 8 a ++ le 4 v) = a ^^^ (v * 2 ^ 64) := by
  rw [num_append, num_le 8 a (by omega), num_le 4 v (by omega), le_len]
  apply Nat.eq_of_testBit_eq
  intro i
  rw [show a + v * 2 ^ (8 * 8) = 2 ^ 64 * v + a from by omega, Nat.testBit_two_pow_mul_add _ (by omega), Nat.testBit_xor, Nat.testBit_mul_two_pow]
  by_cases hi : i < 64
  · have : ¬ 64 ≤ i := by omega
    simp [hi, this]
  · have h8 : 64 ≤ i := by omega
    have hz : a.testBit i = false := Nat.testBit_lt_two_pow (Nat.lt_of_lt_of_le (by omega : a < 2 ^ 64) (Nat.pow_le_pow_right (by omega) h8))
    simp [hi, h8, hz]
theorem check_fs (a v : Nat) (ha : a < 18446744073709551616) (hv : v < 4294967296) : checkN a v = flip (fs 96 (flip 0 ^^^ (a ^^^ (v * 2 ^ 64)))) := by
  unfold checkN
  rw [show sumN (le 8 a) = sumOnN 0 (le 8 a) from rfl, sumOnN_append]
  unfold sumOnN
  rw [crc_eq _ (seal_bytes a v), num_seal a v ha hv, List.length_append, le_len, le_len]
theorem xor_cancel (a x y : Nat) : (a ^^^ x) ^^^ (a ^^^ y) = x ^^^ y := by
  rw [show (a ^^^ x) ^^^ (a ^^^ y) = a ^^^ a ^^^ (x ^^^ y) from by ac_rfl, Nat.xor_self, Nat.zero_xor]
theorem shift_xor (a b n : Nat) : a * 2 ^ n ^^^ b * 2 ^ n = (a ^^^ b) * 2 ^ n := by
  have h := Nat.shiftLeft_xor_distrib (a := a) (b := b) (i := n)
  rw [Nat.shiftLeft_eq, Nat.shiftLeft_eq, Nat.shiftLeft_eq] at h
  exact h.symm
/-- unlike values have unlike checks -/
theorem check_value (a u v : Nat) (ha : a < 18446744073709551616) (hu : u < 4294967296) (hv : v < 4294967296) (h : checkN a u = checkN a v) : u = v := by
  rw [check_fs a u ha hu, check_fs a v ha hv] at h
  have h1 := flip_inj h
  by_cases h0 : u ^^^ v = 0
  · exact xor_eq_zero h0
  · exact absurd h1 (burst 96 64 (u ^^^ v) (Nat.xor_lt_two_pow hu hv) h0 _ _ _ (by omega) (by rw [xor_cancel, shift_xor]))
/-- unlike addresses, that differ in their low halves alone, have unlike checks -/
theorem check_address (a o v : Nat) (ha : a < 18446744073709551616) (ho : o < 4294967296) (hv : v < 4294967296) (h : checkN a v = checkN (a ^^^ o) v) : o = 0 := by
  rw [check_fs a v ha hv, check_fs (a ^^^ o) v (Nat.xor_lt_two_pow (n := 64) ha (by omega)) hv] at h
  have h1 := flip_inj h
  by_cases h0 : o = 0
  · exact h0
  · refine absurd h1 (burst 96 0 o ho h0 _ _ _ (by omega) ?_)
    rw [show (a ^^^ v * 2 ^ 64) ^^^ (a ^^^ o ^^^ v * 2 ^ 64) = (a ^^^ a) ^^^ (v * 2 ^ 64 ^^^ v * 2 ^ 64) ^^^ o from by ac_rfl, Nat.xor_self, Nat.xor_self]
    simp

theorem seal_low (a v : Nat) (hv : v < 4294967296) : sealN a v % 4294967296 = v := by
  unfold sealN
  split <;> omega
theorem seal_high (a v : Nat) (hv : v < 4294967296) (h0 : v ≠ 0) : sealN a v / 4294967296 = checkN a v := by
  unfold sealN
  rw [if_neg h0]; omega
theorem seal_zero (a : Nat) : sealN a 0 = 0 := rfl
theorem seal_ne (a v : Nat) (h0 : v ≠ 0) : sealN a v ≠ 0 := by
  unfold sealN
  rw [if_neg h0]; omega
theorem unseal_seal (a v : Nat) (hv : v < 4294967296) : unsealV a (sealN a v) = v ∧ unsealE a (sealN a v) = 0 := by
  unfold unsealV unsealE
  rw [seal_low a v hv, if_pos rfl, if_pos rfl]
  exact ⟨rfl, rfl⟩
theorem unseal_no (a x : Nat) (h : sealN a (x % 4294967296) ≠ x) : unsealV a x = 0 ∧ unsealE a x = 21 := by
  unfold unsealV unsealE
  rw [if_neg h, if_neg h]
  exact ⟨rfl, rfl⟩
theorem unseal_yes (a x : Nat) (h : sealN a (x % 4294967296) = x) : unsealV a x = x % 4294967296 ∧ unsealE a x = 0 := by
  unfold unsealV unsealE
  rw [if_pos h, if_pos h]
  exact ⟨rfl, rfl⟩
/-- at another address, whose low half alone is another, it doesn't open -/
theorem unseal_other (a o v : Nat) (ha : a < 18446744073709551616) (ho : o < 4294967296) (hv : v < 4294967296) (h0 : v ≠ 0) (ho0 : o ≠ 0) :
    unsealV (a ^^^ o) (sealN a v) = 0 ∧ unsealE (a ^^^ o) (sealN a v) = 21 := by
  refine unseal_no _ _ ?_
  rw [seal_low a v hv]
  intro h
  have h1 := congrArg (· / 4294967296) h
  simp only [seal_high _ v hv h0] at h1
  exact ho0 (check_address a o v ha ho hv h1.symm)

theorem u64_of_i64 (a : Int) : IntKind.u64.wrap (IntKind.i64.wrap a) = IntKind.u64.wrap a := by
  rw [IntKind.wrap_i64, IntKind.wrap_u64, IntKind.wrap_u64]; omega
theorem ofInt64 (a : Int) (a' : Nat) (h : IntKind.u64.wrap a = (a' : Int)) : (BitVec.ofInt 64 a).toNat = a' := by
  rw [BitVec.toNat_ofInt]
  rw [IntKind.wrap_u64] at h
  omega
theorem xor_address (a : Int) (a' o : Nat) (h : IntKind.u64.wrap a = (a' : Int)) (ha : a' < 18446744073709551616) (ho : o < 4294967296) : IntKind.u64.wrap (bits .xor .i64 a (o : Int)) = ((a' ^^^ o : Nat) : Int) := by
  have hx : a' ^^^ o < 2 ^ 64 := Nat.xor_lt_two_pow (by omega) (by omega)
  have e : bits .xor .i64 a (o : Int) = IntKind.i64.wrap ((BitVec.ofInt 64 a ^^^ BitVec.ofInt 64 (o : Int)).toNat : Int) := rfl
  rw [e, u64_of_i64, BitVec.toNat_xor, ofInt64 a a' h, ofInt64 (o : Int) o (by rw [IntKind.wrap_u64]; omega), IntKind.wrap_u64]
  omega
theorem xor_address_same (a : Int) (a' o : Nat) (h : IntKind.u64.wrap a = (a' : Int)) (h1 : -9223372036854775808 ≤ a) (h2 : a ≤ 9223372036854775807) (ha : a' < 18446744073709551616) (ho : o < 4294967296) :
    bits .xor .i64 a (o : Int) = a ↔ o = 0 := by
  have hx := xor_address a a' o h ha ho
  constructor
  · intro he
    rw [he, h] at hx
    have h3 : a' = a' ^^^ o := by omega
    have h4 := congrArg (a' ^^^ ·) h3
    simp only [Nat.xor_self, ← Nat.xor_assoc, Nat.zero_xor] at h4
    exact h4.symm
  · rintro rfl
    have e : bits .xor .i64 a ((0 : Nat) : Int) = IntKind.i64.wrap ((BitVec.ofInt 64 a ^^^ BitVec.ofInt 64 ((0 : Nat) : Int)).toNat : Int) := rfl
    rw [e, BitVec.toNat_xor, ofInt64 a a' h, ofInt64 ((0 : Nat) : Int) 0 (by decide), Nat.xor_zero, ← h, IntKind.wrap_i64, IntKind.wrap_u64]
    omega

end Go.Proofs.YtelhmddigogmgaaDoor
