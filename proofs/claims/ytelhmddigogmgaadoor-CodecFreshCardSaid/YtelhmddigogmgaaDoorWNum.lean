/-
What Half and Word of package codec compute.
-/
import Derived.Test.YtelhmddigogmgaaDoorWSum
namespace Go.Proofs.YtelhmddigogmgaaDoor
open Go.RowKit

/-- the number in n bytes from p on -/
def numAt (l : List Nat) (p : Nat) : Nat → Nat
  | 0 => 0
  | n + 1 => numAt l p n + nth l (p + n) * 2 ^ (8 * n)
theorem numAt_lt {l : List Nat} (hl : ∀ x ∈ l, x < 256) (p n : Nat) : numAt l p n < 2 ^ (8 * n) := by
  induction n with
  | zero => simp [numAt]
  | succ n ih =>
    simp only [numAt]
    rw [show 8 * (n + 1) = 8 + 8 * n from by omega, Nat.pow_add]
    have := nth_lt hl (by omega) (p + n)
    have : nth l (p + n) * 2 ^ (8 * n) ≤ 255 * 2 ^ (8 * n) := Nat.mul_le_mul_right _ (by omega)
    omega
theorem or_shift (a x i : Nat) (h : a < 2 ^ i) : a ||| x * 2 ^ i = a + x * 2 ^ i := by
  have := Nat.two_pow_add_eq_or_of_lt h x
  rw [Nat.or_comm, Nat.mul_comm x, ← this, Nat.add_comm]

theorem or_step64 (v x k : Nat) (hx : x < 256) (hk : k < 8) (hv : v < 2 ^ (8 * k)) : bits .or .u64 (v : Int) (IntKind.u64.wrap ((x : Int) * 2 ^ (8 * k))) = ((v + x * 2 ^ (8 * k) : Nat) : Int) := by
  have h1 : x * 2 ^ (8 * k) < 18446744073709551616 := by
    have h2 : 2 ^ (8 * k) ≤ 2 ^ 56 := Nat.pow_le_pow_right (by omega) (by omega)
    have h3 : x * 2 ^ (8 * k) ≤ 255 * 2 ^ 56 := Nat.mul_le_mul (by omega) h2
    omega
  have h4 : v < 18446744073709551616 := Nat.lt_of_lt_of_le hv (Nat.pow_le_pow_right (by omega : 0 < 2) (by omega : 8 * k ≤ 64))
  rw [show ((x : Int) * 2 ^ (8 * k)) = ((x * 2 ^ (8 * k) : Nat) : Int) from by simp, IntKind.wrap_u64]
  have h5 : ((x * 2 ^ (8 * k) : Nat) : Int) % 18446744073709551616 = ((x * 2 ^ (8 * k) : Nat) : Int) := by
    generalize x * 2 ^ (8 * k) = y at *
    omega
  rw [h5, u64_or_nat _ _ h4 h1, or_shift _ _ _ hv]

set_option maxHeartbeats 1000000 in
theorem word_yes (l : List Nat) (hl : ∀ x ∈ l, x < 256) (A : Option Addr) (n c p : Nat) (w : World) (hr : Rd w .u8 A n c l) (hp : p + 8 ≤ n) :
    Calls Tryd.prog 32 #[.slice A n c, .int .i64 p] w fun e w' => e = .returned (.tuple #[.int .u64 (numAt l p 8 : Nat), .int .i64 0]) ∧ w = w' := by
  have hn := hr.lt
  have hc := hr.le
  obtain ⟨b, off, rfl, hcc⟩ := hr.at_ (by omega)
  have Hcc := Lib.hid hcc
  clear hcc hr
  have r1 := room_any n (some ⟨b, off, none⟩) c p 8 w hn (by omega) (by omega)
  rw [show roomB n p 8 = true from by simp [roomB]; omega] at r1
  have R1 := Lib.hid r1
  clear r1
  go_enter Tryd.func32, Tryd.ntmps32
  go_wp2_with fail
  refine R1.out.mono ?_
  rintro e w1 ⟨rfl, rfl⟩
  go_wp2_with fail
  go_loop [6, 12] (fun v6 v12 => ∃ (k v : Nat), k ≤ 8 ∧ v12 = .int .i64 k ∧ v6 = .int .u64 v ∧ v = numAt l p k) (fun _ v12 => 8 - (intOf v12).toNat)
  case atStart => exact ⟨0, _, by omega, rfl, rfl, rfl⟩
  case round =>
    obtain ⟨k, v, hk, rfl, rfl, hv⟩ := hrel
    have hvl : v < 2 ^ (8 * k) := by rw [hv]; exact numAt_lt hl p k
    have Hv := Lib.hid hv
    clear hv
    by_cases hlt : k < 8
    · have hld := Hcc.out (p + k) (by omega)
      have hxb := nth_lt hl (by omega) (p + k)
      have e1 := or_step64 v _ k hxb hlt hvl
      go_wp2_with fail
      go_round
      case rel => exact ⟨k + 1, _, by omega, by go_num, rfl, by rw [Hv.out]; rfl⟩
      case measure => simp [intOf]; omega
    · obtain rfl : k = 8 := by omega
      go_wp2_with fail
      go_ret2
      exact ⟨by rw [← Hv.out]; rfl, rfl⟩

set_option maxHeartbeats 1000000 in
theorem word_no (A : Option Addr) (n c : Nat) (a : Int) (w : World) (hn : n ≤ 140737488355328) (h1 : -9223372036854775808 ≤ a) (h2 : a ≤ 9223372036854775807) (h : roomB n a 8 = false) :
    Calls Tryd.prog 32 #[.slice A n c, .int .i64 a] w fun e w' => e = .returned (.tuple #[.int .u64 0, .int .i64 20]) ∧ w = w' := by
  have r1 := room_any n A c a 8 w hn h1 h2
  rw [h] at r1
  have R1 := Lib.hid r1
  clear r1 h h1 h2
  go_enter Tryd.func32, Tryd.ntmps32
  go_wp2_with fail
  refine R1.out.mono ?_
  rintro e w1 ⟨rfl, rfl⟩
  go_wp2_with fail
  go_ret2
  exact ⟨rfl, rfl⟩

set_option maxHeartbeats 1000000 in
theorem half_no (A : Option Addr) (n c : Nat) (a : Int) (w : World) (hn : n ≤ 140737488355328) (h1 : -9223372036854775808 ≤ a) (h2 : a ≤ 9223372036854775807) (h : roomB n a 4 = false) :
    Calls Tryd.prog 31 #[.slice A n c, .int .i64 a] w fun e w' => e = .returned (.tuple #[.int .u32 0, .int .i64 20]) ∧ w = w' := by
  have r1 := room_any n A c a 4 w hn h1 h2
  rw [h] at r1
  have R1 := Lib.hid r1
  clear r1 h h1 h2
  go_enter Tryd.func31, Tryd.ntmps31
  go_wp2_with fail
  refine R1.out.mono ?_
  rintro e w1 ⟨rfl, rfl⟩
  go_wp2_with fail
  go_ret2
  exact ⟨rfl, rfl⟩

theorem half_bits (a b c d : Nat) (ha : a < 256) (hb : b < 256) (hc : c < 256) (hd : d < 256) :
    bits .or .u32 (bits .or .u32 (bits .or .u32 (a : Int) ((b : Int) * 256)) ((c : Int) * 65536)) ((d : Int) * 16777216) = ((a + b * 256 + c * 65536 + d * 16777216 : Nat) : Int) := by
  rw [show (b : Int) * 256 = ((b * 256 : Nat) : Int) from by simp, u32_or_nat _ _ (by omega) (by omega), show 256 = 2 ^ 8 from rfl, or_shift a b 8 (by omega),
    show (c : Int) * 65536 = ((c * 65536 : Nat) : Int) from by simp, u32_or_nat _ _ (by omega) (by omega), show 65536 = 2 ^ 16 from rfl, or_shift _ c 16 (by omega),
    show (d : Int) * 16777216 = ((d * 16777216 : Nat) : Int) from by simp, u32_or_nat _ _ (by omega) (by omega), show 16777216 = 2 ^ 24 from rfl, or_shift _ d 24 (by omega)]
theorem numAt4 (l : List Nat) (p : Nat) : numAt l p 4 = nth l p + nth l (p + 1) * 256 + nth l (p + 2) * 65536 + nth l (p + 3) * 16777216 := by
  simp [numAt]

set_option maxHeartbeats 1000000 in
theorem half_yes (l : List Nat) (hl : ∀ x ∈ l, x < 256) (A : Option Addr) (n c p : Nat) (w : World) (hr : Rd w .u8 A n c l) (hp : p + 4 ≤ n) :
    Calls Tryd.prog 31 #[.slice A n c, .int .i64 p] w fun e w' => e = .returned (.tuple #[.int .u32 (numAt l p 4 : Nat), .int .i64 0]) ∧ ∃ m, w' = w.drewN m := by
  have hn := hr.lt
  have hc := hr.le
  obtain ⟨b, off, rfl, hcc⟩ := hr.at_ (by omega)
  have l0 := hcc p (by omega)
  have l1 := hcc (p + 1) (by omega)
  have l2 := hcc (p + 2) (by omega)
  have l3 := hcc (p + 3) (by omega)
  have b0 := nth_lt hl (by omega) p
  have b1 := nth_lt hl (by omega) (p + 1)
  have b2 := nth_lt hl (by omega) (p + 2)
  have b3 := nth_lt hl (by omega) (p + 3)
  clear hcc hr
  have r1 := room_any n (some ⟨b, off, none⟩) c p 4 w hn (by omega) (by omega)
  rw [show roomB n p 4 = true from by simp [roomB]; omega] at r1
  have R1 := Lib.hid r1
  clear r1
  go_enter Tryd.func31, Tryd.ntmps31
  go_wp2_with fail
  refine R1.out.mono ?_
  rintro e w1 ⟨rfl, rfl⟩
  go_wp2_with fail
  go_quiet (fail)
  go_wp2_with fail
  go_ret2
  exact ⟨by rw [numAt4, ← half_bits _ _ _ _ b0 b1 b2 b3]; rfl, nq, rfl⟩

end Go.Proofs.YtelhmddigogmgaaDoor
