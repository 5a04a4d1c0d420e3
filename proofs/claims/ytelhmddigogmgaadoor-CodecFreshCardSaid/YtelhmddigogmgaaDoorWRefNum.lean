/-
What the document's fits, number, Half, Word, Words, Bytes compute.
-/
import Derived.Test.YtelhmddigogmgaaDoorWBytes
namespace Go.Proofs.YtelhmddigogmgaaDoor
open Go.RowKit

set_option maxHeartbeats 400000 in
theorem fits_any (len : Nat) (A : Option Addr) (c : Nat) (a : Int) (n : Nat) (hn : n ≤ 8) (w : World) (hl : len ≤ 140737488355328) (h1 : -9223372036854775808 ≤ a) (h2 : a ≤ 9223372036854775807) :
    Calls Tryd.prog 62 #[.slice A len c, .int .i64 a, .int .i64 n] w fun e w' => e = .returned (.bool (roomB len a n)) ∧ w = w' := by
  by_cases ha : 0 ≤ a
  · have d0 : decide (a ≥ 0) = true := decide_eq_true ha
    by_cases hb : (n : Int) ≤ (len : Int)
    · have d1 : decide ((len : Int) ≥ (n : Int)) = true := decide_eq_true hb
      by_cases hc : a ≤ (len : Int) - n
      · have d2 : decide (a ≤ (len : Int) - (n : Int)) = true := decide_eq_true hc
        have hf : roomB len a n = true := by simp [roomB]; omega
        rw [hf]; clear hf
        go_enter Tryd.func62, Tryd.ntmps62
        go_wp2_with fail
        go_ret
        exact ⟨rfl, rfl⟩
      · have d2 : decide (a ≤ (len : Int) - (n : Int)) = false := decide_eq_false hc
        have hf : roomB len a n = false := by simp [roomB]; omega
        rw [hf]; clear hf
        go_enter Tryd.func62, Tryd.ntmps62
        go_wp2_with fail
        go_ret
        exact ⟨rfl, rfl⟩
    · have d1 : decide ((len : Int) ≥ (n : Int)) = false := decide_eq_false hb
      have hf : roomB len a n = false := by simp [roomB]; omega
      rw [hf]; clear hf
      go_enter Tryd.func62, Tryd.ntmps62
      go_wp2_with fail
      go_ret
      exact ⟨rfl, rfl⟩
  · have d0 : decide (a ≥ 0) = false := decide_eq_false ha
    have hf : roomB len a n = false := by simp [roomB]; omega
    rw [hf]; clear hf
    go_enter Tryd.func62, Tryd.ntmps62
    go_wp2_with fail
    go_ret
    exact ⟨rfl, rfl⟩

/-- a number's upper bytes, from the k-th on -/
def upN (l : List Nat) (p k n : Nat) : Nat := numAt l (p + k) (n - k)

theorem numAt_head (l : List Nat) (p n : Nat) : numAt l p (n + 1) = nth l p + 256 * numAt l (p + 1) n := by
  induction n with
  | zero => simp [numAt]
  | succ n ih =>
    rw [numAt, ih, numAt]
    rw [show p + (n + 1) = p + 1 + n by omega, show 2 ^ (8 * (n + 1)) = 256 * 2 ^ (8 * n) from by rw [show 8 * (n + 1) = 8 + 8 * n by omega, Nat.pow_add], Nat.mul_add, Nat.add_assoc]
    congr 2
    rw [Nat.mul_left_comm]

set_option maxHeartbeats 1000000 in
theorem number_any (l : List Nat) (hl : ∀ x ∈ l, x < 256) (A : Option Addr) (n c p : Nat) (q : Nat) (hq : q ≤ 8) (hq0 : 0 < q) (w : World) (hr : Rd w .u8 A n c l) (hp : p + q ≤ n) :
    Calls Tryd.prog 63 #[.slice A n c, .int .i64 p, .int .i64 q] w fun e w' => e = .returned (.int .u64 (numAt l p q : Nat)) ∧ w = w' := by
  have hn := hr.lt
  obtain ⟨b, off, rfl, hcc⟩ := hr.at_ (by omega)
  have HC := Lib.hid hcc
  have HL := Lib.hid hl
  clear hr hcc hl
  go_enter Tryd.func63, Tryd.ntmps63
  go_wp2_with fail
  go_loop [7, 8] (fun v7 v8 => ∃ (k x : Nat), k ≤ q ∧ v8 = .int .i64 ((k : Int) - 1) ∧ v7 = .int .u64 x ∧ Hid (x = numAt l (p + k) (q - k)) ∧ x < 2 ^ (8 * (q - k))) (fun _ v8 => (intOf v8 + 1).toNat)
  case atStart => exact ⟨q, 0, Nat.le_refl _, rfl, rfl, (by unfold Hid; simp [numAt]), by simp⟩
  case round =>
    obtain ⟨k, x, hk, rfl, rfl, Hx, hx⟩ := hrel
    by_cases h0 : k = 0
    · subst h0
      have d : decide ((((0 : Nat) : Int) - 1) ≥ 0) = false := decide_eq_false (by omega)
      go_wp2_with fail
      go_ret
      exact ⟨ret_int (by rw [Hx.out]; simp), rfl⟩
    · obtain ⟨j, rfl⟩ : ∃ j, k = j + 1 := ⟨k - 1, by omega⟩
      have hj : ((j + 1 : Nat) : Int) - 1 = (j : Int) := by omega
      rw [hj]
      have d : decide ((j : Int) ≥ 0) = true := decide_eq_true (by omega)
      have hld := HC.out (p + j) (by omega)
      have hy := nth_lt HL.out (by omega) (p + j)
      have hpow : 2 ^ (8 * (q - (j + 1))) ≤ 2 ^ 56 := Nat.pow_le_pow_right (by omega) (by omega)
      have hx56 : x < 72057594037927936 := by simpa using Nat.lt_of_lt_of_le hx hpow
      have Hn : Hid (x * 256 + nth l (p + j) = numAt l (p + j) (q - j)) := by
        unfold Hid
        rw [show q - j = (q - (j + 1)) + 1 by omega, numAt_head, Hx.out, show p + (j + 1) = p + j + 1 by omega]
        omega
      have hb : x * 256 + nth l (p + j) < 2 ^ (8 * (q - j)) := by
        rw [show 8 * (q - j) = 8 * (q - (j + 1)) + 8 by omega, Nat.pow_add]
        have : (x + 1) * 256 ≤ 2 ^ (8 * (q - (j + 1))) * 2 ^ 8 := Nat.mul_le_mul hx (by omega)
        omega
      clear hx hpow Hx
      generalize nth l (p + j) = y at *
      go_wp2_with fail
      go_round
      case rel => exact ⟨j, x * 256 + y, by omega, rfl, by congr 1, Hn, hb⟩
      case measure => simp [intOf]

def numE (b : Bool) : Int := if b then 0 else 20
def numV (b : Bool) (v : Nat) : Nat := if b then v else 0

set_option maxHeartbeats 400000 in
theorem refHalf_any (l : List Nat) (hl : ∀ x ∈ l, x < 256) (A : Option Addr) (n c : Nat) (a : Int) (h1 : -9223372036854775808 ≤ a) (h2 : a ≤ 9223372036854775807) (w : World) (hr : Rd w .u8 A n c l) :
    Calls Tryd.prog 55 #[.slice A n c, .int .i64 a] w fun e w' => e = .returned (.tuple #[.int .u32 (numV (roomB n a 4) (numAt l a.toNat 4) : Nat), .int .i64 (numE (roomB n a 4))]) ∧ w = w' := by
  have HF := Lib.hid (fits_any n A c a 4 (by omega) w hr.lt h1 h2)
  cases hb : roomB n a 4 with
  | false =>
    rw [show ((4 : Nat) : Int) = 4 from rfl, hb] at HF
    clear hr hl
    go_enter Tryd.func55, Tryd.ntmps55
    go_wp2_with fail
    refine HF.out.mono ?_
    rintro e w' ⟨rfl, rfl⟩
    go_wp2_with fail
    go_ret2
    exact ⟨rfl, rfl⟩
  | true =>
    rw [show ((4 : Nat) : Int) = 4 from rfl, hb] at HF
    have hb' : 0 ≤ a ∧ a ≤ (n : Int) ∧ 4 ≤ (n : Int) - a := by simpa [roomB] using hb
    obtain ⟨p, rfl⟩ : ∃ p : Nat, a = p := ⟨a.toNat, by omega⟩
    have HN := Lib.hid (number_any l hl A n c p 4 (by omega) (by omega) w hr (by omega))
    have hx := numAt_lt hl p 4
    rw [Int.toNat_natCast]
    have hx' : numAt l p 4 < 4294967296 := hx
    clear hr hl hx
    generalize numAt l p 4 = x at *
    go_enter Tryd.func55, Tryd.ntmps55
    go_wp2_with fail
    refine HF.out.mono ?_
    rintro e w' ⟨rfl, rfl⟩
    go_wp2_with fail
    refine HN.out.mono ?_
    rintro e w' ⟨rfl, rfl⟩
    go_wp2_with fail
    go_ret2
    exact ⟨rfl, rfl⟩

set_option maxHeartbeats 400000 in
theorem refWord_any (l : List Nat) (hl : ∀ x ∈ l, x < 256) (A : Option Addr) (n c : Nat) (a : Int) (h1 : -9223372036854775808 ≤ a) (h2 : a ≤ 9223372036854775807) (w : World) (hr : Rd w .u8 A n c l) :
    Calls Tryd.prog 56 #[.slice A n c, .int .i64 a] w fun e w' => e = .returned (.tuple #[.int .u64 (numV (roomB n a 8) (numAt l a.toNat 8) : Nat), .int .i64 (numE (roomB n a 8))]) ∧ w = w' := by
  have HF := Lib.hid (fits_any n A c a 8 (by omega) w hr.lt h1 h2)
  cases hb : roomB n a 8 with
  | false =>
    rw [show ((8 : Nat) : Int) = 8 from rfl, hb] at HF
    clear hr hl
    go_enter Tryd.func56, Tryd.ntmps56
    go_wp2_with fail
    refine HF.out.mono ?_
    rintro e w' ⟨rfl, rfl⟩
    go_wp2_with fail
    go_ret2
    exact ⟨rfl, rfl⟩
  | true =>
    rw [show ((8 : Nat) : Int) = 8 from rfl, hb] at HF
    have hb' : 0 ≤ a ∧ a ≤ (n : Int) ∧ 8 ≤ (n : Int) - a := by simpa [roomB] using hb
    obtain ⟨p, rfl⟩ : ∃ p : Nat, a = p := ⟨a.toNat, by omega⟩
    have HN := Lib.hid (number_any l hl A n c p 8 (by omega) (by omega) w hr (by omega))
    have hx := numAt_lt hl p 8
    rw [Int.toNat_natCast]
    have hx' : numAt l p 8 < 18446744073709551616 := hx
    clear hr hl hx
    generalize numAt l p 8 = x at *
    go_enter Tryd.func56, Tryd.ntmps56
    go_wp2_with fail
    refine HF.out.mono ?_
    rintro e w' ⟨rfl, rfl⟩
    go_wp2_with fail
    refine HN.out.mono ?_
    rintro e w' ⟨rfl, rfl⟩
    go_wp2_with fail
    go_ret2
    exact ⟨rfl, rfl⟩

/-- the program's own, in the same words -/
theorem half_is (l : List Nat) (hl : ∀ x ∈ l, x < 256) (A : Option Addr) (n c : Nat) (a : Int) (h1 : -9223372036854775808 ≤ a) (h2 : a ≤ 9223372036854775807) (w : World) (hr : Rd w .u8 A n c l) :
    Calls Tryd.prog 31 #[.slice A n c, .int .i64 a] w fun e w' => e = .returned (.tuple #[.int .u32 (numV (roomB n a 4) (numAt l a.toNat 4) : Nat), .int .i64 (numE (roomB n a 4))]) ∧ ∃ m, w' = w.drewN m := by
  cases hb : roomB n a 4 with
  | false => exact (half_no A n c a w hr.lt h1 h2 hb).mono fun e w' ⟨he, hw⟩ => ⟨he, 0, hw.symm⟩
  | true =>
    have hb' : 0 ≤ a ∧ a ≤ (n : Int) ∧ 4 ≤ (n : Int) - a := by simpa [roomB] using hb
    obtain ⟨p, rfl⟩ : ∃ p : Nat, a = p := ⟨a.toNat, by omega⟩
    exact (half_yes l hl A n c p w hr (by omega)).mono fun e w' ⟨he, hw⟩ => ⟨he, hw⟩
theorem word_is (l : List Nat) (hl : ∀ x ∈ l, x < 256) (A : Option Addr) (n c : Nat) (a : Int) (h1 : -9223372036854775808 ≤ a) (h2 : a ≤ 9223372036854775807) (w : World) (hr : Rd w .u8 A n c l) :
    Calls Tryd.prog 32 #[.slice A n c, .int .i64 a] w fun e w' => e = .returned (.tuple #[.int .u64 (numV (roomB n a 8) (numAt l a.toNat 8) : Nat), .int .i64 (numE (roomB n a 8))]) ∧ w = w' := by
  cases hb : roomB n a 8 with
  | false => exact (word_no A n c a w hr.lt h1 h2 hb).mono fun e w' ⟨he, hw⟩ => ⟨he, hw⟩
  | true =>
    have hb' : 0 ≤ a ∧ a ≤ (n : Int) ∧ 8 ≤ (n : Int) - a := by simpa [roomB] using hb
    obtain ⟨p, rfl⟩ : ∃ p : Nat, a = p := ⟨a.toNat, by omega⟩
    exact (word_yes l hl A n c p w hr (by omega)).mono fun e w' ⟨he, hw⟩ => ⟨he, hw⟩

end Go.Proofs.YtelhmddigogmgaaDoor
