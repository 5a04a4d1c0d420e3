/-
What turn of the statements computes.
-/
import Derived.Test.YtelhmddigogmgaaDoorWPad
namespace Go.Proofs.YtelhmddigogmgaaDoor
open Go.RowKit

/-- one bit turned -/
def turn1 (l : List Nat) (i : Nat) : List Nat := l.set (i / 8) (nth l (i / 8) ^^^ 2 ^ (i % 8))
/-- behind k rounds: the bytes, and whether one was turned -/
def turnK (l : List Nat) (at_ m : Nat) : Nat → List Nat × Bool
  | 0 => (l, false)
  | k + 1 => if m / 2 ^ k % 2 = 1 ∧ at_ + k < 8 * l.length then (turn1 (turnK l at_ m k).1 (at_ + k), true) else turnK l at_ m k
theorem turnK_len (l : List Nat) (at_ m k : Nat) : (turnK l at_ m k).1.length = l.length := by
  induction k with
  | zero => rfl
  | succ k ih => simp only [turnK]; split <;> simp [turn1, ih]
theorem turn1_byte {l : List Nat} (h : ∀ x ∈ l, x < 256) (i : Nat) : ∀ x ∈ turn1 l i, x < 256 := by
  intro x hx
  rcases List.mem_or_eq_of_mem_set hx with hx | rfl
  · exact h x hx
  · exact Nat.xor_lt_two_pow (n := 8) (nth_lt h (by omega) _) (Nat.pow_lt_pow_right (by omega) (by omega))
theorem turnK_byte {l : List Nat} (h : ∀ x ∈ l, x < 256) (at_ m k : Nat) : ∀ x ∈ (turnK l at_ m k).1, x < 256 := by
  induction k with
  | zero => exact h
  | succ k ih => simp only [turnK]; split
                 · exact turn1_byte ih _
                 · exact ih
theorem turn1_cells (l : List Nat) (i : Nat) : (u8s l).setIfInBounds (i / 8) (.int .u8 (nth l (i / 8) ^^^ 2 ^ (i % 8) : Nat)) = u8s (turn1 l i) := by
  apply Array.ext'
  simp [u8s, vals, turn1, List.map_set]
theorem bit_and (m k : Nat) (hm : m < 4294967296) : bits .and .u32 ((m : Int) / 2 ^ k) 1 = ((m / 2 ^ k % 2 : Nat) : Int) := by
  have h1 : m / 2 ^ k < 4294967296 := Nat.lt_of_le_of_lt (Nat.div_le_self _ _) hm
  have h2 : ((m : Int) / 2 ^ k) = ((m / 2 ^ k : Nat) : Int) := by simp
  rw [h2, show (1 : Int) = ((1 : Nat) : Int) from rfl, u32_and_nat _ 1 h1 (by omega), show (1 : Nat) = 2 ^ 1 - 1 from rfl, Nat.and_two_pow_sub_one_eq_mod]

theorem bit_xor (x i : Nat) (hx : x < 256) : bits .xor .u8 (x : Int) ((2 : Int) ^ (i % 8) % 256) = ((x ^^^ 2 ^ (i % 8) : Nat) : Int) := by
  have h1 : 2 ^ (i % 8) < 256 := Nat.pow_lt_pow_right (n := 8) (by omega) (by omega)
  have h2 : ((2 : Int) ^ (i % 8) % 256) = ((2 ^ (i % 8) : Nat) : Int) := by
    rw [show ((2 : Int) ^ (i % 8)) = ((2 ^ (i % 8) : Nat) : Int) from by simp]
    generalize 2 ^ (i % 8) = y at h1
    omega
  rw [h2, u8_xor_nat x _ hx h1]

theorem grown_set {w w' : World} {g : Nat} (h : w.grownBy w' (some g)) (j : Nat) (v : Value) : w.grownBy (w'.setCell ⟨g, j, none⟩ v) (some g) :=
  ⟨h.os, h.tape, h.output, by simpa [World.setCell] using h.size, fun k hk hne => by
    rw [Below.heap_setCell _ _ _ _ (fun e => hne (by rw [e]))]; exact h.block k hk hne⟩

set_option maxHeartbeats 1000000 in
theorem turn_any (l : List Nat) (hl : ∀ x ∈ l, x < 256) (g n : Nat) (hn : l.length = n) (hn2 : n ≤ 140737488355328) (at_ m : Nat) (hat : at_ ≤ 8 * n) (hm : m < 4294967296) (w : World) (hg : w.heap[g]? = some (.cells (u8s l) 5 (0, 0))) :
    Calls Tryd.prog 25 #[.slice (some ⟨g, 0, none⟩) n n, .int .i64 at_, .int .u32 m] w fun e w' => e = .returned (.bool (turnK l at_ m 32).2) ∧ w'.heap[g]? = some (.cells (u8s (turnK l at_ m 32).1) 5 (0, 0)) ∧ w.grownBy w' (some g) := by
  have Hn := Lib.hid hn
  clear hn
  go_enter Tryd.func25, Tryd.ntmps25
  go_wp2_with fail
  go_loopw [7, 8] (fun v7 v8 wr => ∃ (k : Nat) (b : Bool), k ≤ 32 ∧ v8 = .int .i64 k ∧ v7 = .bool b ∧ (turnK l at_ m k).2 = b ∧ wr.heap[g]? = some (.cells (u8s (turnK l at_ m k).1) 5 (0, 0)) ∧ w.grownBy wr (some g)) (fun _ v8 _ => 32 - (intOf v8).toNat)
  case atStart => exact ⟨0, _, by omega, rfl, rfl, rfl, hg, World.grownBy.refl _ _⟩
  case round =>
    obtain ⟨k, b, hk, rfl, rfl, hb, hcur, hbel⟩ := hrel
    have Hcur := Lib.hid hcur
    have Hbel := Lib.hid hbel
    have HB := Lib.hid hb
    clear hbel hb
    by_cases hlt : k < 32
    · have e0 := bit_and m k hm
      have HS : Hid (turnK l at_ m (k + 1) = if m / 2 ^ k % 2 = 1 ∧ at_ + k < 8 * l.length then (turn1 (turnK l at_ m k).1 (at_ + k), true) else turnK l at_ m k) := rfl
      rcases Nat.mod_two_eq_zero_or_one (m / 2 ^ k) with h0 | h0
      · rw [h0] at e0
        rw [if_neg (by omega)] at HS
        clear hcur
        go_wp2_with fail
        go_roundw
        case rel => exact ⟨k + 1, b, by omega, by go_num, rfl, by rw [HS.out]; exact HB.out, by rw [HS.out]; exact Hcur.out, Hbel.out⟩
        case measure => simp [intOf]; omega
      · rw [h0] at e0
        by_cases hin : at_ + k < 8 * n
        · rw [if_pos ⟨h0, by rw [Hn.out]; exact hin⟩] at HS
          have hlen : (turnK l at_ m k).1.length = n := by rw [turnK_len, Hn.out]
          have hb1 := turnK_byte hl at_ m k
          generalize (turnK l at_ m k).1 = q at *
          have hxb := nth_lt hb1 (by omega) ((at_ + k) / 8)
          have hfr := frozen_of_row wr g ((at_ + k) / 8) _ _ hcur
          have hst : wr.cell? ⟨g, (at_ + k) / 8, none⟩ = some (.int .u8 (nth q ((at_ + k) / 8) : Nat)) := by
            rw [cell_of_row wr _ _ _ _ _ hcur]
            simpa [u8s] using vals_get .u8 q ((at_ + k) / 8) (by omega)
          have Hlen := Lib.hid hlen
          clear hcur hlen
          have e7 := bit_xor (nth q ((at_ + k) / 8)) (at_ + k) hxb
          go_wp2_with fail
          go_roundw
          case rel => exact ⟨k + 1, true, by omega, by go_num, rfl, by rw [HS.out], by rw [HS.out, heap_setCell_same _ _ _ _ _ _ Hcur.out]; rw [turn1_cells], grown_set Hbel.out _ _⟩
          case measure => simp [intOf]; omega
        · rw [if_neg (by rw [Hn.out]; omega)] at HS
          clear hcur
          go_wp2_with fail
          go_roundw
          case rel => exact ⟨k + 1, b, by omega, by go_num, rfl, by rw [HS.out]; exact HB.out, by rw [HS.out]; exact Hcur.out, Hbel.out⟩
          case measure => simp [intOf]; omega
    · have hk2 : k = 32 := by omega
      have H1 : Hid ((turnK l at_ m 32).2 = b) := by rw [← hk2]; exact HB.out
      have H2 : Hid (wr.heap[g]? = some (.cells (u8s (turnK l at_ m 32).1) 5 (0, 0))) := by rw [← hk2]; exact Hcur.out
      clear hcur HB Hcur
      go_wp2_with fail
      go_ret
      exact ⟨ret_bool (by rw [H1.out]), H2.out, Hbel.out⟩

end Go.Proofs.YtelhmddigogmgaaDoor
