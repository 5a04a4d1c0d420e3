/-
What the sums of package codec compute: SumOn and Sum of any bytes, over the table of sixteen.
-/
import Derived.Test.YtelhmddigogmgaaDoorBase
import Derived.Test.YtelhmddigogmgaaDoorCrc
namespace Go.Proofs.YtelhmddigogmgaaDoor
open Go.RowKit

def tb (k : Nat) : Nat := table.getD k 0
theorem tb_lt : ∀ k, k < 16 → tb k < 4294967296 := by decide
/-- the table, as the program's text lays it -/
def Tab (w : World) : Prop := ∀ k, k < 16 → w.cell? ⟨0, k, none⟩ = some (.int .u32 (tb k : Nat))
theorem Tab.below {w w' : World} (h : Tab w) (hb : Below w.heap.size w w') : Tab w' := fun k hk => cell_below hb (Nat.le_refl _) (h k hk)

theorem Tab.drewN {w : World} (h : Tab w) (n : Nat) : Tab (w.drewN n) := h.below (below_drewN (Below.refl _ _) n)
theorem and15 (x : Nat) (h : x < 4294967296) : bits .and .u32 (x : Int) 15 = ((x % 16 : Nat) : Int) := by
  rw [show (15 : Int) = ((15 : Nat) : Int) from rfl, u32_and_nat x 15 h (by omega), show 15 = 2 ^ 4 - 1 from rfl, Nat.and_two_pow_sub_one_eq_mod]
theorem nib_lt (r : Nat) (h : r < 4294967296) : nib r < 4294967296 := Nat.xor_lt_two_pow (n := 32) (tb_lt _ (by omega)) (by omega)
theorem nib_bits (r : Nat) (h : r < 4294967296) : bits .xor .u32 (tb (r % 16) : Int) ((r : Int) / 16) = (nib r : Int) := by
  rw [show (r : Int) / 16 = ((r / 16 : Nat) : Int) from by simp, u32_xor_nat _ _ (tb_lt _ (by omega)) (by omega)]; rfl

/-- all bits turned -/
def ones : Nat := 4294967295
def flip (s : Nat) : Nat := ones ^^^ s
theorem flip_lt (s : Nat) (h : s < 4294967296) : flip s < 4294967296 := Nat.xor_lt_two_pow (n := 32) (by decide) (by omega)
theorem flip_bits (s : Nat) (h : s < 4294967296) : bits .xor .u32 IntKind.u32.max (s : Int) = (flip s : Int) := by
  rw [show IntKind.u32.max = ((ones : Nat) : Int) from by decide]
  exact u32_xor_nat ones s (by decide) h

def sumOnN (s : Nat) (l : List Nat) : Nat := flip (crc (flip s) l)
def sumN (l : List Nat) : Nat := sumOnN 0 l
theorem sumOnN_lt (s : Nat) (l : List Nat) (hs : s < 4294967296) (hl : ∀ x ∈ l, x < 256) : sumOnN s l < 4294967296 := flip_lt _ (crc_lt l hl _ (flip_lt s hs))

set_option maxHeartbeats 400000 in
theorem sumOn_any (s : Nat) (hs : s < 4294967296) (l : List Nat) (hx : ∀ x ∈ l, x < 256) (A : Option Addr) (n c : Nat) (w : World) (hr : Rd w .u8 A n c l) (ht : Tab w) :
    Calls Tryd.prog 23 #[.int .u32 s, .slice A n c] w fun e w' => e = .returned (.int .u32 (sumOnN s l : Nat)) ∧ w = w' := by
  have e0 := flip_bits s hs
  have hs1 := flip_lt s hs
  have hn1 := hr.lt
  have hlc := hr.le
  have Hl := Lib.hid hr.len
  have Hr : Hid (0 < n → _) := Lib.hid hr.at_
  clear hr
  have HS : Hid (sumOnN s l = flip (crc (flip s) l)) := rfl
  generalize flip s = s0 at *
  go_enter Tryd.func23, Tryd.ntmps23
  go_wp2
  go_loop [5, 12] (fun v5 v12 => ∃ k r : Nat, k ≤ n ∧ v12 = .int .i64 k ∧ r < 4294967296 ∧ v5 = .int .u32 r ∧ r = crc s0 (l.take k)) (fun _ v12 => n - (intOf v12).toNat)
  case atStart => exact ⟨0, _, Nat.zero_le _, rfl, hs1, rfl, rfl⟩
  case round =>
    obtain ⟨k, r, hk, rfl, hr0, rfl, hrk⟩ := hrel
    have Hrk := Lib.hid hrk
    clear hrk
    by_cases hlt : k < n
    · obtain ⟨b, off, rfl, hcc⟩ := Hr.out (by omega)
      have hc := hcc k hlt
      clear hcc Hr
      have hcb := nth_lt hx (by omega) k
      obtain ⟨c0, h0⟩ : ∃ c0, c0 = nth l k := ⟨_, rfl⟩
      rw [← h0] at hc hcb
      have H0 := Lib.hid h0
      clear h0
      have e1 : bits .xor .u32 (r : Int) (c0 : Int) = ((r ^^^ c0 : Nat) : Int) := u32_xor_nat r c0 hr0 (by omega)
      have hl1 : r ^^^ c0 < 4294967296 := Nat.xor_lt_two_pow (n := 32) (by omega) (by omega)
      generalize hx1 : r ^^^ c0 = x1 at e1 hl1
      have H1 := Lib.hid hx1
      clear hx1
      have e2 := and15 x1 hl1
      have e3 := nib_bits x1 hl1
      have hl2 := nib_lt x1 hl1
      have hi1 : x1 % 16 < 16 := by omega
      have ht1 := ht (x1 % 16) hi1
      generalize hx2 : nib x1 = x2 at e3 hl2
      have H2 := Lib.hid hx2
      clear hx2
      have e4 := and15 x2 hl2
      have e5 := nib_bits x2 hl2
      have hl3 := nib_lt x2 hl2
      have hi2 : x2 % 16 < 16 := by omega
      have ht2 := ht (x2 % 16) hi2
      generalize hx3 : nib x2 = x3 at e5 hl3
      have H3 := Lib.hid hx3
      clear hx3
      generalize x1 % 16 = i1 at *
      generalize x2 % 16 = i2 at *
      clear ht
      go_wp2
      go_round
      case rel => exact ⟨k + 1, x3, by omega, by go_num, hl3, rfl, by rw [take_succ_nth l k (by rw [Hl.out]; exact hlt), crc_snoc, ← H0.out, ← Hrk.out, ← byte_table, H1.out, H2.out, H3.out]⟩
      case measure => simp [intOf]; omega
    · have hkn : k = l.length := by rw [Hl.out]; omega
      have e6 := flip_bits r hr0
      have HF : Hid (sumOnN s l = flip r) := by rw [HS.out, Hrk.out, hkn, List.take_length]; rfl
      have hge : n ≤ k := by omega
      clear ht Hr Hrk HS hkn hlt Hl
      go_wp2
      go_ret
      exact ⟨ret_int (by rw [HF.out]), rfl⟩

set_option maxHeartbeats 400000 in
theorem sum_any (l : List Nat) (hx : ∀ x ∈ l, x < 256) (A : Option Addr) (n c : Nat) (w : World) (hr : Rd w .u8 A n c l) (ht : Tab w) :
    Calls Tryd.prog 22 #[.slice A n c] w fun e w' => e = .returned (.int .u32 (sumN l : Nat)) ∧ w = w' := by
  have h := sumOn_any 0 (by omega) l hx A n c w hr ht
  have H := Lib.hid h
  clear h hr ht
  go_enter Tryd.func22, Tryd.ntmps22
  go_wp2_with fail
  refine H.out.mono ?_
  rintro e w' ⟨rfl, rfl⟩
  go_wp2_with fail
  go_ret
  exact ⟨rfl, rfl⟩

/-- do n bytes from at on lie in so many? -/
def roomB (len : Nat) (at_ n : Int) : Bool := decide (0 ≤ at_ ∧ at_ ≤ (len : Int) ∧ n ≤ (len : Int) - at_)

set_option maxHeartbeats 400000 in
theorem room_any (len : Nat) (A : Option Addr) (c : Nat) (at_ n : Int) (w : World) (hl : len ≤ 140737488355328) (h1 : -9223372036854775808 ≤ at_) (h2 : at_ ≤ 9223372036854775807) :
    Calls Tryd.prog 43 #[.slice A len c, .int .i64 at_, .int .i64 n] w fun e w' => e = .returned (.bool (roomB len at_ n)) ∧ w = w' := by
  by_cases ha : 0 ≤ at_
  · by_cases hb : at_ ≤ (len : Int)
    · by_cases hc : n ≤ (len : Int) - at_
      · have hf : roomB len at_ n = true := by simp [roomB, ha, hb, hc]
        rw [hf]; clear hf
        go_enter Tryd.func43, Tryd.ntmps43
        go_wp2
        go_ret
        exact ⟨by simp, rfl⟩
      · have hf : roomB len at_ n = false := by simp [roomB, ha, hb, hc]
        rw [hf]; clear hf
        go_enter Tryd.func43, Tryd.ntmps43
        go_wp2
        go_ret
        exact ⟨by simp, rfl⟩
    · have hf : roomB len at_ n = false := by simp [roomB, hb]
      rw [hf]; clear hf
      go_enter Tryd.func43, Tryd.ntmps43
      go_wp2
      go_ret
      exact ⟨by simp, rfl⟩
  · have hf : roomB len at_ n = false := by simp [roomB, ha]
    rw [hf]; clear hf
    go_enter Tryd.func43, Tryd.ntmps43
    go_wp2
    go_ret
    exact ⟨by simp, rfl⟩

end Go.Proofs.YtelhmddigogmgaaDoor
