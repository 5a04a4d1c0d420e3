/-
What follows of closed lines by the sum's algebra. Plain lists, no program.
-/
import Derived.Test.YtelhmddigogmgaaDoorSeals
import Derived.Test.YtelhmddigogmgaaDoorWLine
namespace Go.Proofs.YtelhmddigogmgaaDoor

theorem le_num (l : List Nat) (hl : ∀ x ∈ l, x < 256) : le l.length (num l) = l := by
  induction l with
  | nil => rfl
  | cons c l ih =>
    have h1 := ih fun x hx => hl x (List.mem_cons_of_mem _ hx)
    have h2 := hl c List.mem_cons_self
    simp only [List.length_cons, num, le]
    rw [show (c + 256 * num l) % 256 = c from by omega, show (c + 256 * num l) / 256 = num l from by omega, h1]
theorem num_inj {a b : List Nat} (hl : a.length = b.length) (ha : ∀ x ∈ a, x < 256) (hb : ∀ x ∈ b, x < 256) (h : num a = num b) : a = b := by
  rw [← le_num a ha, ← le_num b hb, h, hl]

theorem flip_xor (s : Nat) : flip s ^^^ s = ones := by rw [flip_eq, Nat.xor_assoc, Nat.xor_self, Nat.xor_zero]
theorem ones_lt : ones < 2 ^ 32 := by decide
theorem residue : flip (fs 32 ones) = 558161692 := by kernel_rfl
theorem take_byte {l : List Nat} (hl : ∀ x ∈ l, x < 256) (n : Nat) : ∀ x ∈ l.take n, x < 256 := fun x h => hl x (List.mem_of_mem_take h)
theorem drop_byte {l : List Nat} (hl : ∀ x ∈ l, x < 256) (n : Nat) : ∀ x ∈ l.drop n, x < 256 := fun x h => hl x (List.mem_of_mem_drop h)
theorem sum60_lt {l : List Nat} (hl : ∀ x ∈ l, x < 256) : sumN (l.take 60) < 4294967296 := sumOnN_lt 0 _ (by omega) (take_byte hl 60)

/-- the sum of what has its own sum behind it is one number -/
theorem closed_sum {l : List Nat} (hl : ∀ x ∈ l, x < 256) : sumN (closeN l) = 558161692 := by
  unfold closeN
  have h1 := sum60_lt hl
  have h2 := sumOnN_append 0 (l.take 60) (le 4 (sumN (l.take 60)))
  rw [show sumN (l.take 60 ++ le 4 (sumN (l.take 60))) = sumOnN 0 (l.take 60 ++ le 4 (sumN (l.take 60))) from rfl, ← h2, show sumOnN 0 (l.take 60) = sumN (l.take 60) from rfl]
  generalize sumN (l.take 60) = s at *
  unfold sumOnN
  rw [crc_eq _ (le_byte 4 s), num_le 4 s (by omega), le_len, flip_xor]
  exact residue
/-- and what has that sum is closed -/
theorem sum_closed {l : List Nat} (hn : l.length = 64) (hl : ∀ x ∈ l, x < 256) (h : sumN l = 558161692) : closeN l = l := by
  have h1 := sum60_lt hl
  have h2 := sumOnN_append 0 (l.take 60) (l.drop 60)
  rw [List.take_append_drop, show sumOnN 0 l = sumN l from rfl, h, show sumOnN 0 (l.take 60) = sumN (l.take 60) from rfl] at h2
  unfold closeN
  have hd := drop_byte hl 60
  have hdl : (l.drop 60).length = 4 := by simp [hn]
  conv => rhs; rw [← List.take_append_drop 60 l]
  congr 1
  generalize sumN (l.take 60) = s at *
  generalize l.drop 60 = b at *
  unfold sumOnN at h2
  rw [crc_eq _ hd, hdl, ← residue] at h2
  have h3 := flip_inj h2
  have hb := num_lt b hd
  rw [hdl] at hb
  have h4 := fs_inj 32 (flip s ^^^ num b) ones (Nat.xor_lt_two_pow (n := 32) (flip_lt s h1) (by omega)) ones_lt h3
  have h5 : num b = s := by
    have h6 := congrArg (flip s ^^^ ·) h4
    simp only [xor_xor] at h6
    rw [h6, ← flip_xor s, xor_xor]
  rw [← h5, ← hdl, le_num b hd]
theorem close_close (l : List Nat) (hn : l.length = 64) : closeN (closeN l) = closeN l := by
  have e : (closeN l).take 60 = l.take 60 := by
    unfold closeN
    rw [List.take_append_of_le_length (by simp [hn]), List.take_take]
    simp
  unfold closeN at e ⊢
  rw [e]
theorem whole_close (l : List Nat) (hn : l.length = 64) : wholeB (closeN l) = true := by
  unfold wholeB
  rw [close_close l hn]
  simp
theorem whole_sum {l : List Nat} (hn : l.length = 64) (hl : ∀ x ∈ l, x < 256) : decide (sumN l = 558161692) = decide (closeN l = l) := by
  rw [decide_eq_decide]
  exact ⟨sum_closed hn hl, fun h => by rw [← h]; exact closed_sum hl⟩
theorem close_head (l : List Nat) (hn : l.length = 64) (k : Nat) (hk : k < 60) : nth (closeN l) k = nth l k := by
  unfold closeN nth
  simp only [List.getD_eq_getElem?_getD]
  rw [List.getElem?_append_left (by simp [hn]; omega), List.getElem?_take, if_pos hk]

/-- a whole line, spoilt within 32 bits, is whole no more -/
theorem spoilt {l : List Nat} (hn : l.length = 64) (hl : ∀ x ∈ l, x < 256) (at_ m : Nat) (hat : at_ ≤ 512) (h : (turnK (closeN l) at_ m 32).2 = true) : wholeB (turnK (closeN l) at_ m 32).1 = false := by
  have hb := closeN_byte hl
  have hlen := closeN_len l hn
  have h1 := sum_tells (closeN l) hb at_ m (by omega) h
  rw [closed_sum hl] at h1
  have h2 := turnK_byte hb at_ m 32
  have h3 : (turnK (closeN l) at_ m 32).1.length = 64 := by rw [turnK_len, hlen]
  generalize (turnK (closeN l) at_ m 32).1 = x at *
  unfold wholeB
  rw [← whole_sum h3 h2]
  simpa using h1
theorem turn_back {l : List Nat} (hl : ∀ x ∈ l, x < 256) (at_ m : Nat) : (turnK (turnK l at_ m 32).1 at_ m 32).1 = l := by
  have h1 := turnK_byte hl at_ m 32
  refine num_inj (by rw [turnK_len, turnK_len]) (turnK_byte h1 at_ m 32) hl ?_
  rw [num_turnK _ h1, num_turnK _ hl, turnK_len, Nat.xor_assoc, Nat.xor_self, Nat.xor_zero]

end Go.Proofs.YtelhmddigogmgaaDoor
