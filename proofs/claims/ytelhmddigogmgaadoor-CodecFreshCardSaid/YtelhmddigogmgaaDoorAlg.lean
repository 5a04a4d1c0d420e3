/-
What follows of the sum by its algebra: it is linear, and lists that differ within a run of 32 bits have unlike sums. Plain lists, no program.
-/
import Derived.Test.YtelhmddigogmgaaDoorWTurn
namespace Go.Proofs.YtelhmddigogmgaaDoor

theorem xor_xor (m s : Nat) : m ^^^ (m ^^^ s) = s := by rw [← Nat.xor_assoc, Nat.xor_self, Nat.zero_xor]
theorem flip_eq (s : Nat) : flip s = ones ^^^ s := rfl
theorem flip_flip (s : Nat) : flip (flip s) = s := by rw [flip_eq, flip_eq, xor_xor]
theorem sumOnN_nil (s : Nat) : sumOnN s [] = s := by rw [sumOnN, crc, flip_flip]
/-- a sum goes on -/
theorem sumOnN_append (s : Nat) (a b : List Nat) : sumOnN (sumOnN s a) b = sumOnN s (a ++ b) := by
  unfold sumOnN
  rw [flip_flip, crc_append]
theorem sumOnN_cut (l : List Nat) (i : Nat) : sumOnN (sumN (l.take i)) (l.drop i) = sumN l := by
  unfold sumN
  rw [sumOnN_append, List.take_append_drop]

theorem range_nth (l : List Nat) : padN l l.length = l := by
  apply List.ext_getElem (by simp [padN])
  intro i h1 h2
  simp [padN, nth, h2]

theorem xor3 (a b c x y z : Nat) : (a ^^^ b ^^^ c) ^^^ (x ^^^ y ^^^ z) = (a ^^^ x) ^^^ (b ^^^ y) ^^^ (c ^^^ z) := by ac_rfl
theorem same3 (r : Nat) : r ^^^ r ^^^ r = r := by rw [Nat.xor_self, Nat.zero_xor]
theorem crc_linear (r : Nat) (f g h : Nat → Nat) (n : Nat) :
    crc r ((List.range n).map fun j => f j ^^^ g j ^^^ h j) = crc r ((List.range n).map f) ^^^ crc r ((List.range n).map g) ^^^ crc r ((List.range n).map h) := by
  induction n with
  | zero => simp only [List.range_zero, List.map_nil, crc]; rw [same3]
  | succ n ih =>
    simp only [List.range_succ, List.map_append, List.map_cons, List.map_nil, crc_snoc, ih, byte]
    rw [xor3, fs_xor, fs_xor]
/-- the sum is linear, of three lists of one length -/
theorem sum_linear (a b c : List Nat) (n : Nat) (ha : a.length = n) (hb : b.length = n) (hc : c.length = n) :
    sumN ((List.range n).map fun j => nth a j ^^^ nth b j ^^^ nth c j) = sumN a ^^^ sumN b ^^^ sumN c := by
  have ea := range_nth a
  have eb := range_nth b
  have ec := range_nth c
  rw [ha] at ea; rw [hb] at eb; rw [hc] at ec
  unfold padN at ea eb ec
  unfold sumN sumOnN
  rw [crc_linear, ea, eb, ec]
  generalize crc (flip 0) a = x
  generalize crc (flip 0) b = y
  generalize crc (flip 0) c = z
  rw [flip_eq, flip_eq, flip_eq, flip_eq]
  conv => lhs; rw [← same3 ones]
  rw [xor3]

theorem num_set (l : List Nat) (hl : ∀ x ∈ l, x < 256) (j c : Nat) (hj : j < l.length) (hc : c < 256) : num (l.set j (nth l j ^^^ c)) = num l ^^^ (c * 2 ^ (8 * j)) := by
  induction l generalizing j with
  | nil => simp at hj
  | cons a l ih =>
    have ha := hl a List.mem_cons_self
    cases j with
    | zero =>
      have hx : a ^^^ c < 256 := Nat.xor_lt_two_pow (n := 8) ha hc
      simp only [List.set_cons_zero, num]
      rw [show nth (a :: l) 0 = a from rfl, xor_byte _ _ hx, xor_byte a _ ha, Nat.mul_zero, Nat.pow_zero, Nat.mul_one]
      ac_rfl
    | succ j =>
      have h1 := ih (fun x hx => hl x (List.mem_cons_of_mem _ hx)) j (by simpa using hj)
      simp only [List.set_cons_succ, num]
      rw [show nth (a :: l) (j + 1) = nth l j from by simp [nth], xor_byte a _ ha, xor_byte a _ ha, h1, Nat.xor_assoc]
      congr 1
      have h2 := Nat.shiftLeft_xor_distrib (a := num l) (b := c * 2 ^ (8 * j)) (i := 8)
      rw [Nat.shiftLeft_eq, Nat.shiftLeft_eq, Nat.shiftLeft_eq] at h2
      rw [h2, Nat.mul_assoc, ← Nat.pow_add, show 8 * j + 8 = 8 * (j + 1) from by omega]

theorem num_turn1 (l : List Nat) (hl : ∀ x ∈ l, x < 256) (i : Nat) (hi : i < 8 * l.length) : num (turn1 l i) = num l ^^^ 2 ^ i := by
  unfold turn1
  rw [num_set l hl _ _ (by omega) (Nat.pow_lt_pow_right (n := 8) (by omega) (by omega)), ← Nat.pow_add, show i % 8 + 8 * (i / 8) = i from by omega]

/-- what the mask's first k bits turn, of so many bits -/
def maskK (at_ m N : Nat) : Nat → Nat
  | 0 => 0
  | k + 1 => if m / 2 ^ k % 2 = 1 ∧ at_ + k < N then maskK at_ m N k ^^^ 2 ^ (at_ + k) else maskK at_ m N k
theorem num_turnK (l : List Nat) (hl : ∀ x ∈ l, x < 256) (at_ m k : Nat) : num (turnK l at_ m k).1 = num l ^^^ maskK at_ m (8 * l.length) k := by
  induction k with
  | zero => simp [turnK, maskK]
  | succ k ih =>
    simp only [turnK, maskK]
    by_cases h : m / 2 ^ k % 2 = 1 ∧ at_ + k < 8 * l.length
    · rw [if_pos h, if_pos h, num_turn1 _ (turnK_byte hl at_ m k) _ (by rw [turnK_len]; exact h.2), ih, Nat.xor_assoc]
    · rw [if_neg h, if_neg h, ih]
/-- the mask's bits below N, from 0 on -/
def lowK (at_ m N : Nat) : Nat → Nat
  | 0 => 0
  | k + 1 => if m / 2 ^ k % 2 = 1 ∧ at_ + k < N then lowK at_ m N k ^^^ 2 ^ k else lowK at_ m N k
theorem lowK_lt (at_ m N k : Nat) : lowK at_ m N k < 2 ^ k := by
  induction k with
  | zero => simp [lowK]
  | succ k ih =>
    have h1 : lowK at_ m N k < 2 ^ (k + 1) := Nat.lt_of_lt_of_le ih (Nat.pow_le_pow_right (by omega) (by omega))
    simp only [lowK]
    split
    · exact Nat.xor_lt_two_pow h1 (Nat.pow_lt_pow_right (by omega) (by omega))
    · exact h1
theorem maskK_eq (at_ m N k : Nat) : maskK at_ m N k = lowK at_ m N k * 2 ^ at_ := by
  induction k with
  | zero => simp [maskK, lowK]
  | succ k ih =>
    simp only [maskK, lowK]
    split
    · have h2 := Nat.shiftLeft_xor_distrib (a := lowK at_ m N k) (b := 2 ^ k) (i := at_)
      rw [Nat.shiftLeft_eq, Nat.shiftLeft_eq, Nat.shiftLeft_eq] at h2
      rw [h2, ih, ← Nat.pow_add, Nat.add_comm k at_]
    · exact ih
theorem turnK_some (l : List Nat) (at_ m k : Nat) : (turnK l at_ m k).2 = true ↔ lowK at_ m (8 * l.length) k ≠ 0 := by
  induction k with
  | zero => simp [turnK, lowK]
  | succ k ih =>
    simp only [turnK, lowK]
    by_cases h : m / 2 ^ k % 2 = 1 ∧ at_ + k < 8 * l.length
    · rw [if_pos h, if_pos h]
      simp only [true_iff]
      intro h0
      have h1 := xor_eq_zero h0
      have h2 := lowK_lt at_ m (8 * l.length) k
      omega
    · rw [if_neg h, if_neg h]; exact ih
theorem flip_inj {a b : Nat} (h : flip a = flip b) : a = b := by
  have := congrArg flip h
  rwa [flip_flip, flip_flip] at this
theorem flip_zero : flip 0 = ones := by decide

/-- bytes that differ in the bits of a mask have unlike sums -/
theorem sum_tells (l : List Nat) (hl : ∀ x ∈ l, x < 256) (at_ m : Nat) (hat : at_ ≤ 8 * l.length) (h : (turnK l at_ m 32).2 = true) : sumN (turnK l at_ m 32).1 ≠ sumN l := by
  intro hs
  unfold sumN sumOnN at hs
  have h1 := flip_inj hs
  rw [crc_eq _ (turnK_byte hl at_ m 32), crc_eq _ hl, turnK_len] at h1
  have h2 := (turnK_some l at_ m 32).1 h
  refine burst (8 * l.length) at_ (lowK at_ m (8 * l.length) 32) (lowK_lt _ _ _ _) h2 (num (turnK l at_ m 32).1) (num l) (flip 0) hat ?_ h1
  rw [num_turnK l hl, maskK_eq]
  generalize num l = x
  generalize lowK at_ m (8 * l.length) 32 * 2 ^ at_ = y
  rw [Nat.xor_comm x y, Nat.xor_assoc, Nat.xor_self, Nat.xor_zero]

end Go.Proofs.YtelhmddigogmgaaDoor
