/-
The sum of bytes as plain arithmetic on natural numbers: one bit at a time, by nibbles, and of whole numbers. No program, no memory.
-/
namespace Go.Proofs.YtelhmddigogmgaaDoor

/-- one bit's step of the register (of any width: what stands above is shifted down) -/
def f (r : Nat) : Nat := (r >>> 1) ^^^ (if r % 2 = 1 then 0xEDB88320 else 0)

def fs : Nat → Nat → Nat
  | 0, r => r
  | n + 1, r => fs n (f r)

theorem fs_add (m n r : Nat) : fs (m + n) r = fs n (fs m r) := by
  induction m generalizing r with
  | zero => simp [fs]
  | succ m ih => rw [show m + 1 + n = (m + n) + 1 from by omega]; simp [fs, ih]

theorem xor_mod2 (a b : Nat) : (a ^^^ b) % 2 = (a % 2) ^^^ (b % 2) := by
  have := Nat.xor_mod_two_pow (a := a) (b := b) (n := 1); simpa using this

theorem f_xor (a b : Nat) : f (a ^^^ b) = f a ^^^ f b := by
  unfold f
  rw [Nat.shiftRight_xor_distrib, xor_mod2]
  rcases Nat.mod_two_eq_zero_or_one a with ha | ha <;> rcases Nat.mod_two_eq_zero_or_one b with hb | hb <;> rw [ha, hb] <;> simp
  · rw [Nat.xor_assoc]
  · rw [Nat.xor_assoc, Nat.xor_assoc]; congr 1; rw [Nat.xor_comm]
  · rw [show a >>> 1 ^^^ 3988292384 ^^^ (b >>> 1 ^^^ 3988292384) = a >>> 1 ^^^ (3988292384 ^^^ 3988292384) ^^^ b >>> 1 from by ac_rfl]; simp

theorem f_zero : f 0 = 0 := by decide

theorem fs_xor (n a b : Nat) : fs n (a ^^^ b) = fs n a ^^^ fs n b := by
  induction n generalizing a b with
  | zero => rfl
  | succ n ih => simp [fs, f_xor, ih]

theorem fs_zero (n : Nat) : fs n 0 = 0 := by
  induction n with
  | zero => rfl
  | succ n ih => simp [fs, f_zero, ih]

theorem f_even (x : Nat) : f (x * 2) = x := by
  unfold f; rw [if_neg (by omega)]; simp [Nat.shiftRight_eq_div_pow]

theorem fs_shift (n x : Nat) : fs n (x * 2 ^ n) = x := by
  induction n generalizing x with
  | zero => simp [fs]
  | succ n ih => simp only [fs]; rw [show x * 2 ^ (n + 1) = (x * 2 ^ n) * 2 from by rw [Nat.pow_succ, Nat.mul_assoc], f_even, ih]

theorem f_lt (r : Nat) (h : r < 2 ^ 32) : f r < 2 ^ 32 := by
  unfold f
  refine Nat.xor_lt_two_pow ?_ ?_
  · rw [Nat.shiftRight_eq_div_pow]; omega
  · split <;> decide

theorem fs_lt (n r : Nat) (h : r < 2 ^ 32) : fs n r < 2 ^ 32 := by
  induction n generalizing r with
  | zero => exact h
  | succ n ih => exact ih _ (f_lt r h)

theorem f_eq_zero (r : Nat) (h : r < 2 ^ 32) (h0 : f r = 0) : r = 0 := by
  unfold f at h0
  have hs : r >>> 1 < 2 ^ 31 := by rw [Nat.shiftRight_eq_div_pow]; omega
  split at h0
  · rename_i h1
    have : r >>> 1 = 0xEDB88320 := by
      have := congrArg (· ^^^ 0xEDB88320) h0
      simpa [Nat.xor_assoc] using this
    rw [this] at hs
    exact absurd hs (by decide)
  · have hz : r >>> 1 = 0 := by simpa using h0
    rw [Nat.shiftRight_eq_div_pow] at hz
    omega

theorem fs_eq_zero (n r : Nat) (h : r < 2 ^ 32) (h0 : fs n r = 0) : r = 0 := by
  induction n generalizing r with
  | zero => exact h0
  | succ n ih => exact f_eq_zero r h (ih _ (f_lt r h) h0)

theorem xor_eq_zero {a b : Nat} (h : a ^^^ b = 0) : a = b := by
  have := congrArg (· ^^^ b) h
  simpa [Nat.xor_assoc] using this

theorem fs_inj (n a b : Nat) (ha : a < 2 ^ 32) (hb : b < 2 ^ 32) (h : fs n a = fs n b) : a = b := by
  refine xor_eq_zero (fs_eq_zero n _ (Nat.xor_lt_two_pow ha hb) ?_)
  rw [fs_xor, h]; simp

/-- what four steps make of four bits -/
def table : List Nat := [0x00000000, 0x1db71064, 0x3b6e20c8, 0x26d930ac, 0x76dc4190, 0x6b6b51f4, 0x4db26158, 0x5005713c,
  0xedb88320, 0xf00f9344, 0xd6d6a3e8, 0xcb61b38c, 0x9b64c2b0, 0x86d3d2d4, 0xa00ae278, 0xbdbdf21c]

theorem table_eq : ∀ k < 16, table.getD k 0 = fs 4 k := by decide

theorem split16 (r : Nat) : r = (r % 16) ^^^ (r / 16 * 2 ^ 4) := by
  apply Nat.eq_of_testBit_eq
  intro i
  rw [Nat.testBit_xor, show r % 16 = r % 2 ^ 4 from rfl, Nat.testBit_mod_two_pow, Nat.testBit_mul_two_pow, show r / 16 = r / 2 ^ 4 from rfl, Nat.testBit_div_two_pow]
  by_cases hi : 4 ≤ i
  · rw [show i - 4 + 4 = i from by omega]; have : ¬ i < 4 := by omega
    simp [hi, this]
  · have : i < 4 := by omega
    simp [hi, this]

theorem nibble (r : Nat) : table.getD (r % 16) 0 ^^^ (r / 16) = fs 4 r := by
  conv => rhs; rw [split16 r]
  rw [fs_xor, fs_shift, table_eq _ (Nat.mod_lt _ (by decide))]

/-- a byte's step -/
def byte (r c : Nat) : Nat := fs 8 (r ^^^ c)

def crc : Nat → List Nat → Nat
  | r, [] => r
  | r, c :: l => crc (byte r c) l

/-- the number whose bytes they are, the least first -/
def num : List Nat → Nat
  | [] => 0
  | c :: l => c + 256 * num l

theorem num_lt (l : List Nat) (h : ∀ c ∈ l, c < 256) : num l < 2 ^ (8 * l.length) := by
  induction l with
  | nil => simp [num]
  | cons c l ih =>
    have h1 := ih fun x hx => h x (List.mem_cons_of_mem _ hx)
    have h2 := h c List.mem_cons_self
    simp only [num, List.length_cons]
    rw [show 8 * (l.length + 1) = 8 + 8 * l.length from by omega, Nat.pow_add]
    omega

theorem xor_byte (c m : Nat) (h : c < 256) : c + 256 * m = c ^^^ (m * 2 ^ 8) := by
  apply Nat.eq_of_testBit_eq
  intro i
  rw [show c + 256 * m = 2 ^ 8 * m + c from by omega, Nat.testBit_two_pow_mul_add _ (by omega), Nat.testBit_xor, Nat.testBit_mul_two_pow]
  by_cases hi : i < 8
  · have : ¬ 8 ≤ i := by omega
    simp [hi, this]
  · have h8 : 8 ≤ i := by omega
    have hz : c.testBit i = false := Nat.testBit_lt_two_pow (Nat.lt_of_lt_of_le (by omega : c < 2 ^ 8) (Nat.pow_le_pow_right (by omega) h8))
    simp [hi, h8, hz]

theorem crc_eq (l : List Nat) (h : ∀ c ∈ l, c < 256) : ∀ r, crc r l = fs (8 * l.length) (r ^^^ num l) := by
  induction l with
  | nil => intro r; simp [crc, num, fs]
  | cons c l ih =>
    intro r
    have h1 := ih fun x hx => h x (List.mem_cons_of_mem _ hx)
    have h2 := h c List.mem_cons_self
    simp only [crc, num, List.length_cons]
    rw [h1, show 8 * (l.length + 1) = 8 + 8 * l.length from by omega, fs_add, xor_byte c _ h2, ← Nat.xor_assoc, fs_xor 8, fs_shift]
    rfl

theorem crc_append (a b : List Nat) (r : Nat) : crc r (a ++ b) = crc (crc r a) b := by
  induction a generalizing r with
  | nil => rfl
  | cons c a ih => simp [crc, ih]

theorem crc_snoc (a : List Nat) (c r : Nat) : crc r (a ++ [c]) = byte (crc r a) c := by rw [crc_append]; rfl

theorem byte_lt (r c : Nat) (hr : r < 2 ^ 32) (hc : c < 256) : byte r c < 2 ^ 32 :=
  fs_lt _ _ (Nat.xor_lt_two_pow hr (by omega))

theorem crc_lt (l : List Nat) (h : ∀ c ∈ l, c < 256) : ∀ r, r < 2 ^ 32 → crc r l < 2 ^ 32 := by
  induction l with
  | nil => intro r hr; exact hr
  | cons c l ih => intro r hr; exact ih (fun x hx => h x (List.mem_cons_of_mem _ hx)) _ (byte_lt r c hr (h c List.mem_cons_self))

/-- four bits' step, as by the table of sixteen -/
def nib (r : Nat) : Nat := table.getD (r % 16) 0 ^^^ (r / 16)

/-- the byte's step, as by the table of sixteen -/
theorem byte_table (r c : Nat) : nib (nib (r ^^^ c)) = byte r c := by
  unfold byte nib
  rw [show 8 = 4 + 4 from rfl, fs_add, ← nibble, ← nibble]

/-- differing within a run of 32 bits -/
theorem burst (n at_ m : Nat) (hm : m < 2 ^ 32) (hm0 : m ≠ 0) (X Y r : Nat) (hat : at_ ≤ n) (hd : X ^^^ Y = m * 2 ^ at_) :
    fs n (r ^^^ X) ≠ fs n (r ^^^ Y) := by
  intro h
  have h0 : fs n (X ^^^ Y) = 0 := by
    rw [show X ^^^ Y = (r ^^^ X) ^^^ (r ^^^ Y) from by
      rw [show (r ^^^ X) ^^^ (r ^^^ Y) = (r ^^^ r) ^^^ (X ^^^ Y) from by ac_rfl]; simp, fs_xor, h]; simp
  rw [hd, show n = at_ + (n - at_) from by omega, fs_add, fs_shift] at h0
  exact hm0 (fs_eq_zero _ _ hm h0)

end Go.Proofs.YtelhmddigogmgaaDoor
