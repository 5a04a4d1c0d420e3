/-
What lay, check, Seal and Unseal of package codec compute.
-/
import Derived.Test.YtelhmddigogmgaaDoorWSum
import Derived.Deep.QuietTactic
import Derived.BigQuiet
namespace Go.Proofs.YtelhmddigogmgaaDoor
open Go.RowKit

/-- a number's n bytes, the least first -/
def le : Nat → Nat → List Nat
  | 0, _ => []
  | n + 1, v => v % 256 :: le n (v / 256)

theorem le8 (v : Nat) (hv : v < 18446744073709551616) : u8s (le 8 v) = #[.int .u8 ((v : Int) % 256), .int .u8 ((v : Int) / 256 % 256), .int .u8 ((v : Int) / 65536 % 256), .int .u8 ((v : Int) / 16777216 % 256),
    .int .u8 ((v : Int) / 4294967296 % 256), .int .u8 ((v : Int) / 1099511627776 % 256), .int .u8 ((v : Int) / 281474976710656 % 256), .int .u8 ((v : Int) / 72057594037927936)] := by
  have h : v / 72057594037927936 % 256 = v / 72057594037927936 := by omega
  simp only [u8s, vals, le, List.map_cons, List.map_nil, Nat.div_div_eq_div_mul, Nat.reduceMul, h]
  simp

set_option maxHeartbeats 400000 in
theorem lay_any (v : Nat) (hv : v < 18446744073709551616) (w : World) :
    Calls Tryd.prog 44 #[.int .u64 v] w fun e w' => e = .returned (.agg (u8s (le 8 v))) ∧ Below w.heap.size w w' := by
  have H := Lib.hid (le8 v hv)
  go_enter Tryd.func44, Tryd.ntmps44
  go_wp2
  go_rounds 9
  go_returns
  exact ⟨by rw [H.out], by go_grown⟩

theorem le_len (n v : Nat) : (le n v).length = n := by
  induction n generalizing v with
  | zero => rfl
  | succ n ih => simp [le, ih]
theorem le_byte (n v : Nat) : ∀ x ∈ le n v, x < 256 := by
  induction n generalizing v with
  | zero => intro x h; cases h
  | succ n ih =>
    intro x h
    rcases List.mem_cons.1 h with h | h
    · omega
    · exact ih _ x h

/-- the check of an address and a value -/
def checkN (a v : Nat) : Nat := sumOnN (sumN (le 8 a)) (le 4 v)

theorem le4 (v : Nat) : (le 8 v).take 4 = le 4 v := by simp [le]

set_option maxHeartbeats 400000 in
theorem check_any (a : Int) (a' v : Nat) (hv : v < 4294967296) (w : World) (ht : Tab w) (ha : a' < 18446744073709551616) (haw : IntKind.u64.wrap a = (a' : Int)) :
    Calls Tryd.prog 42 #[.int .i64 a, .int .u32 v] w fun e w' => e = .returned (.int .u32 (checkN a' v : Nat)) ∧ Below w.heap.size w w' := by
  have Ht := Lib.hid ht
  clear ht
  have vb : (v : Int) < 18446744073709551616 := by omega
  go_enter Tryd.func42, Tryd.ntmps42
  go_wp2_with fail
  refine (lay_any a' ha _).mono ?_
  rintro e w1 ⟨rfl, hb⟩
  rw [le8 a' ha]
  have R1 : Rd (w1.alloc (.cells (u8s (le 8 a')) 69)) .u8 (some ⟨w1.heap.size, 0, none⟩) 8 8 (le 8 a') := Rd.new 8 rfl (le_len _ _) (by omega)
  rw [le8 a' ha] at R1
  go_wp2_with fail
  refine (lay_any v (by omega) _).mono ?_
  rintro e w2 ⟨rfl, hb2⟩
  rw [le8 v (by omega)]
  have R2 := R1.below hb2
  have R3 : Rd (w2.alloc (.cells (u8s (le 8 v)) 69)) .u8 (some ⟨w2.heap.size, 0, none⟩) 8 8 (le 8 v) := Rd.new 8 rfl (le_len _ _) (by omega)
  have R4 : Rd (w2.alloc (.cells (u8s (le 8 v)) 69)) .u8 (some ⟨w1.heap.size, 0, none⟩) 8 8 (le 8 a') := R2.below ((Below.refl _ _).alloc (Nat.le_refl _) _)
  have B2 : Below w.heap.size w (w2.alloc (.cells (u8s (le 8 v)) 69)) := by
    have s1 := hb.size
    have s2 := hb2.size
    refine ((((hb.alloc s1 _).trans (hb2.mono ?_))).alloc ?_ _) <;> simp at * <;> omega
  have R5 := R3.take 4 (by omega)
  have T5 := Ht.out.below B2
  rw [le4] at R5
  clear R1 R2 hb hb2 R3 Ht
  go_wp2_with fail
  rw [← le8 v (by omega)]
  generalize w2.alloc (.cells (u8s (le 8 v)) 69) = w3 at *
  have R4 := Lib.hid R4
  have R5 := Lib.hid R5
  have B2 := Lib.hid B2
  have T5 := Lib.hid T5
  go_quiet (first
    | (go_at_call 22; exact quietR (sum_any (le 8 a') (le_byte _ _) _ 8 8 _ (R4.out.drewN _) (T5.out.drewN _)))
    | (go_at_call 23; exact quietR (sumOn_any _ (sumOnN_lt _ _ (by omega) (le_byte _ _)) (le 4 v) (le_byte _ _) _ 4 8 _ (R5.out.drewN _) (T5.out.drewN _))))
  go_wp2_with fail
  go_ret
  exact ⟨rfl, below_drewN B2.out _⟩

/-- the word that holds v at an address -/
def sealN (a v : Nat) : Nat := if v = 0 then 0 else checkN a v * 4294967296 + v
theorem checkN_lt (a v : Nat) : checkN a v < 4294967296 := sumOnN_lt _ _ (sumOnN_lt _ _ (by omega) (le_byte _ _)) (le_byte _ _)
theorem sealN_lt (a v : Nat) (h : v < 4294967296) : sealN a v < 18446744073709551616 := by
  have := checkN_lt a v
  unfold sealN
  split <;> omega
theorem or_word (c v : Nat) (hc : c < 4294967296) (hv : v < 4294967296) : bits .or .u64 ((c : Int) * 4294967296) (v : Int) = ((c * 4294967296 + v : Nat) : Int) := by
  rw [show (c : Int) * 4294967296 = ((c * 4294967296 : Nat) : Int) from by simp, u64_or_nat _ _ (by omega) (by omega)]
  congr 1
  have := Nat.two_pow_add_eq_or_of_lt (i := 32) (by omega : v < 2 ^ 32) c
  rw [show c * 4294967296 = 2 ^ 32 * c from by omega, this]

set_option maxHeartbeats 400000 in
theorem seal_any (a : Int) (a' v : Nat) (hv : v < 4294967296) (w : World) (ht : Tab w) (ha : a' < 18446744073709551616) (haw : IntKind.u64.wrap a = (a' : Int)) :
    Calls Tryd.prog 29 #[.int .i64 a, .int .u32 v] w fun e w' => e = .returned (.int .u64 (sealN a' v : Nat)) ∧ Below w.heap.size w w' := by
  by_cases h0 : v = 0
  · subst h0
    clear haw
    go_enter Tryd.func29, Tryd.ntmps29
    go_wp2
    go_ret
    exact ⟨rfl, Below.refl _ _⟩
  · have H := Lib.hid (check_any a a' v hv w ht ha haw)
    have hc := checkN_lt a' v
    have hw := or_word (checkN a' v) v hc hv
    have HS : Hid (sealN a' v = checkN a' v * 4294967296 + v) := if_neg h0
    have h0' : 0 < v := by omega
    clear haw ht h0
    generalize checkN a' v = c at *
    go_enter Tryd.func29, Tryd.ntmps29
    go_wp2_with fail
    refine H.out.mono ?_
    rintro e w1 ⟨rfl, hb⟩
    go_wp2_with fail
    go_ret
    exact ⟨ret_int (by rw [HS.out]; simp), hb⟩

/-- what a word holds, and the error -/
def unsealV (a x : Nat) : Nat := if sealN a (x % 4294967296) = x then x % 4294967296 else 0
def unsealE (a x : Nat) : Int := if sealN a (x % 4294967296) = x then 0 else 21

set_option maxHeartbeats 400000 in
theorem unseal_any (a : Int) (a' x : Nat) (w : World) (ht : Tab w) (ha : a' < 18446744073709551616) (haw : IntKind.u64.wrap a = (a' : Int)) :
    Calls Tryd.prog 30 #[.int .i64 a, .int .u64 x] w fun e w' => e = .returned (.tuple #[.int .u32 (unsealV a' x : Nat), .int .i64 (unsealE a' x)]) ∧ Below w.heap.size w w' := by
  have H := Lib.hid (seal_any a a' (x % 4294967296) (by omega) w ht ha haw)
  have e1 : (x : Int) % 4294967296 = ((x % 4294967296 : Nat) : Int) := by simp
  have hv : x % 4294967296 < 4294967296 := by omega
  by_cases h0 : sealN a' (x % 4294967296) = x
  · have HV : Hid (unsealV a' x = x % 4294967296) := if_pos h0
    have HE : Hid (unsealE a' x = 0) := if_pos h0
    generalize x % 4294967296 = v at *
    generalize sealN a' v = s at *
    have h1 : ((s : Int) != (x : Int)) = false := by simp [h0]
    clear haw ht h0
    go_enter Tryd.func30, Tryd.ntmps30
    go_wp2_with fail
    refine H.out.mono ?_
    rintro e w1 ⟨rfl, hb⟩
    go_wp2_with fail
    go_ret2
    exact ⟨by rw [HV.out, HE.out]; rfl, hb⟩
  · have HV : Hid (unsealV a' x = 0) := if_neg h0
    have HE : Hid (unsealE a' x = 21) := if_neg h0
    generalize x % 4294967296 = v at *
    generalize sealN a' v = s at *
    have h1 : ((s : Int) != (x : Int)) = true := by simpa using (by omega : ¬ (s : Int) = x)
    clear haw ht h0
    go_enter Tryd.func30, Tryd.ntmps30
    go_wp2_with fail
    refine H.out.mono ?_
    rintro e w1 ⟨rfl, hb⟩
    go_wp2_with fail
    go_ret2
    exact ⟨by rw [HV.out, HE.out]; rfl, hb⟩

end Go.Proofs.YtelhmddigogmgaaDoor
