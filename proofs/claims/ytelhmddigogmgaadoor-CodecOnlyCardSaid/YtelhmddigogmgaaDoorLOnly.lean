/-
What the statement CodecOnly computes: true.
-/
import Derived.Test.YtelhmddigogmgaaDoorLSealed
namespace Go.Proofs.YtelhmddigogmgaaDoor
open Go.RowKit

set_option maxHeartbeats 1000000 in
theorem CodecOnly.at_ (a : Int) (a' v m : Nat) (hv : v < 4294967296) (hm : m < 18446744073709551616) (hw : IntKind.u64.wrap a = (a' : Int)) (ha : a' < 18446744073709551616) (W : World) (ht : Tab W) :
    Calls Tryd.prog 11 #[.int .i64 a, .int .u32 v, .int .u64 m] W fun e w' => e = .returned (.bool true) ∧ Below W.heap.size W w' := by
  have p1 := seal_low a' v hv
  have p3 := sealN_lt a' v hv
  have p4 := unseal_seal a' v hv
  have s1 := seal_any a a' v hv W ht ha hw
  have s2 := unseal_any a a' (sealN a' v)
  rw [p4.1, p4.2] at s2
  have hx := u64_xor_nat (sealN a' v) m p3 hm
  have s3 := unseal_any a a' (sealN a' v ^^^ m)
  have zero : m = 0 → sealN a' ((sealN a' v ^^^ m) % 4294967296) = sealN a' v ^^^ m := fun h => by
    rw [h, Nat.xor_zero, p1]
  have hy : sealN a' v ^^^ m < 18446744073709551616 := Nat.xor_lt_two_pow (n := 64) p3 hm
  generalize sealN a' v = x at *
  generalize hY : x ^^^ m = y at *
  have e1 : (x : Int) % 4294967296 = (v : Int) := by omega
  have e2 : (y : Int) % 4294967296 = ((y % 4294967296 : Nat) : Int) := by simp
  have S1 := Lib.hid s1
  have S2 := Lib.hid s2
  have S3 := Lib.hid s3
  have Ht := Lib.hid ht
  have Hw := Lib.hid hw
  have Zero := Lib.hid zero
  clear s1 s2 s3 ht hw p1 p4 zero hY
  go_enter Tryd.func11, Tryd.ntmps11
  go_wp2_with fail
  refine S1.out.mono ?_
  rintro e w1 ⟨rfl, hb⟩
  have HB := Lib.hid hb
  have T1 := Lib.hid (Ht.out.below hb)
  clear hb
  go_wp2_with fail
  refine (S2.out _ T1.out ha Hw.out).mono ?_
  rintro e w2 ⟨rfl, hb⟩
  have HB2 := Lib.hid (HB.out.trans (hb.mono HB.out.size))
  have T2 := Lib.hid (T1.out.below hb)
  clear hb HB T1
  go_wp2_with fail
  refine (S3.out _ T2.out ha Hw.out).mono ?_
  rintro e w3 ⟨rfl, hb⟩
  have HB3 := Lib.hid (HB2.out.trans (hb.mono HB2.out.size))
  have T3 := Lib.hid (T2.out.below hb)
  clear hb HB2 T2
  by_cases c : sealN a' (y % 4294967296) = y
  · obtain ⟨q1, q2⟩ := unseal_yes a' y c
    rw [q1, q2]
    have S4 := Lib.hid (seal_any a a' (y % 4294967296) (by omega) w3 T3.out ha Hw.out)
    rw [c] at S4
    generalize y % 4294967296 = z at *
    clear q1 q2 c
    go_wp2_with fail
    refine S4.out.mono ?_
    rintro e w4 ⟨rfl, hb⟩
    have HB4 := Lib.hid (HB3.out.trans (hb.mono HB3.out.size))
    clear hb HB3 T3
    go_wp2_with fail
    go_ret
    exact ⟨rfl, HB4.out⟩
  · obtain ⟨q1, q2⟩ := unseal_no a' y c
    rw [q1, q2]
    have hm0 : m ≠ 0 := fun h => c (Zero.out h)
    have t1 : ((m : Int) != 0) = true := by simp; omega
    clear q1 q2 c hm0
    go_wp2_with fail
    go_ret
    exact ⟨rfl, HB3.out⟩

theorem CodecOnly.walk (W : World) (a : Int) (_ : (Lit.int .i64 a).wf = true) (v : Int) (wv : (Lit.int .u32 v).wf = true) (o : Int) (wo : (Lit.int .u64 o).wf = true) (ht : Tab W) :
    Calls Tryd.prog 11 #[.int .i64 a, .int .u32 v, .int .u64 o] W fun e w' => e = .returned (.bool true) ∧ Below W.heap.size W w' := by
  obtain ⟨v0, v1⟩ := bounds_u32 wv
  obtain ⟨o0, o1⟩ := bounds_u64 wo
  obtain ⟨v, rfl⟩ := Int.eq_ofNat_of_zero_le v0
  obtain ⟨o, rfl⟩ := Int.eq_ofNat_of_zero_le o0
  obtain ⟨a', ha, hw⟩ := u64_nat a
  exact CodecOnly.at_ a a' v o (by omega) (by omega) hw ha W ht

end Go.Proofs.YtelhmddigogmgaaDoor
