/-
What the statement CodecSealed computes: true.
-/
import Derived.Test.YtelhmddigogmgaaDoorSeals
import Derived.Test.YtelhmddigogmgaaDoorOpen
namespace Go.Proofs.YtelhmddigogmgaaDoor
open Go.RowKit

theorem u64_nat (a : Int) : ∃ a' : Nat, a' < 18446744073709551616 ∧ IntKind.u64.wrap a = (a' : Int) :=
  ⟨(a % 18446744073709551616).toNat, by omega, by rw [IntKind.wrap_u64]; omega⟩

set_option maxHeartbeats 1000000 in
/-- the walk's ways where the value is 0 -/
theorem CodecSealed.zero (a : Int) (a' o : Nat) (ho : o < 4294967296) (hw : IntKind.u64.wrap a = (a' : Int)) (ha : a' < 18446744073709551616) (W : World) (ht : Tab W) :
    Calls Tryd.prog 9 #[.int .i64 a, .int .u32 ((0 : Nat) : Int), .int .u32 o] W fun e w' => e = .returned (.bool true) ∧ Below W.heap.size W w' := by
  have s4 := seal_any a a' 0 (by omega)
  have s5 : ∀ w, Tab w → Calls Tryd.prog 30 #[.int .i64 a, .int .u64 0] w fun e w' => e = .returned (.tuple #[.int .u32 0, .int .i64 0]) ∧ Below w.heap.size w w' := fun w hT => unseal_any a a' 0 w hT ha hw
  have s6 := seal_any a a' 1 (by omega)
  have s7 := seal_any a a' 2 (by omega)
  have s8 := seal_ne a' 1 (by omega)
  have s9 := seal_high a' 1 (by omega) (by omega)
  have s10 := seal_high a' 2 (by omega) (by omega)
  have s11 : checkN a' 1 = 0 → checkN a' 2 ≠ 0 := fun e1 e2 => by
    have := check_value a' 1 2 ha (by omega) (by omega) (e1.trans e2.symm); omega
  rw [seal_zero] at s4
  generalize sealN a' 1 = q1 at *
  generalize sealN a' 2 = q2 at *
  generalize checkN a' 1 = c1 at *
  generalize checkN a' 2 = c2 at *
  have t4 : ((q1 : Int) == 0) = false := by simp; omega
  have t5 : (q1 : Int) / 4294967296 = (c1 : Int) := by omega
  have t6 : (q2 : Int) / 4294967296 = (c2 : Int) := by omega
  have S4 := Lib.hid s4
  have S5 := Lib.hid s5
  have S6 := Lib.hid s6
  have S7 := Lib.hid s7
  have S11 := Lib.hid s11
  have Ht := Lib.hid ht
  have Hw := Lib.hid hw
  clear s4 s5 s6 s7 s8 s9 s10 s11 ht hw
  have hta : (bits .xor .i64 a (o : Int) == a) = true ∨ (bits .xor .i64 a (o : Int) == a) = false := by cases (bits .xor .i64 a (o : Int) == a) <;> simp
  generalize hxt : bits .xor .i64 a (o : Int) = t at *
  go_enter Tryd.func9, Tryd.ntmps9
  go_wp2_with fail
  refine (S4.out _ Ht.out ha Hw.out).mono ?_
  rintro e w1 ⟨rfl, hb⟩
  have HB := Lib.hid hb
  have T1 := Lib.hid (Ht.out.below hb)
  clear hb
  go_wp2_with fail
  refine (S5.out _ T1.out).mono ?_
  rintro e w2 ⟨rfl, hb⟩
  have HB2 := Lib.hid (HB.out.trans (hb.mono HB.out.size))
  have T2 := Lib.hid (T1.out.below hb)
  clear hb HB T1
  go_wp2_with fail
  refine (S6.out _ T2.out ha Hw.out).mono ?_
  rintro e w3 ⟨rfl, hb⟩
  have HB3 := Lib.hid (HB2.out.trans (hb.mono HB2.out.size))
  have T3 := Lib.hid (T2.out.below hb)
  clear hb HB2 T2
  rcases Nat.eq_zero_or_pos c1 with hc | hc
  case inl =>
    have hc2 := S11.out hc
    have t7 : ((c1 : Int) == 0) = true := by simp [hc]
    have t8 : ((c2 : Int) == 0) = false := by simp; omega
    clear hc hc2
    go_wp2_with fail
    refine (S7.out _ T3.out ha Hw.out).mono ?_
    rintro e w4 ⟨rfl, hb⟩
    have HB4 := Lib.hid (HB3.out.trans (hb.mono HB3.out.size))
    clear hb HB3 T3
    rcases hta with t9 | t9
    all_goals
      go_wp2_with fail
      go_ret
      exact ⟨rfl, HB4.out⟩
  case inr =>
    have t7 : ((c1 : Int) == 0) = false := by simp; omega
    clear hc
    rcases hta with t9 | t9
    all_goals
      go_wp2_with fail
      go_ret
      exact ⟨rfl, HB3.out⟩

set_option maxHeartbeats 1000000 in
theorem CodecSealed.some (a : Int) (h1 : -9223372036854775808 ≤ a) (h2 : a ≤ 9223372036854775807) (a' v o : Nat) (hv : v < 4294967296) (h0 : v ≠ 0) (ho : o < 4294967296) (hw : IntKind.u64.wrap a = (a' : Int)) (ha : a' < 18446744073709551616) (W : World) (ht : Tab W) :
    Calls Tryd.prog 9 #[.int .i64 a, .int .u32 v, .int .u32 o] W fun e w' => e = .returned (.bool true) ∧ Below W.heap.size W w' := by
  have s1 := seal_low a' v hv
  have s2 := seal_ne a' v h0
  have s3 := unseal_seal a' v hv
  have s4 := seal_any a a' v hv W ht ha hw
  have s5 : ∀ w, Tab w → Calls Tryd.prog 30 #[.int .i64 a, .int .u64 (sealN a' v : Nat)] w fun e w' => e = .returned (.tuple #[.int .u32 v, .int .i64 0]) ∧ Below w.heap.size w w' := fun w hT => by
    have := unseal_any a a' (sealN a' v) w hT ha hw
    rwa [s3.1, s3.2] at this
  have s6 := seal_any a a' 1 (by omega)
  have s7 := seal_any a a' 2 (by omega)
  have s8 := seal_ne a' 1 (by omega)
  have s9 := seal_high a' 1 (by omega) (by omega)
  have s10 := seal_high a' 2 (by omega) (by omega)
  have s11 : checkN a' 1 = 0 → checkN a' 2 ≠ 0 := fun e1 e2 => by
    have := check_value a' 1 2 ha (by omega) (by omega) (e1.trans e2.symm); omega
  have s12 := xor_address a a' o hw ha ho
  have s13 := xor_address_same a a' o hw h1 h2 ha ho
  have s14 := unseal_any (bits .xor .i64 a (o : Int)) (a' ^^^ o) (sealN a' v)
  have s15 := unseal_other a' o v ha ho hv h0
  generalize hs : sealN a' v = s at *
  generalize sealN a' 1 = q1 at *
  generalize sealN a' 2 = q2 at *
  generalize checkN a' 1 = c1 at *
  generalize checkN a' 2 = c2 at *
  generalize hxt : bits .xor .i64 a (o : Int) = t at *
  have t1 : (s : Int) % 4294967296 = (v : Int) := by omega
  have t2 : ((s : Int) == 0) = false := by simp; omega
  have t3 : ((v : Int) == 0) = false := by simp; omega
  have t4 : ((q1 : Int) == 0) = false := by simp; omega
  have t5 : (q1 : Int) / 4294967296 = (c1 : Int) := by omega
  have t6 : (q2 : Int) / 4294967296 = (c2 : Int) := by omega
  have S4 := Lib.hid s4
  have S5 := Lib.hid s5
  have S6 := Lib.hid s6
  have S7 := Lib.hid s7
  have S11 := Lib.hid s11
  have S12 := Lib.hid s12
  have S13 := Lib.hid s13
  have S14 := Lib.hid s14
  have S15 := Lib.hid s15
  have Ht := Lib.hid ht
  have Hw := Lib.hid hw
  clear s1 s2 s3 s4 s5 s6 s7 s8 s9 s10 s11 s12 s13 s14 s15 hs h0 ht hw
  go_enter Tryd.func9, Tryd.ntmps9
  go_wp2_with fail
  refine S4.out.mono ?_
  rintro e w1 ⟨rfl, hb⟩
  have HB := Lib.hid hb
  have T1 := Lib.hid (Ht.out.below hb)
  clear hb
  go_wp2_with fail
  refine (S5.out _ T1.out).mono ?_
  rintro e w2 ⟨rfl, hb⟩
  have HB2 := Lib.hid (HB.out.trans (hb.mono HB.out.size))
  have T2 := Lib.hid (T1.out.below hb)
  clear hb HB T1
  go_wp2_with fail
  refine (S6.out _ T2.out ha Hw.out).mono ?_
  rintro e w3 ⟨rfl, hb⟩
  have HB3 := Lib.hid (HB2.out.trans (hb.mono HB2.out.size))
  have T3 := Lib.hid (T2.out.below hb)
  clear hb HB2 T2
  rcases Nat.eq_zero_or_pos c1 with hc | hc
  case inl =>
    have hc2 := S11.out hc
    have t7 : ((c1 : Int) == 0) = true := by simp [hc]
    have t8 : ((c2 : Int) == 0) = false := by simp; omega
    clear hc hc2
    go_wp2_with fail
    refine (S7.out _ T3.out ha Hw.out).mono ?_
    rintro e w4 ⟨rfl, hb⟩
    have HB4 := Lib.hid (HB3.out.trans (hb.mono HB3.out.size))
    have T4 := Lib.hid (T3.out.below hb)
    clear hb HB3 T3
    by_cases hta : t = a
    · have t9 : (t == a) = true := by simp [hta]
      clear hta
      go_wp2_with fail
      go_ret
      exact ⟨rfl, HB4.out⟩
    · have t9 : (t == a) = false := by simp [hta]
      have ho0 : o ≠ 0 := fun e => hta (S13.out.2 e)
      obtain ⟨q3, q4⟩ := S15.out ho0
      rw [q3, q4] at S14
      clear hta q3 q4 ho0
      go_wp2_with fail
      refine (S14.out _ T4.out (Nat.xor_lt_two_pow (n := 64) ha (by omega)) S12.out).mono ?_
      rintro e w5 ⟨rfl, hb⟩
      have HB5 := Lib.hid (HB4.out.trans (hb.mono HB4.out.size))
      clear hb HB4 T4
      go_wp2_with fail
      go_ret
      exact ⟨rfl, HB5.out⟩
  case inr =>
    have t7 : ((c1 : Int) == 0) = false := by simp; omega
    clear hc
    by_cases hta : t = a
    · have t9 : (t == a) = true := by simp [hta]
      clear hta
      go_wp2_with fail
      go_ret
      exact ⟨rfl, HB3.out⟩
    · have t9 : (t == a) = false := by simp [hta]
      have ho0 : o ≠ 0 := fun e => hta (S13.out.2 e)
      obtain ⟨q3, q4⟩ := S15.out ho0
      rw [q3, q4] at S14
      clear hta q3 q4 ho0
      go_wp2_with fail
      refine (S14.out _ T3.out (Nat.xor_lt_two_pow (n := 64) ha (by omega)) S12.out).mono ?_
      rintro e w5 ⟨rfl, hb⟩
      have HB5 := Lib.hid (HB3.out.trans (hb.mono HB3.out.size))
      clear hb HB3 T3
      go_wp2_with fail
      go_ret
      exact ⟨rfl, HB5.out⟩

theorem CodecSealed.walk (W : World) (a : Int) (wa : (Lit.int .i64 a).wf = true) (v : Int) (wv : (Lit.int .u32 v).wf = true) (o : Int) (wo : (Lit.int .u32 o).wf = true) (ht : Tab W) :
    Calls Tryd.prog 9 #[.int .i64 a, .int .u32 v, .int .u32 o] W fun e w' => e = .returned (.bool true) ∧ Below W.heap.size W w' := by
  obtain ⟨h1, h2⟩ := bounds_i64 wa
  obtain ⟨v0, v1⟩ := bounds_u32 wv
  obtain ⟨o0, o1⟩ := bounds_u32 wo
  obtain ⟨v, rfl⟩ := Int.eq_ofNat_of_zero_le v0
  obtain ⟨o, rfl⟩ := Int.eq_ofNat_of_zero_le o0
  obtain ⟨a', ha, hw⟩ := u64_nat a
  by_cases h0 : v = 0
  · subst h0
    exact CodecSealed.zero a a' o (by omega) hw ha W ht
  · exact CodecSealed.some a h1 h2 a' v o (by omega) h0 (by omega) hw ha W ht

end Go.Proofs.YtelhmddigogmgaaDoor
