/-
What the statement CodecTorn computes: true.
-/
import Derived.Test.YtelhmddigogmgaaDoorLSealed
namespace Go.Proofs.YtelhmddigogmgaaDoor
open Go.RowKit


set_option maxHeartbeats 1000000 in
theorem CodecTorn.at_ (a : Int) (a' u v : Nat) (hu : u < 4294967296) (hv : v < 4294967296) (hw : IntKind.u64.wrap a = (a' : Int)) (ha : a' < 18446744073709551616) (W : World) (ht : Tab W) :
    Calls Tryd.prog 10 #[.int .i64 a, .int .u32 u, .int .u32 v] W fun e w' => e = .returned (.bool true) ∧ Below W.heap.size W w' := by
  have p1 := seal_low a' u hu
  have p2 := seal_low a' v hv
  have p3 := sealN_lt a' u hu
  have p4 := sealN_lt a' v hv
  have s1 := seal_any a a' u hu W ht ha hw
  have s2 := seal_any a a' v hv
  -- the torn word, what it holds
  have s3 := unseal_any a a' (sealN a' u / 4294967296 * 4294967296 + v)
  have lowt : (sealN a' u / 4294967296 * 4294967296 + v) % 4294967296 = v := by omega
  have yes : sealN a' v = sealN a' u / 4294967296 * 4294967296 + v → unsealV a' (sealN a' u / 4294967296 * 4294967296 + v) = v ∧ unsealE a' (sealN a' u / 4294967296 * 4294967296 + v) = 0 := fun h => by
    have := unseal_yes a' (sealN a' u / 4294967296 * 4294967296 + v) (by rw [lowt]; exact h)
    rwa [lowt] at this
  have no : sealN a' v ≠ sealN a' u / 4294967296 * 4294967296 + v → unsealV a' (sealN a' u / 4294967296 * 4294967296 + v) = 0 ∧ unsealE a' (sealN a' u / 4294967296 * 4294967296 + v) = 21 := fun h =>
    unseal_no a' (sealN a' u / 4294967296 * 4294967296 + v) (by rw [lowt]; exact h)
  have same : u = v → sealN a' u = sealN a' v := fun h => by rw [h]
  have other : u ≠ v → u ≠ 0 → v ≠ 0 → sealN a' u / 4294967296 ≠ sealN a' v / 4294967296 := fun h1 h2 h3 h4 => by
    rw [seal_high a' u hu h2, seal_high a' v hv h3] at h4
    exact h1 (check_value a' u v ha hu hv h4)
  generalize sealN a' u = x at *
  generalize sealN a' v = y at *
  have e1 : (x : Int) % 4294967296 = (u : Int) := by omega
  have e2 : (y : Int) % 4294967296 = (v : Int) := by omega
  have e3 : (x : Int) / 4294967296 = ((x / 4294967296 : Nat) : Int) := by simp
  have e4 : (y : Int) / 4294967296 = ((y / 4294967296 : Nat) : Int) := by simp
  have hx3 : x / 4294967296 < 4294967296 := by omega
  have hy3 : y / 4294967296 < 4294967296 := by omega
  have hxs : x = x / 4294967296 * 4294967296 + u := by omega
  have hys : y = y / 4294967296 * 4294967296 + v := by omega
  generalize hX : x / 4294967296 = X at *
  generalize hY : y / 4294967296 = Y at *
  have e5 : (((X * 4294967296 + v : Nat)) : Int) = (X : Int) * 4294967296 + (v : Int) := by simp
  rw [e5] at s3
  generalize hV : unsealV a' (X * 4294967296 + v) = V at *
  generalize hE : unsealE a' (X * 4294967296 + v) = E at *
  have S1 := Lib.hid s1
  have S2 := Lib.hid s2
  have S3 := Lib.hid s3
  have Ht := Lib.hid ht
  have Hw := Lib.hid hw
  have Yes := Lib.hid yes
  have No := Lib.hid no
  have Other := Lib.hid other
  have Same := Lib.hid same
  have Hxs := Lib.hid hxs
  have Hys := Lib.hid hys
  clear s1 s2 s3 ht hw yes no other same p1 p2 lowt hX hY hV hE e5 hxs hys
  go_enter Tryd.func10, Tryd.ntmps10
  go_wp2_with fail
  refine S1.out.mono ?_
  rintro e w1 ⟨rfl, hb⟩
  have HB := Lib.hid hb
  have T1 := Lib.hid (Ht.out.below hb)
  clear hb
  go_wp2_with fail
  refine (S2.out _ T1.out ha Hw.out).mono ?_
  rintro e w2 ⟨rfl, hb⟩
  have HB2 := Lib.hid (HB.out.trans (hb.mono HB.out.size))
  have T2 := Lib.hid (T1.out.below hb)
  clear hb HB T1
  -- the second test says no: decided here
  have dec : ((u : Int) != (v : Int)) = false ∨ (((u : Int) != (v : Int)) = true ∧ ((X : Int) == (Y : Int)) = false) ∨ (((u : Int) != (v : Int)) = true ∧ ((X : Int) == (Y : Int)) = true ∧ ((u : Int) != 0) = false) ∨
      (((u : Int) != (v : Int)) = true ∧ ((X : Int) == (Y : Int)) = true ∧ ((u : Int) != 0) = true ∧ ((v : Int) != 0) = false) := by
    by_cases c1 : u = v
    · exact .inl (by simp [c1])
    · by_cases c2 : X = Y
      · by_cases c3 : u = 0
        · exact .inr (.inr (.inl ⟨by simp; omega, by simp [c2], by simp [c3]⟩))
        · by_cases c4 : v = 0
          · exact .inr (.inr (.inr ⟨by simp; omega, by simp [c2], by simp; omega, by simp [c4]⟩))
          · exact absurd c2 (Other.out c1 c3 c4)
      · exact .inr (.inl ⟨by simp; omega, by simp; omega⟩)
  rcases dec with d1 | ⟨d1, d2⟩ | ⟨d1, d2, d3⟩ | ⟨d1, d2, d3, d4⟩
  all_goals
    go_wp2_with fail
    refine (S3.out _ T2.out ha Hw.out).mono ?_
    rintro e w3 ⟨rfl, hb⟩
    have HB3 := Lib.hid (HB2.out.trans (hb.mono HB2.out.size))
    clear hb
    by_cases c1 : X * 4294967296 + v = x
    · have t1 : ((X : Int) * 4294967296 + (v : Int) == (x : Int)) = true := by simp; omega
      have huv : u = v := by have := Hxs.out; omega
      obtain ⟨q1, q2⟩ := Yes.out (by rw [← Same.out huv]; exact c1.symm)
      rw [q1, q2]
      have t2 : ((v : Int) == (u : Int)) = true := by simp; omega
      clear c1 huv q1 q2
      go_wp2_with fail
      go_ret
      exact ⟨rfl, HB3.out⟩
    · have t1 : ((X : Int) * 4294967296 + (v : Int) == (x : Int)) = false := by simp; omega
      by_cases c2 : y = X * 4294967296 + v
      · have t2 : ((X : Int) * 4294967296 + (v : Int) == (y : Int)) = true := by simp; omega
        obtain ⟨q1, q2⟩ := Yes.out c2
        rw [q1, q2]
        clear c1 c2 q1 q2
        go_wp2_with fail
        go_ret
        exact ⟨rfl, HB3.out⟩
      · have t2 : ((X : Int) * 4294967296 + (v : Int) == (y : Int)) = false := by simp; omega
        obtain ⟨q1, q2⟩ := No.out c2
        rw [q1, q2]
        clear c1 c2 q1 q2
        go_wp2_with fail
        go_ret
        exact ⟨rfl, HB3.out⟩

theorem CodecTorn.walk (W : World) (a : Int) (_ : (Lit.int .i64 a).wf = true) (v : Int) (wv : (Lit.int .u32 v).wf = true) (o : Int) (wo : (Lit.int .u32 o).wf = true) (ht : Tab W) :
    Calls Tryd.prog 10 #[.int .i64 a, .int .u32 v, .int .u32 o] W fun e w' => e = .returned (.bool true) ∧ Below W.heap.size W w' := by
  obtain ⟨v0, v1⟩ := bounds_u32 wv
  obtain ⟨o0, o1⟩ := bounds_u32 wo
  obtain ⟨v, rfl⟩ := Int.eq_ofNat_of_zero_le v0
  obtain ⟨o, rfl⟩ := Int.eq_ofNat_of_zero_le o0
  obtain ⟨a', ha, hw⟩ := u64_nat a
  exact CodecTorn.at_ a a' v o (by omega) (by omega) hw ha W ht

end Go.Proofs.YtelhmddigogmgaaDoor
