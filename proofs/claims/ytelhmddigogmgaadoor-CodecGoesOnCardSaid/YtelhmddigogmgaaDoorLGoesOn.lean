/-
What the statement CodecGoesOn computes: true.
-/
import Derived.Test.YtelhmddigogmgaaDoorAlg
import Derived.Test.YtelhmddigogmgaaDoorOpen
namespace Go.Proofs.YtelhmddigogmgaaDoor
open Go.RowKit

theorem size5 : (Tryd.prog.info? 5).map (·.size) = some 1 := by kernel_rfl

set_option maxHeartbeats 1000000 in
theorem CodecGoesOn.walk (W : World) (v0 : Value) (o0 : Nums W .u8 256 1 v0) (s : Int) (ws : (Lit.int .u32 s).wf = true) (ht : Tab W) :
    Calls Tryd.prog 4 #[v0, .int .u32 s] W fun e w' => e = .returned (.bool true) ∧ Below W.heap.size W w' := by
  obtain ⟨A, n, c, l, rfl, hr, hx, hn2⟩ := o0
  obtain ⟨s0, s1⟩ := bounds_u32 ws
  obtain ⟨s, rfl⟩ := Int.eq_ofNat_of_zero_le s0
  have hn := hr.lt
  have hc := hr.le
  have H := Lib.hid (fixed_any W ht)
  have Ht := Lib.hid ht
  have Hr := Lib.hid hr
  have hsum : Hid (∀ i, sumOnN (sumN (l.take i)) (l.drop i) = sumN l) := sumOnN_cut l
  clear ht hr s0 ws hn2
  go_enter Tryd.func4, Tryd.ntmps4
  go_wp2_with fail
  refine H.out.mono ?_
  rintro e w1 ⟨rfl, hb⟩
  have T1 := Lib.hid (Ht.out.below hb)
  have R1 := Lib.hid (Hr.out.below hb)
  have HB := Lib.hid hb
  clear hb H Ht Hr
  go_wp2_with fail
  refine (sum_any l hx _ _ _ _ R1.out T1.out).mono ?_
  rintro e w2 ⟨rfl, rfl⟩
  go_wp2_with fail
  go_loop [7] (fun v7 => ∃ k : Nat, k ≤ n + n + 1 ∧ v7 = .int .i64 k) (fun v7 => n + 1 - (intOf v7).toNat)
  case atStart => exact ⟨0, by omega, rfl⟩
  case round =>
    obtain ⟨k, hk, rfl⟩ := hrel
    by_cases hlt : k ≤ n
    · have f1 := run_sliceTo (A := A) (n := n) (c := c) Tryd.underlying23 size5 k (by omega)
      have f2 := run_sliceFrom (A := A) (n := n) (c := c) Tryd.underlying23 size5 k hlt
      go_wp2_with fail
      refine (sum_any (l.take k) (fun x h => hx x (List.mem_of_mem_take h)) _ _ _ _ (R1.out.take k hlt) T1.out).mono ?_
      rintro e w2 ⟨rfl, rfl⟩
      go_wp2_with fail
      refine (sumOn_any (sumN (l.take k)) (sumOnN_lt _ _ (by omega) (fun x h => hx x (List.mem_of_mem_take h))) (l.drop k) (fun x h => hx x (List.mem_of_mem_drop h)) _ _ _ _ (R1.out.drop k hlt) T1.out).mono ?_
      rintro e w2 ⟨rfl, rfl⟩
      rw [hsum.out k]
      go_wp2_with fail
      go_round
      case rel => exact ⟨k + (n / 64 + 1), by omega, by go_num⟩
      case measure => simp [intOf]; omega
    · go_wp2_with fail
      refine (sumOn_any s (by omega) [] (by simp) _ 0 0 _ (Rd.nil _ _) T1.out).mono ?_
      rintro e w2 ⟨rfl, rfl⟩
      rw [sumOnN_nil]
      go_wp2_with fail
      refine (sumOn_any 0 (by omega) l hx _ _ _ _ R1.out T1.out).mono ?_
      rintro e w2 ⟨rfl, rfl⟩
      rw [show sumOnN 0 l = sumN l from rfl]
      go_wp2_with fail
      go_ret
      exact ⟨rfl, HB.out⟩

end Go.Proofs.YtelhmddigogmgaaDoor
