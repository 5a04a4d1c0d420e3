/-
What the statements RadixSets, RadixCuts, RadixRuns, RadixLoads, RadixAll compute of any script: true.
-/
import Derived.Test.YtfljnfmocmhhdaaOpen
namespace Go.Proofs.Ytfljnfmocmhhdaa
open Go.RowKit

set_option maxHeartbeats 400000 in
theorem RadixSets.walk (W : World) (v0 : Value) (o0 : Ops W v0) : Calls Try.prog 10 #[v0] W fun e w' => e = .returned (.bool true) ∧ Below W.heap.size W w' := by
  obtain ⟨A, n, c, os, rfl, hs⟩ := o0
  have H := Lib.hid (up_any 1 3 A n c os W hs)
  clear hs
  go_enter Try.func10, Try.ntmps10
  go_wp2_with fail
  refine H.out.mono ?_
  rintro e w1 ⟨rfl, hb⟩
  go_wp2_with fail
  go_ret
  exact ⟨rfl, hb⟩

set_option maxHeartbeats 400000 in
theorem RadixCuts.walk (W : World) (v0 : Value) (o0 : Ops W v0) : Calls Try.prog 11 #[v0] W fun e w' => e = .returned (.bool true) ∧ Below W.heap.size W w' := by
  obtain ⟨A, n, c, os, rfl, hs⟩ := o0
  have H := Lib.hid (up_any 4 4 A n c os W hs)
  clear hs
  go_enter Try.func11, Try.ntmps11
  go_wp2_with fail
  refine H.out.mono ?_
  rintro e w1 ⟨rfl, hb⟩
  go_wp2_with fail
  go_ret
  exact ⟨rfl, hb⟩

set_option maxHeartbeats 400000 in
theorem RadixRuns.walk (W : World) (v0 : Value) (o0 : Ops W v0) : Calls Try.prog 12 #[v0] W fun e w' => e = .returned (.bool true) ∧ Below W.heap.size W w' := by
  obtain ⟨A, n, c, os, rfl, hs⟩ := o0
  have H := Lib.hid (up_any 5 5 A n c os W hs)
  clear hs
  go_enter Try.func12, Try.ntmps12
  go_wp2_with fail
  refine H.out.mono ?_
  rintro e w1 ⟨rfl, hb⟩
  go_wp2_with fail
  go_ret
  exact ⟨rfl, hb⟩

set_option maxHeartbeats 400000 in
theorem RadixLoads.walk (W : World) (v0 : Value) (o0 : Ops W v0) : Calls Try.prog 13 #[v0] W fun e w' => e = .returned (.bool true) ∧ Below W.heap.size W w' := by
  obtain ⟨A, n, c, os, rfl, hs⟩ := o0
  have H := Lib.hid (up_any 5 8 A n c os W hs)
  have H2 := Lib.hid (fun W' (hb : Below W.heap.size W W') => up_any 2 3 A n c os W' (hs.below hb))
  clear hs
  go_enter Try.func13, Try.ntmps13
  go_wp2_with fail
  refine H.out.mono ?_
  rintro e w1 ⟨rfl, hb⟩
  have HB := Lib.hid hb
  clear hb
  go_wp2_with fail
  refine (H2.out _ HB.out).mono ?_
  rintro e w2 ⟨rfl, hb2⟩
  have HB2 := Lib.hid (below_lift HB.out hb2)
  clear hb2
  go_wp2_with fail
  go_ret
  exact ⟨rfl, HB2.out⟩

set_option maxHeartbeats 400000 in
theorem RadixAll.walk (W : World) (v0 : Value) (o0 : Ops W v0) : Calls Try.prog 14 #[v0] W fun e w' => e = .returned (.bool true) ∧ Below W.heap.size W w' := by
  obtain ⟨A, n, c, os, rfl, hs⟩ := o0
  have H := Lib.hid (up_any 1 8 A n c os W hs)
  clear hs
  go_enter Try.func14, Try.ntmps14
  go_wp2_with fail
  refine H.out.mono ?_
  rintro e w1 ⟨rfl, hb⟩
  go_wp2_with fail
  go_ret
  exact ⟨rfl, hb⟩

end Go.Proofs.Ytfljnfmocmhhdaa
