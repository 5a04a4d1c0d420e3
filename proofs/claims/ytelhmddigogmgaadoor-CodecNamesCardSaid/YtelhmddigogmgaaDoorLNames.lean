/-
What the statement CodecNames computes: true.
-/
import Derived.Test.YtelhmddigogmgaaDoorWFix
namespace Go.Proofs.YtelhmddigogmgaaDoor
open Go.RowKit

set_option maxHeartbeats 400000 in
theorem CodecNames.walk (W : World) (ht : Tab W) : Calls Tryd.prog 3 #[] W fun e w' => e = .returned (.bool true) ∧ Below W.heap.size W w' := by
  have H := Lib.hid (fixed_any W ht)
  clear ht
  go_enter Tryd.func3, Tryd.ntmps3
  go_wp2_with fail
  refine H.out.mono ?_
  rintro e w1 ⟨rfl, hb⟩
  have HB := Lib.hid hb
  clear hb
  go_wp2_with fail
  go_ret
  exact ⟨rfl, HB.out⟩

end Go.Proofs.YtelhmddigogmgaaDoor
