/-
What the statement CodecLines computes of any script: true.
-/
import Derived.Test.YtelhmddigogmgaaDoorOpen2
import Derived.Test.YtelhmddigogmgaaDoorWPl8
namespace Go.Proofs.YtelhmddigogmgaaDoor
open Go.RowKit

theorem playsLines : Plays 8 9 := fun o ho h0 h1 w hin ht => by
  by_cases h : o.k = 8
  · exact plays8 o ho h w hin ht
  · exact plays9 o ho (by omega) w hin ht

set_option maxHeartbeats 400000 in
theorem CodecLines.walk (W : World) (v0 : Value) (o0 : Ops W v0) (ht : Tab W) : Calls Tryd.prog 18 #[v0] W fun e w' => e = .returned (.bool true) ∧ Below W.heap.size W w' := by
  obtain ⟨A, n, c, os, rfl, hs⟩ := o0
  have H := Lib.hid (upTo_any 8 9 playsLines A n c os W hs ht)
  clear hs ht
  go_enter Tryd.func18, Tryd.ntmps18
  go_wp2_with fail
  refine H.out.mono ?_
  rintro e w1 ⟨rfl, hb⟩
  go_wp2_with fail
  go_ret
  exact ⟨rfl, hb⟩

end Go.Proofs.YtelhmddigogmgaaDoor
