/-
What the statement CodecAll computes of any script: true.
-/
import Derived.Test.YtelhmddigogmgaaDoorOpen2
import Derived.Test.YtelhmddigogmgaaDoorWPl1
import Derived.Test.YtelhmddigogmgaaDoorWPl3
import Derived.Test.YtelhmddigogmgaaDoorWPl5
import Derived.Test.YtelhmddigogmgaaDoorWPl8
import Derived.Test.YtelhmddigogmgaaDoorWPl10
namespace Go.Proofs.YtelhmddigogmgaaDoor
open Go.RowKit

theorem playsAll : Plays 1 11 := fun o ho h0 h1 w hin ht => by
  rcases (by omega : o.k = 1 ∨ o.k = 2 ∨ o.k = 3 ∨ o.k = 4 ∨ o.k = 5 ∨ o.k = 6 ∨ o.k = 7 ∨ o.k = 8 ∨ o.k = 9 ∨ o.k = 10 ∨ o.k = 11) with h | h | h | h | h | h | h | h | h | h | h
  · exact plays1 o ho h w hin ht
  · exact plays2 o ho h w hin ht
  · exact plays3 o ho h w hin ht
  · exact plays4 o ho h w hin ht
  · exact plays5 o ho h w hin ht
  · exact plays6 o ho h w hin ht
  · exact plays7 o ho h w hin ht
  · exact plays8 o ho h w hin ht
  · exact plays9 o ho h w hin ht
  · exact plays10 o ho h w hin ht
  · exact plays11 o ho h w hin ht

set_option maxHeartbeats 400000 in
theorem CodecAll.walk (W : World) (v0 : Value) (o0 : Ops W v0) (ht : Tab W) : Calls Tryd.prog 20 #[v0] W fun e w' => e = .returned (.bool true) ∧ Below W.heap.size W w' := by
  obtain ⟨A, n, c, os, rfl, hs⟩ := o0
  have H := Lib.hid (upTo_any 1 11 playsAll A n c os W hs ht)
  clear hs ht
  go_enter Tryd.func20, Tryd.ntmps20
  go_wp2_with fail
  refine H.out.mono ?_
  rintro e w1 ⟨rfl, hb⟩
  go_wp2_with fail
  go_ret
  exact ⟨rfl, hb⟩

end Go.Proofs.YtelhmddigogmgaaDoor
