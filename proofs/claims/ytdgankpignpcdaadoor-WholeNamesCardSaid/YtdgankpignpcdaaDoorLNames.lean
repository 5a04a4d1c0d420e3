/-
What the statement WholeNames computes: true.
-/
import Derived.Test.YtdgankpignpcdaaDoorWNames
import Derived.Lib.SlBytesConst
namespace Go.Proofs.YtdgankpignpcdaaDoor
open Go.RowKit

set_option maxHeartbeats 400000 in
theorem WholeNames.walk (W : World) (ht : Tab W) : Calls Tryd.prog 3 #[] W fun e w' => e = .returned (.bool true) ∧ Below W.heap.size W w' := by
  have f1 : Hid (((sumN [49, 50, 51, 52, 53, 54, 55, 56, 57] : Nat) : Int) = 3421780262) := by unfold Hid; kernel_rfl
  have Ht := Lib.hid ht
  clear ht
  have kc := fun (w : World) (C : Array Value) (n c : Nat) => Lib.run_convert_bytes_const (P := Tryd.prog) w 24 5 C n c Tryd.underlying24 Tryd.underlying5
  go_enter Tryd.func3, Tryd.ntmps3
  go_wp2_with fail
  clear kc
  have hb : Below W.heap.size W (W.alloc (.cells (u8s [49, 50, 51, 52, 53, 54, 55, 56, 57]) 5 (9, 10))) := (Below.refl _ _).alloc (Nat.le_refl _) _
  refine (sum_any [49, 50, 51, 52, 53, 54, 55, 56, 57] (by decide) _ 9 9 _ (Rd.block (cs := u8s [49, 50, 51, 52, 53, 54, 55, 56, 57]) (t := 5) (fr := (9, 10)) 9 9 (heap_alloc_new W _) rfl rfl (Nat.le_refl _) (by omega) (by omega)) (Ht.out.below hb)).mono ?_
  rintro e w1 ⟨rfl, rfl⟩
  rw [f1.out]
  have Hb := Lib.hid hb
  clear hb
  go_wp2_with fail
  refine (sizes_any _).mono ?_
  rintro e w1 ⟨rfl, hb1⟩
  have HB1 := Lib.hid (Below.trans Hb.out (hb1.mono Hb.out.size))
  clear hb1 Hb
  go_wp2_with fail
  refine (errors_any _).mono ?_
  rintro e w2 ⟨rfl, hb2⟩
  have HB2 := Lib.hid (Below.trans HB1.out (hb2.mono HB1.out.size))
  clear hb2 HB1
  go_wp2_with fail
  go_ret
  exact ⟨rfl, HB2.out⟩

end Go.Proofs.YtdgankpignpcdaaDoor
