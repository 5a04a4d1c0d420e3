/-
What sums of the statements answers for Sum and SumOn: true.
-/
import Derived.Test.YtelhmddigogmgaaDoorWOp
namespace Go.Proofs.YtelhmddigogmgaaDoor
open Go.RowKit

set_option maxRecDepth 100000 in
set_option maxHeartbeats 4000000 in
theorem sums1 (o t : OpV) (ho : o.Ok) (hlb : t.lb = o.lb) (hn : t.n = o.n) (_ : t.s = o.s) (hk : o.k = 1) (w : World) (h1 : o.In w) (h3 : t.In w) (ht : Tab w) :
    Calls Tryd.prog 47 #[.agg o.cells.toArray, .agg t.cells.toArray] w fun e w' => e = .returned (.bool true) ∧ Below w.heap.size w w' := by
  have hb : Below w.heap.size w ((w.alloc (.cells o.cells.toArray 73)).alloc (.cells t.cells.toArray 73)) := ((Below.refl _ _).alloc (Nat.le_refl _) _).alloc (by simp) _
  have c0 : ((w.alloc (.cells o.cells.toArray 73)).alloc (.cells t.cells.toArray 73)).cell? ⟨w.heap.size, 0, none⟩ = some (.int .i64 o.k) := range_cell (range_of_heap (heap_alloc2_old w _ _)) 0 _ rfl
  have c4 : ((w.alloc (.cells o.cells.toArray 73)).alloc (.cells t.cells.toArray 73)).cell? ⟨w.heap.size, 4, none⟩ = some (.slice o.A o.n o.c) := range_cell (range_of_heap (heap_alloc2_old w _ _)) 4 _ rfl
  have t4 : ((w.alloc (.cells o.cells.toArray 73)).alloc (.cells t.cells.toArray 73)).cell? ⟨w.heap.size + 1, 4, none⟩ = some (.slice t.A t.n t.c) := range_cell (range_of_heap (heap_alloc2_new w _ _)) 4 _ rfl
  rw [hk] at c0
  rw [hn] at t4
  have i1 := h1.below hb
  have i3 := h3.below hb
  have T := ht.below hb
  have R3 := i3.rb
  rw [hlb, hn] at R3
  have I1 := Lib.hid i1.rb
  have I3 := Lib.hid R3
  have HT := Lib.hid T
  have HB := Lib.hid hb
  clear h1 h3 ht i1 i3 T R3 hb
  go_enter Tryd.func47, Tryd.ntmps47
  go_wp2_with fail
  generalize (w.alloc (.cells o.cells.toArray 73)).alloc (.cells t.cells.toArray 73) = W2 at *
  go_quiet (first
    | (go_at_call 22; exact quietR (sum_any o.lb ho.b1 _ _ _ _ (I1.out.drewN _) (HT.out.drewN _)))
    | (go_at_call 53; exact quietR (refSum_any o.lb ho.b1 _ _ _ _ (I3.out.drewN _))))
  go_wp2_with fail
  go_ret
  exact ⟨by simp, below_drewN HB.out _⟩

set_option maxRecDepth 100000 in
set_option maxHeartbeats 4000000 in
theorem sums2 (o t : OpV) (ho : o.Ok) (hlb : t.lb = o.lb) (hn : t.n = o.n) (hs : t.s = o.s) (hk : o.k = 2) (w : World) (h1 : o.In w) (h3 : t.In w) (ht : Tab w) :
    Calls Tryd.prog 47 #[.agg o.cells.toArray, .agg t.cells.toArray] w fun e w' => e = .returned (.bool true) ∧ Below w.heap.size w w' := by
  have hb : Below w.heap.size w ((w.alloc (.cells o.cells.toArray 73)).alloc (.cells t.cells.toArray 73)) := ((Below.refl _ _).alloc (Nat.le_refl _) _).alloc (by simp) _
  have c0 : ((w.alloc (.cells o.cells.toArray 73)).alloc (.cells t.cells.toArray 73)).cell? ⟨w.heap.size, 0, none⟩ = some (.int .i64 o.k) := range_cell (range_of_heap (heap_alloc2_old w _ _)) 0 _ rfl
  have c2 : ((w.alloc (.cells o.cells.toArray 73)).alloc (.cells t.cells.toArray 73)).cell? ⟨w.heap.size, 2, none⟩ = some (.int .u32 o.s) := range_cell (range_of_heap (heap_alloc2_old w _ _)) 2 _ rfl
  have c4 : ((w.alloc (.cells o.cells.toArray 73)).alloc (.cells t.cells.toArray 73)).cell? ⟨w.heap.size, 4, none⟩ = some (.slice o.A o.n o.c) := range_cell (range_of_heap (heap_alloc2_old w _ _)) 4 _ rfl
  have t2 : ((w.alloc (.cells o.cells.toArray 73)).alloc (.cells t.cells.toArray 73)).cell? ⟨w.heap.size + 1, 2, none⟩ = some (.int .u32 t.s) := range_cell (range_of_heap (heap_alloc2_new w _ _)) 2 _ rfl
  have t4 : ((w.alloc (.cells o.cells.toArray 73)).alloc (.cells t.cells.toArray 73)).cell? ⟨w.heap.size + 1, 4, none⟩ = some (.slice t.A t.n t.c) := range_cell (range_of_heap (heap_alloc2_new w _ _)) 4 _ rfl
  rw [hk] at c0
  rw [hn] at t4
  rw [hs] at t2
  have i1 := h1.below hb
  have i3 := h3.below hb
  have T := ht.below hb
  have R3 := i3.rb
  rw [hlb, hn] at R3
  have I1 := Lib.hid i1.rb
  have I3 := Lib.hid R3
  have HT := Lib.hid T
  have HB := Lib.hid hb
  clear h1 h3 ht i1 i3 T R3 hb
  go_enter Tryd.func47, Tryd.ntmps47
  go_wp2_with fail
  generalize (w.alloc (.cells o.cells.toArray 73)).alloc (.cells t.cells.toArray 73) = W2 at *
  go_quiet (first
    | (go_at_call 23; exact quietR (sumOn_any o.s ho.s1 o.lb ho.b1 _ _ _ _ (I1.out.drewN _) (HT.out.drewN _)))
    | (go_at_call 54; exact quietR (refSumOn_any o.s ho.s1 o.lb ho.b1 _ _ _ _ (I3.out.drewN _))))
  go_wp2_with fail
  go_ret
  exact ⟨by simp, below_drewN HB.out _⟩

end Go.Proofs.YtelhmddigogmgaaDoor
