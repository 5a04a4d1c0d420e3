/-
What sums of the statements answers for Half and Word: true.
-/
import Derived.Test.YtelhmddigogmgaaDoorWRefNum
namespace Go.Proofs.YtelhmddigogmgaaDoor
open Go.RowKit

set_option maxRecDepth 100000 in
set_option maxHeartbeats 4000000 in
theorem sums3 (o t : OpV) (ho : o.Ok) (hlb : t.lb = o.lb) (hn : t.n = o.n) (hta : t.a = o.a) (hk : o.k = 3) (w : World) (h1 : o.In w) (h3 : t.In w) :
    Calls Tryd.prog 47 #[.agg o.cells.toArray, .agg t.cells.toArray] w fun e w' => e = .returned (.bool true) ∧ Below w.heap.size w w' := by
  have hb : Below w.heap.size w ((w.alloc (.cells o.cells.toArray 73)).alloc (.cells t.cells.toArray 73)) := ((Below.refl _ _).alloc (Nat.le_refl _) _).alloc (by simp) _
  have c0 : ((w.alloc (.cells o.cells.toArray 73)).alloc (.cells t.cells.toArray 73)).cell? ⟨w.heap.size, 0, none⟩ = some (.int .i64 o.k) := range_cell (range_of_heap (heap_alloc2_old w _ _)) 0 _ rfl
  have c1 : ((w.alloc (.cells o.cells.toArray 73)).alloc (.cells t.cells.toArray 73)).cell? ⟨w.heap.size, 1, none⟩ = some (.int .i64 o.a) := range_cell (range_of_heap (heap_alloc2_old w _ _)) 1 _ rfl
  have c4 : ((w.alloc (.cells o.cells.toArray 73)).alloc (.cells t.cells.toArray 73)).cell? ⟨w.heap.size, 4, none⟩ = some (.slice o.A o.n o.c) := range_cell (range_of_heap (heap_alloc2_old w _ _)) 4 _ rfl
  have t1 : ((w.alloc (.cells o.cells.toArray 73)).alloc (.cells t.cells.toArray 73)).cell? ⟨w.heap.size + 1, 1, none⟩ = some (.int .i64 t.a) := range_cell (range_of_heap (heap_alloc2_new w _ _)) 1 _ rfl
  have t4 : ((w.alloc (.cells o.cells.toArray 73)).alloc (.cells t.cells.toArray 73)).cell? ⟨w.heap.size + 1, 4, none⟩ = some (.slice t.A t.n t.c) := range_cell (range_of_heap (heap_alloc2_new w _ _)) 4 _ rfl
  rw [hk] at c0
  rw [hta] at t1
  rw [hn] at t4
  have i1 := h1.below hb
  have i3 := h3.below hb
  have R3 := i3.rb
  rw [hlb, hn] at R3
  have I1 := Lib.hid i1.rb
  have I3 := Lib.hid R3
  have HB := Lib.hid hb
  clear h1 h3 i1 i3 R3 hb hn hlb hta hk
  go_enter Tryd.func47, Tryd.ntmps47
  go_wp2_with fail
  generalize (w.alloc (.cells o.cells.toArray 73)).alloc (.cells t.cells.toArray 73) = W2 at *
  refine (half_is o.lb ho.b1 o.A o.n o.c o.a ho.a0 ho.a1 W2 I1.out).mono ?_
  rintro e w5 ⟨rfl, m, rfl⟩
  go_wp2_with fail
  refine (refHalf_any o.lb ho.b1 t.A o.n t.c o.a ho.a0 ho.a1 _ (I3.out.drewN m)).mono ?_
  rintro e w6 ⟨rfl, rfl⟩
  go_wp2_with fail
  go_ret
  exact ⟨by simp, below_drewN HB.out _⟩

set_option maxRecDepth 100000 in
set_option maxHeartbeats 4000000 in
theorem sums4 (o t : OpV) (ho : o.Ok) (hlb : t.lb = o.lb) (hn : t.n = o.n) (hta : t.a = o.a) (hk : o.k = 4) (w : World) (h1 : o.In w) (h3 : t.In w) :
    Calls Tryd.prog 47 #[.agg o.cells.toArray, .agg t.cells.toArray] w fun e w' => e = .returned (.bool true) ∧ Below w.heap.size w w' := by
  have hb : Below w.heap.size w ((w.alloc (.cells o.cells.toArray 73)).alloc (.cells t.cells.toArray 73)) := ((Below.refl _ _).alloc (Nat.le_refl _) _).alloc (by simp) _
  have c0 : ((w.alloc (.cells o.cells.toArray 73)).alloc (.cells t.cells.toArray 73)).cell? ⟨w.heap.size, 0, none⟩ = some (.int .i64 o.k) := range_cell (range_of_heap (heap_alloc2_old w _ _)) 0 _ rfl
  have c1 : ((w.alloc (.cells o.cells.toArray 73)).alloc (.cells t.cells.toArray 73)).cell? ⟨w.heap.size, 1, none⟩ = some (.int .i64 o.a) := range_cell (range_of_heap (heap_alloc2_old w _ _)) 1 _ rfl
  have c4 : ((w.alloc (.cells o.cells.toArray 73)).alloc (.cells t.cells.toArray 73)).cell? ⟨w.heap.size, 4, none⟩ = some (.slice o.A o.n o.c) := range_cell (range_of_heap (heap_alloc2_old w _ _)) 4 _ rfl
  have t1 : ((w.alloc (.cells o.cells.toArray 73)).alloc (.cells t.cells.toArray 73)).cell? ⟨w.heap.size + 1, 1, none⟩ = some (.int .i64 t.a) := range_cell (range_of_heap (heap_alloc2_new w _ _)) 1 _ rfl
  have t4 : ((w.alloc (.cells o.cells.toArray 73)).alloc (.cells t.cells.toArray 73)).cell? ⟨w.heap.size + 1, 4, none⟩ = some (.slice t.A t.n t.c) := range_cell (range_of_heap (heap_alloc2_new w _ _)) 4 _ rfl
  rw [hk] at c0
  rw [hta] at t1
  rw [hn] at t4
  have i1 := h1.below hb
  have i3 := h3.below hb
  have R3 := i3.rb
  rw [hlb, hn] at R3
  have I1 := Lib.hid i1.rb
  have I3 := Lib.hid R3
  have HB := Lib.hid hb
  clear h1 h3 i1 i3 R3 hb hn hlb hta hk
  go_enter Tryd.func47, Tryd.ntmps47
  go_wp2_with fail
  generalize (w.alloc (.cells o.cells.toArray 73)).alloc (.cells t.cells.toArray 73) = W2 at *
  refine (word_is o.lb ho.b1 o.A o.n o.c o.a ho.a0 ho.a1 W2 I1.out).mono ?_
  rintro e w5 ⟨rfl, rfl⟩
  go_wp2_with fail
  refine (refWord_any o.lb ho.b1 t.A o.n t.c o.a ho.a0 ho.a1 _ I3.out).mono ?_
  rintro e w6 ⟨rfl, rfl⟩
  go_wp2_with fail
  go_ret
  exact ⟨by simp, HB.out⟩

end Go.Proofs.YtelhmddigogmgaaDoor
