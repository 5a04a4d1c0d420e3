/-
What plays of the statements answers for calls of the kinds 8, 9: true.
-/
import Derived.Test.YtelhmddigogmgaaDoorWOp
import Derived.Test.YtelhmddigogmgaaDoorWRefLine
namespace Go.Proofs.YtelhmddigogmgaaDoor
open Go.RowKit

set_option maxRecDepth 100000 in
set_option maxHeartbeats 4000000 in
theorem plays8 (o : OpV) (ho : o.Ok) (hk : o.k = 8) (w : World) (hin : o.In w) (ht : Tab w) :
    Calls Tryd.prog 46 #[.agg o.cells.toArray] w fun e w' => e = .returned (.bool true) ∧ Below w.heap.size w w' := by
  have hsz : (o.cells.toArray).size = 70 := by simp [o.len ho]
  have hone : (o.cells.toArray).all (·.oneCell') = true := all_oneCell_toArray o.one
  have hst : (storeCells ⟨w.heap.size + 1, 0, none⟩ o.cells 0).run Tryd.prog ((w.alloc (.cells o.cells.toArray 73)).alloc (.cells Tryd.zeroCells73 73)) = .ok () ((w.alloc (.cells o.cells.toArray 73)).alloc (.cells o.cells.toArray 73)) := by
    have := run_storeCells_new (P := Tryd.prog) (w.alloc (.cells o.cells.toArray 73)) 73 Tryd.zeroCells73 o.cells.toArray (by rw [hsz]; exact info73) (by rw [hsz]; kernel_rfl) hone
    rwa [show (w.alloc (.cells o.cells.toArray 73)).heap.size = w.heap.size + 1 from by simp] at this
  have Hin := Lib.hid hin
  have Ht := Lib.hid ht
  have Ho := Lib.hid ho
  clear hin ht hone
  go_enter Tryd.func46, Tryd.ntmps46
  have c1 : ((w.alloc (.cells o.cells.toArray 73)).alloc (.cells o.cells.toArray 73)).cell? ⟨w.heap.size, 4, none⟩ = some (.slice o.A o.n o.c) :=
    range_cell (range_of_heap (heap_alloc2_old w _ _)) 4 _ rfl
  go_wp2_with (refine wpList_load_row rfl 73 (.tmp 1) rfl w.heap.size rfl 73 _ (0, 0) _ (heap_alloc_new w _) Tryd.underlying73 rfl (by rw [hsz]; exact info73) ?_)
  have hb2 : Below w.heap.size w ((w.alloc (.cells o.cells.toArray 73)).alloc (.cells o.cells.toArray 73)) := ((Below.refl _ _).alloc (Nat.le_refl _) _).alloc (by simp) _
  have h1 : ((w.alloc (.cells o.cells.toArray 73)).alloc (.cells o.cells.toArray 73)).heap[w.heap.size]? = some (.cells o.cells.toArray 73 (0, 0)) := heap_alloc2_old w _ _
  have h3 : ((w.alloc (.cells o.cells.toArray 73)).alloc (.cells o.cells.toArray 73)).heap[w.heap.size + 1]? = some (.cells o.cells.toArray 73 (0, 0)) := heap_alloc2_new w _ _
  have hs2 : ((w.alloc (.cells o.cells.toArray 73)).alloc (.cells o.cells.toArray 73)).heap.size = w.heap.size + 2 := by simp
  clear hst c1
  generalize (w.alloc (.cells o.cells.toArray 73)).alloc (.cells o.cells.toArray 73) = W2 at *
  have i2 := Hin.out.below hb2
  refine (copyBytes_any o.lb o.A o.n o.c W2 i2.rb).mono ?_
  rintro e W3 ⟨vb, rfl, ob, hb3⟩
  have h1' := heap_below hb3 h1
  have h3' := heap_below hb3 h3
  have hB3 : Below w.heap.size w W3 := hb2.trans (hb3.mono hb2.size)
  have i3 := i2.below hb3
  obtain ⟨A', c', rfl, rb', hab⟩ := Rd.own2 ob i2.rb.lt
  have hs3 := hb3.size
  have f3 := frozen_of_row W3 (w.heap.size + 1) 4 _ _ h3'
  have hst4 : W3.cell? ⟨w.heap.size + 1, 4, none⟩ = some (.slice o.A o.n o.c) := range_cell (range_of_heap h3') 4 _ rfl
  have h4 := (heap_setCell_same W3 (w.heap.size + 1) 4 _ _ (.slice A' o.n c') h3')
  have h4' : (W3.setCell ⟨w.heap.size + 1, 4, none⟩ (.slice A' o.n c')).heap[w.heap.size]? = some (.cells o.cells.toArray 73 (0, 0)) := (heap_setCell_other W3 _ _ _ (by simp)).trans h1'
  have rb4 := rb'.set (w.heap.size + 1) 4 (.slice A' o.n c') (fun b off e => by have := hab b off e; omega)
  have i4 : o.In (W3.setCell ⟨w.heap.size + 1, 4, none⟩ (.slice A' o.n c')) := ⟨Hin.out.rb.below (Below.setHigh hB3 _ _ _ (by omega)), Hin.out.rl.below (Below.setHigh hB3 _ _ _ (by omega))⟩
  have hB4 : Below w.heap.size w (W3.setCell ⟨w.heap.size + 1, 4, none⟩ (.slice A' o.n c')) := Below.setHigh hB3 _ _ _ (by omega)
  have hz4 : (W3.setCell ⟨w.heap.size + 1, 4, none⟩ (.slice A' o.n c')).heap.size = W3.heap.size := by simp
  have d1 : (W3.setCell ⟨w.heap.size + 1, 4, none⟩ (.slice A' o.n c')).cell? ⟨w.heap.size, 5, none⟩ = some (.slice o.A2 o.n2 o.c2) := range_cell (range_of_heap h4') 5 _ rfl
  clear h1 h3 h1' h3' hb2 hb3 hB3 i2 i3 ob rb'
  have h4'' : (W3.setCell ⟨w.heap.size + 1, 4, none⟩ (.slice A' o.n c')).heap[w.heap.size + 1]? = some (.cells (o.cells.toArray.setIfInBounds 4 (.slice A' o.n c')) 73 (0, 0)) := h4
  clear h4
  go_wp2_with fail
  clear f3 hst4
  generalize W3.setCell ⟨w.heap.size + 1, 4, none⟩ (.slice A' o.n c') = W4 at *
  refine (copyWords_any o.lw o.A2 o.n2 o.c2 W4 i4.rl Ho.out.n8).mono ?_
  rintro e W5 ⟨vl, rfl, ol, hb5⟩
  have h5 := heap_below hb5 h4'
  have h5' := heap_below hb5 h4''
  have hB5 : Below w.heap.size w W5 := hB4.trans (hb5.mono hB4.size)
  have rb5 := rb4.below hb5
  have hs5 := hb5.size
  obtain ⟨A2', c2', rfl, rl', hal⟩ := Rd.own2 ol i4.rl.lt
  have f5 := frozen_of_row W5 (w.heap.size + 1) 5 _ _ h5'
  have hst5 : W5.cell? ⟨w.heap.size + 1, 5, none⟩ = some (.slice o.A2 o.n2 o.c2) := by
    rw [cell_of_row W5 _ 5 _ _ _ h5']; rfl
  have h6' := (heap_setCell_same W5 (w.heap.size + 1) 5 _ _ (.slice A2' o.n2 c2') h5')
  have h6 : (W5.setCell ⟨w.heap.size + 1, 5, none⟩ (.slice A2' o.n2 c2')).heap[w.heap.size]? = some (.cells o.cells.toArray 73 (0, 0)) := (heap_setCell_other W5 _ _ _ (by simp)).trans h5
  have rb6 := rb5.set (w.heap.size + 1) 5 (.slice A2' o.n2 c2') (fun b off e => by have := hab b off e; omega)
  have rl6 := rl'.set (w.heap.size + 1) 5 (.slice A2' o.n2 c2') (fun b off e => by have := hal b off e; omega)
  have hB6 : Below w.heap.size w (W5.setCell ⟨w.heap.size + 1, 5, none⟩ (.slice A2' o.n2 c2')) := Below.setHigh hB5 _ _ _ (by omega)
  have hP : Pl w w.heap.size (w.heap.size + 1) o { o with A := A', c := c', A2 := A2', c2 := c2' } (W5.setCell ⟨w.heap.size + 1, 5, none⟩ (.slice A2' o.n2 c2')) := by
    refine ⟨range_of_heap h6, range_of_heap (t := 73) (fr := (0, 0)) ?_, Hin.out.below hB6, ⟨rb6, rl6⟩, hB6, Ht.out.below hB6⟩
    rw [h6']
    rfl
  have k0 := range_cell hP.r1 0 _ rfl
  rw [hk] at k0
  have Hk := Lib.hid hk
  clear hk
  have HP := Lib.hid hP
  clear hP h6 h6' hB6 rb6 rl6 hB5 rb5 rb4 h5 h5' h4' h4'' hB4 i4 ol hb5 rl' hab hal
  go_wp2_with fail
  clear f5 hst5
  generalize W5.setCell ⟨w.heap.size + 1, 5, none⟩ (.slice A2' o.n2 c2') = W6 at *
  have hi33 : (Tryd.prog.info? 33).map (·.size) = some (vals .u8 o.ln).length := by rw [vals_len, Ho.out.l1]; exact size33
  have EQL := Lib.hid (eql_close o.ln Ho.out.l1 Ho.out.l2)
  refine wp_region_held_drew (S := Pl w w.heap.size (w.heap.size + 1) o { o with A := A', c := c', A2 := A2', c2 := c2' }) (by kernel_rfl) HP.out.drew (fun hS => ?_)
  refine takeD (i := 0) (v := .pointer (some ⟨w.heap.size, 6, none⟩)) 37 rfl rfl (by kernel_rfl) (by kernel_rfl) (by kernel_rfl) (fun _ _ _ h => h) (Or.inl ⟨by rfl, ?_⟩) hS ?_
  · intro W hW
    go_simp
  simp only [Act.put, List.setIfInBounds_toArray, List.set_cons_zero, List.set_cons_succ]
  refine takeD (i := 1) 38 rfl rfl (by kernel_rfl) (by kernel_rfl) (by kernel_rfl) (fun _ _ _ h => h) (yieldsIf_load_mid (by rfl) 33 (.tmp 37) rfl w.heap.size 6 rfl (vals .u8 o.ln) _ (fun _ h => op_line h.r1) Tryd.underlying33 rfl hi33) hS ?_
  simp only [Act.put, List.setIfInBounds_toArray, List.set_cons_zero, List.set_cons_succ]
  refine takeD (i := 3) (v := .pointer (some ⟨w.heap.size, 6, none⟩)) 40 rfl rfl (by kernel_rfl) (by kernel_rfl) (by kernel_rfl) (fun _ _ _ h => h) (Or.inl ⟨by rfl, ?_⟩) hS ?_
  · intro W hW
    go_simp
  simp only [Act.put, List.setIfInBounds_toArray, List.set_cons_zero, List.set_cons_succ]
  refine takeD (i := 4) 41 rfl rfl (by kernel_rfl) (by kernel_rfl) (by kernel_rfl) (fun _ _ _ h => h) (yieldsIf_load_mid (by rfl) 33 (.tmp 40) rfl w.heap.size 6 rfl (vals .u8 o.ln) _ (fun _ h => op_line h.r1) Tryd.underlying33 rfl hi33) hS ?_
  simp only [Act.put, List.setIfInBounds_toArray, List.set_cons_zero, List.set_cons_succ]
  refine wpAnyH_ready (rs := [2]) (by kernel_rfl) (by simp) (AllReadyH.cons rfl (fun K hK => ?_) AllReadyH.nil)
  go_simp
  refine (close_any o.ln Ho.out.l1 Ho.out.l2 _ hS.tab).mono ?_
  rintro e w' ⟨rfl, hb⟩
  refine hK.out _ _ (hS.below hb) (fun h2 => ?_)
  clear hK K hS hb
  refine wpAnyH_ready (rs := [5]) (by kernel_rfl) (by simp) (AllReadyH.cons rfl (fun K hK => ?_) AllReadyH.nil)
  go_simp
  refine (refClose_any o.ln Ho.out.l1 Ho.out.l2 _).mono ?_
  rintro e w' ⟨rfl, hb⟩
  refine hK.out _ _ (h2.below hb) (fun h3 => ?_)
  clear hK K h2 hb
  refine takeD (i := 6) (v := .bool true) 43 rfl rfl (by kernel_rfl) (by kernel_rfl) (by kernel_rfl) (fun _ _ _ h => h) (Or.inl ⟨by rfl, ?_⟩) h3 ?_
  · intro W hW
    exact EQL.out _ (.tmp 39) (.tmp 42) rfl _ rfl rfl W
  simp only [Act.put, List.setIfInBounds_toArray, List.set_cons_zero, List.set_cons_succ]
  refine takeD (i := 7) (v := .bool true) 4 rfl rfl (by kernel_rfl) (by kernel_rfl) (by kernel_rfl) (fun _ _ _ h => h) (Or.inl ⟨by rfl, ?_⟩) h3 ?_
  · intro W hW
    go_simp
  simp only [Act.put, List.setIfInBounds_toArray, List.set_cons_zero, List.set_cons_succ]
  refine wpAnyH_done (by kernel_rfl) ?_ _
  have hE := h3
  rename World => W8
  have q1 := range_cell hE.r1 4 _ rfl
  have q2 := range_cell hE.r3 4 _ rfl
  have q3 := range_cell hE.r1 5 _ rfl
  have q4 := range_cell hE.r3 5 _ rfl
  have SB := Lib.hid (sameBytes_any o.lb o.A A' o.n o.c c' _ hE.i1.rb hE.i3.rb)
  have SW := fun m => Lib.hid (sameWords_any o.lw o.A2 A2' o.n2 o.c2 c2' (W8.drewN m) (hE.i1.rl.drewN m) (hE.i3.rl.drewN m))
  have HE := Lib.hid hE.bel
  clear hE
  go_wp2_with fail
  refine SB.out.mono ?_
  rintro e W9 ⟨rfl, m, rfl⟩
  go_wp2_with fail
  refine (SW m).out.mono ?_
  rintro e W9 ⟨rfl, m2, rfl⟩
  go_wp2_with fail
  go_ret
  exact ⟨rfl, below_drewN HE.out _⟩

set_option maxRecDepth 100000 in
set_option maxHeartbeats 4000000 in
theorem plays9 (o : OpV) (ho : o.Ok) (hk : o.k = 9) (w : World) (hin : o.In w) (ht : Tab w) :
    Calls Tryd.prog 46 #[.agg o.cells.toArray] w fun e w' => e = .returned (.bool true) ∧ Below w.heap.size w w' := by
  have hsz : (o.cells.toArray).size = 70 := by simp [o.len ho]
  have hone : (o.cells.toArray).all (·.oneCell') = true := all_oneCell_toArray o.one
  have hst : (storeCells ⟨w.heap.size + 1, 0, none⟩ o.cells 0).run Tryd.prog ((w.alloc (.cells o.cells.toArray 73)).alloc (.cells Tryd.zeroCells73 73)) = .ok () ((w.alloc (.cells o.cells.toArray 73)).alloc (.cells o.cells.toArray 73)) := by
    have := run_storeCells_new (P := Tryd.prog) (w.alloc (.cells o.cells.toArray 73)) 73 Tryd.zeroCells73 o.cells.toArray (by rw [hsz]; exact info73) (by rw [hsz]; kernel_rfl) hone
    rwa [show (w.alloc (.cells o.cells.toArray 73)).heap.size = w.heap.size + 1 from by simp] at this
  have Hin := Lib.hid hin
  have Ht := Lib.hid ht
  have Ho := Lib.hid ho
  clear hin ht hone
  go_enter Tryd.func46, Tryd.ntmps46
  have c1 : ((w.alloc (.cells o.cells.toArray 73)).alloc (.cells o.cells.toArray 73)).cell? ⟨w.heap.size, 4, none⟩ = some (.slice o.A o.n o.c) :=
    range_cell (range_of_heap (heap_alloc2_old w _ _)) 4 _ rfl
  go_wp2_with (refine wpList_load_row rfl 73 (.tmp 1) rfl w.heap.size rfl 73 _ (0, 0) _ (heap_alloc_new w _) Tryd.underlying73 rfl (by rw [hsz]; exact info73) ?_)
  have hb2 : Below w.heap.size w ((w.alloc (.cells o.cells.toArray 73)).alloc (.cells o.cells.toArray 73)) := ((Below.refl _ _).alloc (Nat.le_refl _) _).alloc (by simp) _
  have h1 : ((w.alloc (.cells o.cells.toArray 73)).alloc (.cells o.cells.toArray 73)).heap[w.heap.size]? = some (.cells o.cells.toArray 73 (0, 0)) := heap_alloc2_old w _ _
  have h3 : ((w.alloc (.cells o.cells.toArray 73)).alloc (.cells o.cells.toArray 73)).heap[w.heap.size + 1]? = some (.cells o.cells.toArray 73 (0, 0)) := heap_alloc2_new w _ _
  have hs2 : ((w.alloc (.cells o.cells.toArray 73)).alloc (.cells o.cells.toArray 73)).heap.size = w.heap.size + 2 := by simp
  clear hst c1
  generalize (w.alloc (.cells o.cells.toArray 73)).alloc (.cells o.cells.toArray 73) = W2 at *
  have i2 := Hin.out.below hb2
  refine (copyBytes_any o.lb o.A o.n o.c W2 i2.rb).mono ?_
  rintro e W3 ⟨vb, rfl, ob, hb3⟩
  have h1' := heap_below hb3 h1
  have h3' := heap_below hb3 h3
  have hB3 : Below w.heap.size w W3 := hb2.trans (hb3.mono hb2.size)
  have i3 := i2.below hb3
  obtain ⟨A', c', rfl, rb', hab⟩ := Rd.own2 ob i2.rb.lt
  have hs3 := hb3.size
  have f3 := frozen_of_row W3 (w.heap.size + 1) 4 _ _ h3'
  have hst4 : W3.cell? ⟨w.heap.size + 1, 4, none⟩ = some (.slice o.A o.n o.c) := range_cell (range_of_heap h3') 4 _ rfl
  have h4 := (heap_setCell_same W3 (w.heap.size + 1) 4 _ _ (.slice A' o.n c') h3')
  have h4' : (W3.setCell ⟨w.heap.size + 1, 4, none⟩ (.slice A' o.n c')).heap[w.heap.size]? = some (.cells o.cells.toArray 73 (0, 0)) := (heap_setCell_other W3 _ _ _ (by simp)).trans h1'
  have rb4 := rb'.set (w.heap.size + 1) 4 (.slice A' o.n c') (fun b off e => by have := hab b off e; omega)
  have i4 : o.In (W3.setCell ⟨w.heap.size + 1, 4, none⟩ (.slice A' o.n c')) := ⟨Hin.out.rb.below (Below.setHigh hB3 _ _ _ (by omega)), Hin.out.rl.below (Below.setHigh hB3 _ _ _ (by omega))⟩
  have hB4 : Below w.heap.size w (W3.setCell ⟨w.heap.size + 1, 4, none⟩ (.slice A' o.n c')) := Below.setHigh hB3 _ _ _ (by omega)
  have hz4 : (W3.setCell ⟨w.heap.size + 1, 4, none⟩ (.slice A' o.n c')).heap.size = W3.heap.size := by simp
  have d1 : (W3.setCell ⟨w.heap.size + 1, 4, none⟩ (.slice A' o.n c')).cell? ⟨w.heap.size, 5, none⟩ = some (.slice o.A2 o.n2 o.c2) := range_cell (range_of_heap h4') 5 _ rfl
  clear h1 h3 h1' h3' hb2 hb3 hB3 i2 i3 ob rb'
  have h4'' : (W3.setCell ⟨w.heap.size + 1, 4, none⟩ (.slice A' o.n c')).heap[w.heap.size + 1]? = some (.cells (o.cells.toArray.setIfInBounds 4 (.slice A' o.n c')) 73 (0, 0)) := h4
  clear h4
  go_wp2_with fail
  clear f3 hst4
  generalize W3.setCell ⟨w.heap.size + 1, 4, none⟩ (.slice A' o.n c') = W4 at *
  refine (copyWords_any o.lw o.A2 o.n2 o.c2 W4 i4.rl Ho.out.n8).mono ?_
  rintro e W5 ⟨vl, rfl, ol, hb5⟩
  have h5 := heap_below hb5 h4'
  have h5' := heap_below hb5 h4''
  have hB5 : Below w.heap.size w W5 := hB4.trans (hb5.mono hB4.size)
  have rb5 := rb4.below hb5
  have hs5 := hb5.size
  obtain ⟨A2', c2', rfl, rl', hal⟩ := Rd.own2 ol i4.rl.lt
  have f5 := frozen_of_row W5 (w.heap.size + 1) 5 _ _ h5'
  have hst5 : W5.cell? ⟨w.heap.size + 1, 5, none⟩ = some (.slice o.A2 o.n2 o.c2) := by
    rw [cell_of_row W5 _ 5 _ _ _ h5']; rfl
  have h6' := (heap_setCell_same W5 (w.heap.size + 1) 5 _ _ (.slice A2' o.n2 c2') h5')
  have h6 : (W5.setCell ⟨w.heap.size + 1, 5, none⟩ (.slice A2' o.n2 c2')).heap[w.heap.size]? = some (.cells o.cells.toArray 73 (0, 0)) := (heap_setCell_other W5 _ _ _ (by simp)).trans h5
  have rb6 := rb5.set (w.heap.size + 1) 5 (.slice A2' o.n2 c2') (fun b off e => by have := hab b off e; omega)
  have rl6 := rl'.set (w.heap.size + 1) 5 (.slice A2' o.n2 c2') (fun b off e => by have := hal b off e; omega)
  have hB6 : Below w.heap.size w (W5.setCell ⟨w.heap.size + 1, 5, none⟩ (.slice A2' o.n2 c2')) := Below.setHigh hB5 _ _ _ (by omega)
  have hP : Pl w w.heap.size (w.heap.size + 1) o { o with A := A', c := c', A2 := A2', c2 := c2' } (W5.setCell ⟨w.heap.size + 1, 5, none⟩ (.slice A2' o.n2 c2')) := by
    refine ⟨range_of_heap h6, range_of_heap (t := 73) (fr := (0, 0)) ?_, Hin.out.below hB6, ⟨rb6, rl6⟩, hB6, Ht.out.below hB6⟩
    rw [h6']
    rfl
  have k0 := range_cell hP.r1 0 _ rfl
  rw [hk] at k0
  have Hk := Lib.hid hk
  clear hk
  have HP := Lib.hid hP
  clear hP h6 h6' hB6 rb6 rl6 hB5 rb5 rb4 h5 h5' h4' h4'' hB4 i4 ol hb5 rl' hab hal
  go_wp2_with fail
  clear f5 hst5
  generalize W5.setCell ⟨w.heap.size + 1, 5, none⟩ (.slice A2' o.n2 c2') = W6 at *
  have hi33 : (Tryd.prog.info? 33).map (·.size) = some (vals .u8 o.ln).length := by rw [vals_len, Ho.out.l1]; exact size33
  refine wp_region_held_drew (S := Pl w w.heap.size (w.heap.size + 1) o { o with A := A', c := c', A2 := A2', c2 := c2' }) (by kernel_rfl) HP.out.drew (fun hS => ?_)
  refine takeD (i := 0) (v := .pointer (some ⟨w.heap.size, 6, none⟩)) 46 rfl rfl (by kernel_rfl) (by kernel_rfl) (by kernel_rfl) (fun _ _ _ h => h) (Or.inl ⟨by rfl, ?_⟩) hS ?_
  · intro W hW
    go_simp
  simp only [Act.put, List.setIfInBounds_toArray, List.set_cons_zero, List.set_cons_succ]
  refine takeD (i := 1) 47 rfl rfl (by kernel_rfl) (by kernel_rfl) (by kernel_rfl) (fun _ _ _ h => h) (yieldsIf_load_mid (by rfl) 33 (.tmp 46) rfl w.heap.size 6 rfl (vals .u8 o.ln) _ (fun _ h => op_line h.r1) Tryd.underlying33 rfl hi33) hS ?_
  simp only [Act.put, List.setIfInBounds_toArray, List.set_cons_zero, List.set_cons_succ]
  refine takeD (i := 3) (v := .pointer (some ⟨w.heap.size, 6, none⟩)) 49 rfl rfl (by kernel_rfl) (by kernel_rfl) (by kernel_rfl) (fun _ _ _ h => h) (Or.inl ⟨by rfl, ?_⟩) hS ?_
  · intro W hW
    go_simp
  simp only [Act.put, List.setIfInBounds_toArray, List.set_cons_zero, List.set_cons_succ]
  refine takeD (i := 4) 50 rfl rfl (by kernel_rfl) (by kernel_rfl) (by kernel_rfl) (fun _ _ _ h => h) (yieldsIf_load_mid (by rfl) 33 (.tmp 49) rfl w.heap.size 6 rfl (vals .u8 o.ln) _ (fun _ h => op_line h.r1) Tryd.underlying33 rfl hi33) hS ?_
  simp only [Act.put, List.setIfInBounds_toArray, List.set_cons_zero, List.set_cons_succ]
  refine wpAnyH_ready (rs := [2]) (by kernel_rfl) (by simp) (AllReadyH.cons rfl (fun K hK => ?_) AllReadyH.nil)
  go_simp
  refine (whole_any o.ln Ho.out.l1 Ho.out.l2 _ hS.tab).mono ?_
  rintro e w' ⟨rfl, hb⟩
  refine hK.out _ _ (hS.below hb) (fun h2 => ?_)
  clear hK K hS hb
  refine wpAnyH_ready (rs := [5]) (by kernel_rfl) (by simp) (AllReadyH.cons rfl (fun K hK => ?_) AllReadyH.nil)
  go_simp
  refine (refWhole_any o.ln Ho.out.l1 Ho.out.l2 _).mono ?_
  rintro e w' ⟨rfl, hb⟩
  refine hK.out _ _ (h2.below hb) (fun h3 => ?_)
  clear hK K h2 hb
  refine takeD (i := 6) (v := .bool true) 52 rfl rfl (by kernel_rfl) (by kernel_rfl) (by kernel_rfl) (fun _ _ _ h => h) (Or.inl ⟨by rfl, ?_⟩) h3 ?_
  · intro W hW
    go_simp
  simp only [Act.put, List.setIfInBounds_toArray, List.set_cons_zero, List.set_cons_succ]
  refine takeD (i := 7) (v := .bool true) 4 rfl rfl (by kernel_rfl) (by kernel_rfl) (by kernel_rfl) (fun _ _ _ h => h) (Or.inl ⟨by rfl, ?_⟩) h3 ?_
  · intro W hW
    go_simp
  simp only [Act.put, List.setIfInBounds_toArray, List.set_cons_zero, List.set_cons_succ]
  refine wpAnyH_done (by kernel_rfl) ?_ _
  have hE := h3
  rename World => W8
  have q1 := range_cell hE.r1 4 _ rfl
  have q2 := range_cell hE.r3 4 _ rfl
  have q3 := range_cell hE.r1 5 _ rfl
  have q4 := range_cell hE.r3 5 _ rfl
  have SB := Lib.hid (sameBytes_any o.lb o.A A' o.n o.c c' _ hE.i1.rb hE.i3.rb)
  have SW := fun m => Lib.hid (sameWords_any o.lw o.A2 A2' o.n2 o.c2 c2' (W8.drewN m) (hE.i1.rl.drewN m) (hE.i3.rl.drewN m))
  have HE := Lib.hid hE.bel
  clear hE
  go_wp2_with fail
  refine SB.out.mono ?_
  rintro e W9 ⟨rfl, m, rfl⟩
  go_wp2_with fail
  refine (SW m).out.mono ?_
  rintro e W9 ⟨rfl, m2, rfl⟩
  go_wp2_with fail
  go_ret
  exact ⟨rfl, below_drewN HE.out _⟩

end Go.Proofs.YtelhmddigogmgaaDoor
