/-
What lists of the statements answers for Bytes, Words and Lines: true.
-/
import Derived.Test.YtelhmddigogmgaaDoorWSameL
namespace Go.Proofs.YtelhmddigogmgaaDoor
open Go.RowKit
set_option linter.unusedVariables false

set_option maxRecDepth 100000 in
set_option maxHeartbeats 4000000 in
theorem lists5 (o t : OpV) (ho : o.Ok) (hlb : t.lb = o.lb) (hn : t.n = o.n) (hlw : t.lw = o.lw) (hn2 : t.n2 = o.n2) (hk : o.k = 5) (w : World) (h1 : o.In w) (h3 : t.In w) :
    Calls Tryd.prog 48 #[.agg o.cells.toArray, .agg t.cells.toArray] w fun e w' => e = .returned (.bool true) ∧ Below w.heap.size w w' := by
  have hb : Below w.heap.size w ((w.alloc (.cells o.cells.toArray 73)).alloc (.cells t.cells.toArray 73)) := ((Below.refl _ _).alloc (Nat.le_refl _) _).alloc (by simp) _
  have c0 : ((w.alloc (.cells o.cells.toArray 73)).alloc (.cells t.cells.toArray 73)).cell? ⟨w.heap.size, 0, none⟩ = some (.int .i64 o.k) := range_cell (range_of_heap (heap_alloc2_old w _ _)) 0 _ rfl
  have c5 : ((w.alloc (.cells o.cells.toArray 73)).alloc (.cells t.cells.toArray 73)).cell? ⟨w.heap.size, 5, none⟩ = some (.slice o.A2 o.n2 o.c2) := range_cell (range_of_heap (heap_alloc2_old w _ _)) 5 _ rfl
  have hg2 : ((w.alloc (.cells o.cells.toArray 73)).alloc (.cells t.cells.toArray 73)).heap[w.heap.size + 1]? = some (.cells t.cells.toArray 73 (0, 0)) := heap_alloc2_new w _ _
  rw [hk] at c0
  have i1 := h1.below hb
  have i3 := h3.below hb
  have R3 := i3.rl
  rw [hlw, hn2] at R3
  have I1 := Lib.hid i1.rl
  have I3 := Lib.hid R3
  have HB := Lib.hid hb
  have HG2 := Lib.hid hg2
  have hle := i1.rl.lt
  have HN := Lib.hid hn2
  clear h1 h3 i1 i3 R3 hb hg2 hlb hn hlw hn2 hk
  go_enter Tryd.func48, Tryd.ntmps48
  go_wp2_with fail
  generalize (w.alloc (.cells o.cells.toArray 73)).alloc (.cells t.cells.toArray 73) = W2 at *
  refine (bytes_any o.lw ho.w1 o.A2 o.n2 o.c2 W2 I1.out (by have := ho.n8; omega)).mono ?_
  rintro e W3 ⟨v3, rfl, ho3, hb3⟩
  have n8 := ho.n8
  obtain ⟨A3, c3, rfl, r3⟩ := Rd.own ho3 (by omega)
  have t5 : W3.cell? ⟨w.heap.size + 1, 5, none⟩ = some (.slice t.A2 o.n2 t.c2) := by
    rw [← HN.out]; exact range_cell (range_of_heap (heap_below hb3 HG2.out)) 5 _ rfl
  have HR := Lib.hid r3
  have HB3 := Lib.hid (HB.out.trans (hb3.mono HB.out.size))
  have I4 := Lib.hid (I3.out.below hb3)
  clear ho3 hb3 r3
  have h82 : o.n2 * 8 ≤ 140737488355328 := ho.n8
  go_wp2_with fail
  refine (refBytes_any o.lw ho.w1 t.A2 o.n2 t.c2 W3 I4.out h82).mono ?_
  rintro e W4 ⟨v4, rfl, ho4, hb4⟩
  obtain ⟨A4, c4, rfl, r4⟩ := Rd.own ho4 (by omega)
  have HS := Lib.hid (sameBytes_any _ A3 A4 _ c3 c4 W4 (HR.out.below hb4) r4)
  have HB4 := Lib.hid (HB3.out.trans (hb4.mono HB3.out.size))
  clear ho4 hb4 r4
  go_wp2_with fail
  refine HS.out.mono ?_
  rintro e W5 ⟨rfl, m, rfl⟩
  go_wp2_with fail
  go_ret
  exact ⟨rfl, below_drewN HB4.out _⟩

set_option maxRecDepth 100000 in
set_option maxHeartbeats 4000000 in
theorem lists6 (o t : OpV) (ho : o.Ok) (hlb : t.lb = o.lb) (hn : t.n = o.n) (hlw : t.lw = o.lw) (hn2 : t.n2 = o.n2) (hk : o.k = 6) (w : World) (h1 : o.In w) (h3 : t.In w) :
    Calls Tryd.prog 48 #[.agg o.cells.toArray, .agg t.cells.toArray] w fun e w' => e = .returned (.bool true) ∧ Below w.heap.size w w' := by
  have hb : Below w.heap.size w ((w.alloc (.cells o.cells.toArray 73)).alloc (.cells t.cells.toArray 73)) := ((Below.refl _ _).alloc (Nat.le_refl _) _).alloc (by simp) _
  have c0 : ((w.alloc (.cells o.cells.toArray 73)).alloc (.cells t.cells.toArray 73)).cell? ⟨w.heap.size, 0, none⟩ = some (.int .i64 o.k) := range_cell (range_of_heap (heap_alloc2_old w _ _)) 0 _ rfl
  have c4 : ((w.alloc (.cells o.cells.toArray 73)).alloc (.cells t.cells.toArray 73)).cell? ⟨w.heap.size, 4, none⟩ = some (.slice o.A o.n o.c) := range_cell (range_of_heap (heap_alloc2_old w _ _)) 4 _ rfl
  have hg2 : ((w.alloc (.cells o.cells.toArray 73)).alloc (.cells t.cells.toArray 73)).heap[w.heap.size + 1]? = some (.cells t.cells.toArray 73 (0, 0)) := heap_alloc2_new w _ _
  rw [hk] at c0
  have i1 := h1.below hb
  have i3 := h3.below hb
  have R3 := i3.rb
  rw [hlb, hn] at R3
  have I1 := Lib.hid i1.rb
  have I3 := Lib.hid R3
  have HB := Lib.hid hb
  have HG2 := Lib.hid hg2
  have hle := i1.rb.lt
  have HN := Lib.hid hn
  clear h1 h3 i1 i3 R3 hb hg2 hlb hn hlw hn2 hk
  go_enter Tryd.func48, Tryd.ntmps48
  go_wp2_with fail
  generalize (w.alloc (.cells o.cells.toArray 73)).alloc (.cells t.cells.toArray 73) = W2 at *
  by_cases hd : o.n % 8 = 0
  · obtain ⟨q, hq⟩ : ∃ q, o.n = 8 * q := ⟨o.n / 8, by omega⟩
    have HQ := Lib.hid hq
    refine (words_yes o.lb ho.b1 o.A o.n o.c q W2 I1.out hq).mono ?_
    rintro e W3 ⟨v3, rfl, ho3, hb3⟩
    obtain ⟨A3, c3, rfl, r3⟩ := Rd.own ho3 (by omega)
    have t4 : W3.cell? ⟨w.heap.size + 1, 4, none⟩ = some (.slice t.A o.n t.c) := by
      rw [← HN.out]; exact range_cell (range_of_heap (heap_below hb3 HG2.out)) 4 _ rfl
    have HR := Lib.hid r3
    have HB3 := Lib.hid (HB.out.trans (hb3.mono HB.out.size))
    have I4 := Lib.hid (I3.out.below hb3)
    clear ho3 hb3 r3 hq hd
    go_wp2_with fail
    refine (refWords_yes o.lb ho.b1 t.A o.n t.c q W3 I4.out HQ.out).mono ?_
    rintro e W4 ⟨v4, rfl, ho4, hb4⟩
    have hq' := HQ.out
    obtain ⟨A4, c4, rfl, r4⟩ := Rd.own ho4 (by omega)
    have HS := Lib.hid (sameWords_any _ A3 A4 _ c3 c4 W4 (HR.out.below hb4) r4)
    have HB4 := Lib.hid (HB3.out.trans (hb4.mono HB3.out.size))
    clear ho4 hb4 r4 hq'
    go_wp2_with fail
    refine HS.out.mono ?_
    rintro e W5 ⟨rfl, m, rfl⟩
    go_wp2_with fail
    go_ret
    exact ⟨rfl, below_drewN HB4.out _⟩
  · refine (words_no o.A o.n o.c W2 hle hd).mono ?_
    rintro e W3 ⟨rfl, rfl⟩
    have t4 : W2.cell? ⟨w.heap.size + 1, 4, none⟩ = some (.slice t.A o.n t.c) := by
      rw [← HN.out]; exact range_cell (range_of_heap HG2.out) 4 _ rfl
    have HD := Lib.hid hd
    clear hd
    go_wp2_with fail
    refine (refWords_no t.A o.n t.c W2 hle HD.out).mono ?_
    rintro e W4 ⟨rfl, rfl⟩
    go_wp2_with fail
    refine (sameWords_any [] none none 0 0 0 W2 (Rd.nil _ _) (Rd.nil _ _)).mono ?_
    rintro e W5 ⟨rfl, m, rfl⟩
    go_wp2_with fail
    go_ret
    exact ⟨rfl, below_drewN HB.out _⟩

set_option maxRecDepth 100000 in
set_option maxHeartbeats 4000000 in
theorem lists7 (o t : OpV) (ho : o.Ok) (hlb : t.lb = o.lb) (hn : t.n = o.n) (hlw : t.lw = o.lw) (hn2 : t.n2 = o.n2) (hk : o.k = 7) (w : World) (h1 : o.In w) (h3 : t.In w) :
    Calls Tryd.prog 48 #[.agg o.cells.toArray, .agg t.cells.toArray] w fun e w' => e = .returned (.bool true) ∧ Below w.heap.size w w' := by
  have hb : Below w.heap.size w ((w.alloc (.cells o.cells.toArray 73)).alloc (.cells t.cells.toArray 73)) := ((Below.refl _ _).alloc (Nat.le_refl _) _).alloc (by simp) _
  have c0 : ((w.alloc (.cells o.cells.toArray 73)).alloc (.cells t.cells.toArray 73)).cell? ⟨w.heap.size, 0, none⟩ = some (.int .i64 o.k) := range_cell (range_of_heap (heap_alloc2_old w _ _)) 0 _ rfl
  have c4 : ((w.alloc (.cells o.cells.toArray 73)).alloc (.cells t.cells.toArray 73)).cell? ⟨w.heap.size, 4, none⟩ = some (.slice o.A o.n o.c) := range_cell (range_of_heap (heap_alloc2_old w _ _)) 4 _ rfl
  have hg2 : ((w.alloc (.cells o.cells.toArray 73)).alloc (.cells t.cells.toArray 73)).heap[w.heap.size + 1]? = some (.cells t.cells.toArray 73 (0, 0)) := heap_alloc2_new w _ _
  rw [hk] at c0
  have i1 := h1.below hb
  have i3 := h3.below hb
  have R3 := i3.rb
  rw [hlb, hn] at R3
  have I1 := Lib.hid i1.rb
  have I3 := Lib.hid R3
  have HB := Lib.hid hb
  have HG2 := Lib.hid hg2
  have hle := i1.rb.lt
  have HN := Lib.hid hn
  clear h1 h3 i1 i3 R3 hb hg2 hlb hn hlw hn2 hk
  go_enter Tryd.func48, Tryd.ntmps48
  go_wp2_with fail
  generalize (w.alloc (.cells o.cells.toArray 73)).alloc (.cells t.cells.toArray 73) = W2 at *
  by_cases hd : o.n % 64 = 0
  · obtain ⟨q, hq⟩ : ∃ q, o.n = 64 * q := ⟨o.n / 64, by omega⟩
    have HQ := Lib.hid hq
    refine (lines_yes o.lb o.A o.n o.c q W2 I1.out hq).mono ?_
    rintro e W3 ⟨v3, rfl, ho3, hb3⟩
    obtain ⟨A3, c3, rfl, r3⟩ := Ln.own ho3 (by omega) ho.b1
    have t4 : W3.cell? ⟨w.heap.size + 1, 4, none⟩ = some (.slice t.A o.n t.c) := by
      rw [← HN.out]; exact range_cell (range_of_heap (heap_below hb3 HG2.out)) 4 _ rfl
    have HR := Lib.hid r3
    have HB3 := Lib.hid (HB.out.trans (hb3.mono HB.out.size))
    have I4 := Lib.hid (I3.out.below hb3)
    clear ho3 hb3 r3 hq hd
    go_wp2_with fail
    refine (refLines_yes o.lb t.A o.n t.c q W3 I4.out HQ.out).mono ?_
    rintro e W4 ⟨v4, rfl, ho4, hb4⟩
    have hq' := HQ.out
    obtain ⟨A4, c4, rfl, r4⟩ := Ln.own ho4 (by omega) ho.b1
    have HS := Lib.hid (sameLines_any _ A3 A4 _ c3 c4 W4 (HR.out.below hb4) r4)
    have HB4 := Lib.hid (HB3.out.trans (hb4.mono HB3.out.size))
    clear ho4 hb4 r4 hq'
    go_wp2_with fail
    refine HS.out.mono ?_
    rintro e W5 ⟨rfl, hb5⟩
    go_wp2_with fail
    go_ret
    exact ⟨rfl, HB4.out.trans (hb5.mono HB4.out.size)⟩
  · refine (lines_no o.A o.n o.c W2 hle hd).mono ?_
    rintro e W3 ⟨rfl, rfl⟩
    have t4 : W2.cell? ⟨w.heap.size + 1, 4, none⟩ = some (.slice t.A o.n t.c) := by
      rw [← HN.out]; exact range_cell (range_of_heap HG2.out) 4 _ rfl
    have HD := Lib.hid hd
    clear hd
    go_wp2_with fail
    refine (refLines_no t.A o.n t.c W2 hle HD.out).mono ?_
    rintro e W4 ⟨rfl, rfl⟩
    go_wp2_with fail
    refine (sameLines_any [] none none 0 0 0 W2 ⟨rfl, by omega, by simp, by omega⟩ ⟨rfl, by omega, by simp, by omega⟩).mono ?_
    rintro e W5 ⟨rfl, hb5⟩
    go_wp2_with fail
    go_ret
    exact ⟨rfl, HB.out.trans (hb5.mono HB.out.size)⟩

end Go.Proofs.YtelhmddigogmgaaDoor
