/-
What the document's Close and Whole of a line compute: the same as the program's.
-/
import Derived.Test.YtelhmddigogmgaaDoorWOp
import Derived.Test.YtelhmddigogmgaaDoorLSpoilt
namespace Go.Proofs.YtelhmddigogmgaaDoor
open Go.RowKit

theorem own_le {w : World} {b b' e n : Nat} {v : Value} {xs : List Value} (h : w.ownsRow b' e 1 v n xs) (hb : b ≤ b') : w.ownsRow b e 1 v n xs :=
  ⟨h.1, h.2.elim Or.inl (fun ⟨g, cap, cur, hv, hg, r⟩ => Or.inr ⟨g, cap, cur, hv, Nat.le_trans hb hg, r⟩)⟩

set_option maxRecDepth 100000 in
set_option maxHeartbeats 1000000 in
theorem body_any (l : List Nat) (hn : l.length = 64) (w : World) :
    Calls Tryd.prog 60 #[.agg (u8s l)] w fun e w' => ∃ v, e = .returned v ∧ w'.ownsRow w.heap.size 5 1 v 60 (vals .u8 (l.take 60)) ∧ Below w.heap.size w w' := by
  obtain ⟨i0, hi, hz0, hz1, hz2⟩ := info_parts info5
  have hg0 : (w.alloc (.cells (u8s l) 33)).heap[w.heap.size]? = some (.cells (u8s l) 33 (0, 0)) := heap_alloc_new w _
  have hs0 : (w.alloc (.cells (u8s l) 33)).heap.size = w.heap.size + 1 := by simp
  have hb0 : Below w.heap.size w (w.alloc (.cells (u8s l) 33)) := (Below.refl _ _).alloc (Nat.le_refl _) _
  go_enter Tryd.func60, Tryd.ntmps60
  go_wp2_with fail
  generalize w.alloc (.cells (u8s l) 33) = W1 at *
  have HG := Lib.hid hg0
  have HB0 := Lib.hid hb0
  clear hg0 hb0
  go_loopw [3, 4] (fun s3 s4 wr => ∃ k : Nat, k ≤ 60 ∧ s4 = .int .i64 k ∧ Hid (wr.ownsRow W1.heap.size 5 1 s3 k (vals .u8 (l.take k))) ∧ Hid (Below W1.heap.size W1 wr)) (fun _ s4 _ => 60 - (intOf s4).toNat)
  case atStart => exact ⟨0, by omega, rfl, (by unfold Hid; exact World.ownsRow_nil _ _ _ _), Below.refl _ _⟩
  case round =>
    obtain ⟨k, hk, rfl, Hown, Hbel⟩ := hrel
    by_cases hlt : k < 60
    · have hs := Hbel.out.size
      have hgr := heap_below Hbel.out HG.out
      have hld : wr.cell? ⟨w.heap.size, k, none⟩ = some (.int .u8 (nth l k : Nat)) := by
        rw [cell_of_row wr _ k _ _ _ hgr]
        exact u8s_get l k (by omega)
      have h3 : Hid (l.take (k + 1) = l.take k ++ [nth l k]) := take_succ_nth l k (by omega)
      generalize nth l k = x at *
      clear hgr
      go_wp2_with (at_builtin; refine wpList_append_own _ rfl _ _ 23 rfl W1.heap.size 5 i0 (.int .u8 0) 1 1 Tryd.underlying23 hi hz0 hz1 hz2 rfl (by decide) _ k _ rfl (Hown.out.alloc _) ⟨wr.heap.size, 0, none⟩ 1 1 [.int .u8 (x : Nat)] rfl rfl (World.news_of_block (cs := #[.int .u8 (x : Nat)]) (t := 5) (fr := (0, 0)) (heap_alloc_new wr _)) (by simp [Value.oneCell']) (by simp only [maxLen]; omega) (by omega) (by simp; omega) ?_; intro v2 w2 hown2 hg2 _)
      have hb2 : Below W1.heap.size W1 w2 := (Hbel.out.alloc hs _).grown hg2 (by simp; omega) (fun b hb => (Hown.out.lt b hb).1)
      have hown3 : w2.ownsRow W1.heap.size 5 1 v2 (k + 1) (vals .u8 (l.take (k + 1))) := by
        rw [h3.out, vals_append]; exact hown2
      have H2 := Lib.hid hb2
      have H3 := Lib.hid hown3
      clear hb2 hown3 hown2 hg2
      go_wp2_with fail
      go_roundw
      case rel => exact ⟨k + 1, by omega, by go_num, H3, H2⟩
      case measure => simp [intOf]; omega
    · obtain rfl : k = 60 := by omega
      go_wp2_with fail
      go_ret
      exact ⟨_, rfl, own_le Hown.out (by omega), HB0.out.trans (Hbel.out.mono (by omega))⟩

theorem below_row {B : Nat} {w w' : World} (h : Below B w w') (g : Nat) (cs : Array Value) (hg : B ≤ g) : Below B w (w'.setRow g cs) :=
  ⟨h.os, h.tape, h.output, by simpa [World.setRow] using h.size, fun k hk => (setRow_other w' g k cs (by omega)).trans (h.block k hk)⟩

set_option maxRecDepth 100000 in
set_option maxHeartbeats 2000000 in
theorem refClose_any (l : List Nat) (hn : l.length = 64) (hl : ∀ x ∈ l, x < 256) (w : World) :
    Calls Tryd.prog 49 #[.agg (u8s l)] w fun e w' => e = .returned (.agg (u8s (closeN l))) ∧ Below w.heap.size w w' := by
  have hsz : (Tryd.prog.info? 33).map (·.size) = some (u8s l).size := by rw [u8s_size, hn]; exact size33
  have hcn := closeN_len l hn
  have hcz : (Tryd.prog.info? 33).map (·.size) = some (u8s (closeN l)).size := by rw [u8s_size, hcn]; exact size33
  have hone : (u8s (closeN l)).all (·.oneCell') = true := all_oneCell_toArray (fun v hv => by simp only [vals, List.mem_map] at hv; obtain ⟨x, _, rfl⟩ := hv; rfl)
  have HONE := Lib.hid hone
  have HN := Lib.hid hn
  have HL := Lib.hid hl
  have hs32 : sumN (l.take 60) < 18446744073709551616 := by have := sum60_lt hl; omega
  have HS32 := Lib.hid hs32
  clear hone hl hn hs32
  go_enter Tryd.func49, Tryd.ntmps49
  go_wp2_with (refine wpList_load_row rfl 33 (.tmp 1) rfl w.heap.size rfl 33 (u8s l) (0, 0) _ (heap_alloc2_old w _ _) Tryd.underlying33 rfl hsz ?_)
  rw [← zero64]
  have h2 : ((w.alloc (.cells (u8s l) 33)).alloc (.cells (u8s (List.replicate 64 0)) 33)).heap[w.heap.size + 1]? = some (.cells (u8s (List.replicate 64 0)) 33 (0, 0)) := heap_alloc2_new w _ _
  have hb2 : Below w.heap.size w ((w.alloc (.cells (u8s l) 33)).alloc (.cells (u8s (List.replicate 64 0)) 33)) := ((Below.refl _ _).alloc (Nat.le_refl _) _).alloc (by simp) _
  have hs2 : ((w.alloc (.cells (u8s l) 33)).alloc (.cells (u8s (List.replicate 64 0)) 33)).heap.size = w.heap.size + 2 := by simp
  generalize (w.alloc (.cells (u8s l) 33)).alloc (.cells (u8s (List.replicate 64 0)) 33) = W2 at *
  refine (body_any l HN.out W2).mono ?_
  rintro e W3 ⟨v, rfl, ho3, hb3⟩
  obtain ⟨A, cc, hv3, hr3⟩ := Rd.own ho3 (by omega)
  have H3 := Lib.hid (refSum_any _ (take_byte HL.out 60) A _ cc W3 hr3)
  have H4 := Lib.hid (refLay_any W2 v 60 (l.take 60) (sumN (l.take 60)) 4 (by omega) (by omega) HS32.out W3 ho3 hb3)
  have Hb2 := Lib.hid hb2
  have Hh2 := Lib.hid h2
  subst hv3
  clear ho3 hb3 hr3 hb2 h2
  obtain ⟨s, hs⟩ : ∃ s, s = sumN (l.take 60) := ⟨_, rfl⟩
  have HC : Hid (closeN l = l.take 60 ++ le 4 s) := by unfold Hid closeN; rw [hs]
  have hs4 : s < 4294967296 := by rw [hs]; exact sum60_lt HL.out
  rw [← hs] at H3 H4
  clear hs HS32
  go_wp2_with fail
  refine H3.out.mono ?_
  rintro e w' ⟨rfl, rfl⟩
  go_wp2_with fail
  refine H4.out.mono ?_
  rintro e W4 ⟨v4, rfl, ho4, hb4⟩
  rw [← HC.out] at ho4
  obtain ⟨A4, c4, rfl, hr4⟩ := Rd.own ho4 (by omega)
  have R4 := Lib.hid hr4
  have hh4 := Lib.hid (heap_below hb4 Hh2.out)
  have hs4' := hb4.size
  have HB4 := Lib.hid (Hb2.out.trans (hb4.mono Hb2.out.size))
  clear ho4 hr4 hb4 H3 H4 Hb2 Hh2
  go_wp2_with fail
  rw [← zero64]
  go_loopw [6] (fun v6 wr => ∃ k : Nat, k ≤ 64 ∧ v6 = .int .i64 k ∧ wr.heap[W4.heap.size]? = some (.cells (u8s (mixK (closeN l) (List.replicate 64 0) k)) 33 (0, 0)) ∧ Below W4.heap.size W4 wr) (fun v6 _ => 64 - (intOf v6).toNat)
  case atStart => exact ⟨0, by omega, rfl, by rw [mixK_zero _ _ zeros_len]; exact heap_alloc_new W4 _, (Below.refl _ _).alloc (Nat.le_refl _) _⟩
  case round =>
    obtain ⟨k, hk, rfl, hcur, hbel⟩ := hrel
    have Hcur := Lib.hid hcur
    have Hbel := Lib.hid hbel
    by_cases hlt : k < 64
    · obtain ⟨b, off, rfl, hcc⟩ := (R4.out.below hbel).at_ (by omega)
      have hld := hcc k (by omega)
      have hfr := frozen_of_row wr W4.heap.size k _ _ hcur
      have hst : wr.cell? ⟨W4.heap.size, k, none⟩ = some (.int .u8 (nth (mixK (closeN l) (List.replicate 64 0) k) k : Nat)) := by
        rw [cell_of_row wr _ k _ _ _ hcur]
        exact u8s_get _ k (by rw [mixK_len]; exact hlt)
      clear hcur hbel hcc
      go_wp2_with fail
      go_roundw
      case rel => exact ⟨k + 1, by omega, by go_num, by rw [heap_setCell_same _ _ _ _ _ _ Hcur.out, mixK_step], Hbel.out.setCell (Nat.le_refl _) _⟩
      case measure => simp [intOf]; omega
    · have hk2 : k = 64 := by omega
      rw [hk2, mixK_end _ _ hcn] at hcur
      have hg2 := heap_below hbel hh4.out
      have hB := HB4.out.trans (hbel.mono HB4.out.size)
      clear Hcur Hbel hk2
      have hgs : (u8s (List.replicate 64 0)).size = (u8s (closeN l)).size := by rw [u8s_size, u8s_size, hcn]; simp
      go_wp2_with (first | (refine wpList_load_row rfl 33 (.tmp 5) rfl W4.heap.size rfl 33 (u8s (closeN l)) (0, 0) _ hcur Tryd.underlying33 rfl hcz ?_) | (refine wpList_store_row rfl 33 (.tmp 2) (.tmp 25) rfl (w.heap.size + 1) (u8s (closeN l)) rfl rfl 33 _ hg2 hcz hgs HONE.out ?_))
      exact bodyPost_ret (results_cell_row rfl _ _ (w.heap.size + 1) 33 (u8s (closeN l)) (0, 0) _ rfl (setRow_heap wr _ _ _ _ _ hg2) Tryd.underlying33 rfl hcz) rfl ⟨rfl, below_row hB _ _ (by omega)⟩

/-- whole, by its last four bytes -/
theorem whole_four (l : List Nat) (hn : l.length = 64) : wholeB l = decide (nth (closeN l) 60 = nth l 60 ∧ nth (closeN l) 61 = nth l 61 ∧ nth (closeN l) 62 = nth l 62 ∧ nth (closeN l) 63 = nth l 63) := by
  unfold wholeB
  congr 1
  apply propext
  constructor
  · intro h
    rw [h]
    exact ⟨rfl, rfl, rfl, rfl⟩
  · rintro ⟨h0, h1, h2, h3⟩
    have hc := closeN_len l hn
    apply List.ext_getElem (by rw [hc, hn])
    intro i g1 g2
    rw [← nth_get _ i g1, ← nth_get _ i g2]
    by_cases h : i < 60
    · exact close_head l hn i h
    · rcases (by omega : i = 60 ∨ i = 61 ∨ i = 62 ∨ i = 63) with rfl | rfl | rfl | rfl
      · exact h0
      · exact h1
      · exact h2
      · exact h3

set_option maxRecDepth 100000 in
set_option maxHeartbeats 4000000 in
theorem refWhole_any (l : List Nat) (hn : l.length = 64) (hl : ∀ x ∈ l, x < 256) (w : World) :
    Calls Tryd.prog 50 #[.agg (u8s l)] w fun e w' => e = .returned (.bool (wholeB l)) ∧ Below w.heap.size w w' := by
  have hsz : (Tryd.prog.info? 33).map (·.size) = some (u8s l).size := by rw [u8s_size, hn]; exact size33
  have hcn := closeN_len l hn
  have H := Lib.hid (refClose_any l hn hl (w.alloc (.cells (u8s l) 33)))
  have HW := Lib.hid (whole_four l hn)
  have hone : (u8s (closeN l)).all (·.oneCell') = true := all_oneCell_toArray (fun v hv => by simp only [vals, List.mem_map] at hv; obtain ⟨x, _, rfl⟩ := hv; rfl)
  have hcs : (u8s (closeN l)).size = 64 := by rw [u8s_size]; exact hcn
  have HONE := Lib.hid hone
  clear hl hone
  go_enter Tryd.func50, Tryd.ntmps50
  go_wp2_with (refine wpList_load_row rfl 33 (.tmp 1) rfl w.heap.size rfl 33 (u8s l) (0, 0) _ (heap_alloc_new w _) Tryd.underlying33 rfl hsz ?_)
  refine H.out.mono ?_
  rintro e W1 ⟨rfl, hb⟩
  have hst := run_storeCells_new (P := Tryd.prog) W1 33 (u8s (List.replicate 64 0)) (u8s (closeN l)) (by rw [hcs]; exact size33) (by rw [hcs, u8s_size]; simp) HONE.out
  rw [zero64] at hst
  have hb0 : Below w.heap.size w (w.alloc (.cells (u8s l) 33)) := (Below.refl _ _).alloc (Nat.le_refl _) _
  have hg1 := heap_below hb (heap_alloc_new w (.cells (u8s l) 33))
  have hlt1 : w.heap.size < W1.heap.size := (Array.getElem?_eq_some_iff.1 hg1).1
  have hg1' : (W1.alloc (.cells (u8s (closeN l)) 33)).heap[w.heap.size]? = some (.cells (u8s l) 33 (0, 0)) := (heap_alloc_old W1 _ hlt1).trans hg1
  have hg2 : (W1.alloc (.cells (u8s (closeN l)) 33)).heap[W1.heap.size]? = some (.cells (u8s (closeN l)) 33 (0, 0)) := heap_alloc_new W1 _
  have HB := Lib.hid ((hb0.trans (hb.mono hb0.size)).alloc (by omega) (.cells (u8s (closeN l)) 33))
  have a0 : (W1.alloc (.cells (u8s (closeN l)) 33)).cell? ⟨w.heap.size, 60, none⟩ = some (.int .u8 (nth l 60 : Nat)) := by rw [cell_of_row _ _ _ _ _ _ hg1']; exact u8s_get l 60 (by omega)
  have a1 : (W1.alloc (.cells (u8s (closeN l)) 33)).cell? ⟨w.heap.size, 61, none⟩ = some (.int .u8 (nth l 61 : Nat)) := by rw [cell_of_row _ _ _ _ _ _ hg1']; exact u8s_get l 61 (by omega)
  have a2 : (W1.alloc (.cells (u8s (closeN l)) 33)).cell? ⟨w.heap.size, 62, none⟩ = some (.int .u8 (nth l 62 : Nat)) := by rw [cell_of_row _ _ _ _ _ _ hg1']; exact u8s_get l 62 (by omega)
  have a3 : (W1.alloc (.cells (u8s (closeN l)) 33)).cell? ⟨w.heap.size, 63, none⟩ = some (.int .u8 (nth l 63 : Nat)) := by rw [cell_of_row _ _ _ _ _ _ hg1']; exact u8s_get l 63 (by omega)
  have b0 : (W1.alloc (.cells (u8s (closeN l)) 33)).cell? ⟨W1.heap.size, 60, none⟩ = some (.int .u8 (nth (closeN l) 60 : Nat)) := by rw [cell_of_row _ _ _ _ _ _ hg2]; exact u8s_get _ 60 (by omega)
  have b1 : (W1.alloc (.cells (u8s (closeN l)) 33)).cell? ⟨W1.heap.size, 61, none⟩ = some (.int .u8 (nth (closeN l) 61 : Nat)) := by rw [cell_of_row _ _ _ _ _ _ hg2]; exact u8s_get _ 61 (by omega)
  have b2 : (W1.alloc (.cells (u8s (closeN l)) 33)).cell? ⟨W1.heap.size, 62, none⟩ = some (.int .u8 (nth (closeN l) 62 : Nat)) := by rw [cell_of_row _ _ _ _ _ _ hg2]; exact u8s_get _ 62 (by omega)
  have b3 : (W1.alloc (.cells (u8s (closeN l)) 33)).cell? ⟨W1.heap.size, 63, none⟩ = some (.int .u8 (nth (closeN l) 63 : Nat)) := by rw [cell_of_row _ _ _ _ _ _ hg2]; exact u8s_get _ 63 (by omega)
  clear hg1 hg1' hg2 hb hb0 H
  generalize nth l 60 = p0 at *
  generalize nth (closeN l) 60 = q0 at *
  generalize nth l 61 = p1 at *
  generalize nth (closeN l) 61 = q1 at *
  generalize nth l 62 = p2 at *
  generalize nth (closeN l) 62 = q2 at *
  generalize nth l 63 = p3 at *
  generalize nth (closeN l) 63 = q3 at *
  by_cases e0 : q0 = p0
  · have f0 : ((q0 : Int) == (p0 : Int)) = true := by simpa using (by omega : (q0 : Int) = p0)
    by_cases e1 : q1 = p1
    · have f1 : ((q1 : Int) == (p1 : Int)) = true := by simpa using (by omega : (q1 : Int) = p1)
      by_cases e2 : q2 = p2
      · have f2 : ((q2 : Int) == (p2 : Int)) = true := by simpa using (by omega : (q2 : Int) = p2)
        by_cases e3 : q3 = p3
        · have f3 : ((q3 : Int) == (p3 : Int)) = true := by simpa using (by omega : (q3 : Int) = p3)
          go_wp2_with fail
          go_ret
          exact ⟨ret_bool (by rw [HW.out]; simp [e0, e1, e2, e3]), HB.out⟩
        · have f3 : ((q3 : Int) == (p3 : Int)) = false := by simpa using (by omega : ¬ (q3 : Int) = p3)
          go_wp2_with fail
          go_ret
          exact ⟨ret_bool (by rw [HW.out]; simp [e0, e1, e2, e3]), HB.out⟩
      · have f2 : ((q2 : Int) == (p2 : Int)) = false := by simpa using (by omega : ¬ (q2 : Int) = p2)
        go_wp2_with fail
        go_ret
        exact ⟨ret_bool (by rw [HW.out]; simp [e0, e1, e2]), HB.out⟩
    · have f1 : ((q1 : Int) == (p1 : Int)) = false := by simpa using (by omega : ¬ (q1 : Int) = p1)
      go_wp2_with fail
      go_ret
      exact ⟨ret_bool (by rw [HW.out]; simp [e0, e1]), HB.out⟩
  · have f0 : ((q0 : Int) == (p0 : Int)) = false := by simpa using (by omega : ¬ (q0 : Int) = p0)
    go_wp2_with fail
    go_ret
    exact ⟨ret_bool (by rw [HW.out]; simp [e0]), HB.out⟩

theorem op_line {W : World} {g : Nat} {o : OpV} (h : W.rangeAt g 0 o.cells) : W.rangeAt g 6 (vals .u8 o.ln) := fun j v hv => by
  have := h (6 + j) v (by simpa [OpV.cells, Nat.add_comm 6 j] using hv)
  simpa using this
theorem eql_close (l : List Nat) (hn : l.length = 64) (hl : ∀ x ∈ l, x < 256) : ∀ (o : Oper) (x y : Operand) (_ : o.op = .binOp .eql 33 x y 33) (a : Act) (_ : a.eval x = .agg (u8s (closeN l))) (_ : a.eval y = .agg (u8s (closeN l))), ∀ W : World, (execOp a.eval o).run Tryd.prog W = .ok (.value (.bool true)) W := fun o x y ho a hx hy W => by
  have := eql_u8s o x y ho a _ _ hx hy (closeN_len l hn) (closeN_len l hn) (closeN_byte hl) (closeN_byte hl) W
  simpa using this

end Go.Proofs.YtelhmddigogmgaaDoor
