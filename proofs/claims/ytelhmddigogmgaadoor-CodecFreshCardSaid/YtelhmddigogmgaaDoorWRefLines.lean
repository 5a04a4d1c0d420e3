/-
What the document's Lines computes: the same as the program's.
-/
import Derived.Test.YtelhmddigogmgaaDoorWRefList
import Derived.Test.YtelhmddigogmgaaDoorLSpoilt
namespace Go.Proofs.YtelhmddigogmgaaDoor
open Go.RowKit

set_option maxHeartbeats 1000000 in
theorem refLines_no (A : Option Addr) (n c : Nat) (w : World) (hn : n ≤ 140737488355328) (h : n % 64 ≠ 0) :
    Calls Tryd.prog 59 #[.slice A n c] w fun e w' => e = .returned (.tuple #[.slice none 0 0, .int .i64 20]) ∧ w = w' := by
  have h1 : (((n : Int) % 64) != 0) = true := by simp; omega
  clear h
  go_enter Tryd.func59, Tryd.ntmps59
  go_wp2_with fail
  go_ret2
  exact ⟨rfl, rfl⟩

set_option maxRecDepth 100000 in
set_option maxHeartbeats 4000000 in
theorem refLines_yes (l : List Nat) (A : Option Addr) (n c q : Nat) (w : World) (hr : Rd w .u8 A n c l) (hq : n = 64 * q) :
    Calls Tryd.prog 59 #[.slice A n c] w fun e w' => ∃ v, e = .returned (.tuple #[v, .int .i64 0]) ∧ w'.ownsRow w.heap.size 33 64 v q (vals .u8 l) ∧ Below w.heap.size w w' := by
  have hn := hr.lt
  have h1 : (((n : Int) % 64) != 0) = false := by simp; omega
  have hq1 : 64 * q ≤ n := by omega
  have hq2 : n ≤ 64 * q := by omega
  have Hr := Lib.hid hr
  have Hq := Lib.hid hq
  obtain ⟨i0, hi, hz0, hz1, hz2⟩ := info_parts info33
  have Hz0 := Lib.hid hz0
  have hu := Tryd.underlying33
  clear hr hq hz0
  go_enter Tryd.func59, Tryd.ntmps59
  go_wp2_with fail
  go_loopw [4, 5] (fun v4 v5 wr => ∃ k P : Nat, k ≤ q ∧ v5 = .int .i64 P ∧ Hid (P = 64 * k) ∧ wr.ownsRow w.heap.size 33 64 v4 k (vals .u8 (l.take (64 * k))) ∧ Below w.heap.size w wr) (fun _ v5 _ => 64 * q - (intOf v5).toNat)
  case atStart => exact ⟨0, 0, by omega, rfl, rfl, World.ownsRow_nil _ _ _ _, Below.refl _ _⟩
  case round =>
    obtain ⟨k, P, hk, rfl, HP, hown, hbel⟩ := hrel
    have Hown := Lib.hid hown
    have Hbel := Lib.hid hbel
    clear hown hbel
    by_cases hlt : k < q
    · have hPn : P + 64 ≤ n := by have := HP.out; omega
      have hR := Lib.hid (Hr.out.below Hbel.out)
      have hsl : ((l.drop P).take 64).length = 64 := by have := Hr.out.len; simp; omega
      have hsz : (Tryd.prog.info? 33).map (·.size) = some (vals .u8 ((l.drop P).take 64)).length := by rw [vals_len, hsl]; exact size33
      have HS : Hid (l.take (64 * (k + 1)) = l.take (64 * k) ++ (l.drop P).take 64) := by
        unfold Hid
        rw [HP.out, show 64 * (k + 1) = 64 * k + 64 from by omega, List.take_add]
      have HSG := Lib.hid (fun j (hj : j < 64) => nth_take (l.drop P) 64 j hj)
      have HND := Lib.hid (fun j => nth_drop l P j)
      have hs := Hbel.out.size
      have ht : (P : Int) < (n : Int) := by omega
      have Hsl := Lib.hid hsl
      have hfold := fold_line _ hsl
      have hvl : (vals .u8 ((l.drop P).take 64)).length = 64 := by rw [vals_len, hsl]
      rw [zero64] at hfold
      clear hsl
      obtain ⟨seg, hseg⟩ : ∃ seg, seg = (l.drop P).take 64 := ⟨_, rfl⟩
      rw [← hseg] at hsz HS HSG Hsl hfold hvl
      clear hseg
      generalize wr = wo at *
      go_wp2_with fail
      rw [← zero64]
      go_loopw [7] (fun v7 wr => ∃ j : Nat, j ≤ 64 ∧ v7 = .int .i64 j ∧ wr.heap[wo.heap.size]? = some (.cells (u8s (mixK seg (List.replicate 64 0) j)) 33 (0, 0)) ∧ Below wo.heap.size wo wr) (fun v7 _ => 64 - (intOf v7).toNat)
      case atStart => exact ⟨0, by omega, rfl, by rw [mixK_zero _ _ zeros_len]; exact heap_alloc_new wo _, (Below.refl _ _).alloc (Nat.le_refl _) _⟩
      case round =>
        obtain ⟨j, hj, rfl, hcur, hbel⟩ := hrel
        have Hcur := Lib.hid hcur
        have Hb2 := Lib.hid hbel
        by_cases hjl : j < 64
        · obtain ⟨b, off, rfl, hcc⟩ := (hR.out.below hbel).at_ (by omega)
          have hld := hcc (P + j) (by omega)
          rw [← HND.out j, ← HSG.out j hjl] at hld
          have hfr := frozen_of_row wr wo.heap.size j _ _ hcur
          have hst : wr.cell? ⟨wo.heap.size, j, none⟩ = some (.int .u8 (nth (mixK seg (List.replicate 64 0) j) j : Nat)) := by
            rw [cell_of_row wr _ j _ _ _ hcur]
            exact u8s_get _ j (by rw [mixK_len]; exact hjl)
          clear hcur hbel hcc hfold hvl
          go_wp2_with fail
          go_roundw
          case rel => exact ⟨j + 1, by omega, by go_num, by rw [heap_setCell_same _ _ _ _ _ _ Hcur.out, mixK_step], Hb2.out.setCell (Nat.le_refl _) _⟩
          case measure => simp [intOf]; omega
        · have hj2 : j = 64 := by omega
          rw [hj2, mixK_end seg _ Hsl.out] at hcur
          have hrg : wr.rangeAt wo.heap.size 0 (vals .u8 seg) := range_of_heap (cs := vals .u8 seg) hcur
          have Ho2 := Lib.hid (own_under Hown.out hbel)
          have Hb4 := Lib.hid (Hbel.out.trans (hbel.mono hs))
          have hs4 := hbel.size
          clear hcur hbel Hcur hj2
          go_wp2_with (first | (refine wpList_load_mid rfl 33 (.tmp 6) rfl wo.heap.size 0 rfl (vals .u8 seg) _ hrg hu rfl hsz ?_) | (at_builtin; go_loud (refine wpList_append_own _ rfl _ _ 51 rfl w.heap.size 33 i0 (.agg (u8s (List.replicate 64 0))) 64 64 Tryd.underlying51 hi Hz0.out hz1 hz2 (by rw [Value.cells, u8s_size]; simp) (by decide) _ k _ rfl (Ho2.out.alloc _) ⟨wr.heap.size, 0, none⟩ 1 1 (vals .u8 seg) rfl (by rw [vals_len, Hsl.out]) (World.news_of_block (cs := (vals .u8 seg).toArray) (t := 33) (fr := (0, 0)) (heap_alloc_new wr _)) (vals_one _ _) (by simp only [maxLen]; omega) (by omega) (by simp; omega) ?_); intro v2 w2 hown2 hg2 _))
          have hb2 : Below w.heap.size w w2 := (Hb4.out.alloc (by omega) _).grown hg2 (by simp; omega) (fun b hb => (Ho2.out.lt b hb).1)
          have hown3 : w2.ownsRow w.heap.size 33 64 v2 (k + 1) (vals .u8 (l.take (64 * (k + 1)))) := by
            rw [HS.out, vals_append]; exact hown2
          have H2 := Lib.hid hb2
          have H3 := Lib.hid hown3
          clear hb2 hown3 hown2 hg2
          go_wp2_with fail
          go_roundw
          case rel => exact ⟨k + 1, P + 64, by omega, by go_num, (by unfold Hid; rw [HP.out]; omega), H3.out, H2.out⟩
          case measure => simp [intOf]; omega
    · obtain rfl : k = q := by omega
      have ht : ¬ (P : Int) < (n : Int) := by have := HP.out; omega
      have H9 := Hown.out
      rw [← Hq.out, ← Hr.out.len, List.take_length] at H9
      have H9 := Lib.hid H9
      go_wp2_with fail
      go_ret2
      exact ⟨_, rfl, H9.out, Hbel.out⟩

end Go.Proofs.YtelhmddigogmgaaDoor
