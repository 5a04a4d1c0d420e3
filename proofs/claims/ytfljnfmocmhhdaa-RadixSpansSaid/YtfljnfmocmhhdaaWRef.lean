/-
The document's tree of ints: a block of 512 cells. New, Set, Get.
-/
import Derived.Test.YtfljnfmocmhhdaaWLoad
namespace Go.Proofs.Ytfljnfmocmhhdaa
open Go.RowKit

def refC (f : Nat → Int) : Array Value := ((List.range 512).map fun i => Value.int .i64 (f i)).toArray
theorem refC_size (f : Nat → Int) : (refC f).size = 512 := by simp [refC]
theorem refC_get (f : Nat → Int) (i : Nat) (h : i < 512) : (refC f)[i]? = some (.int .i64 (f i)) := by
  simp [refC, h]
theorem refC_set (f : Nat → Int) (i : Nat) (x : Int) : (refC f).setIfInBounds i (.int .i64 x) = refC (upd f i x) := by
  apply Array.ext'
  rw [Array.toList_setIfInBounds]
  apply List.ext_getElem?
  intro j
  simp only [refC, List.toList_toArray]
  rw [List.getElem?_set]
  by_cases h : i = j
  · subst h
    by_cases hl : i < 512
    · simp [hl, upd_same]
    · simp [hl]
  · rw [if_neg h]
    simp only [List.getElem?_map]
    by_cases hl : j < 512
    · rw [List.getElem?_range hl]; simp [upd_other f x (fun e => h e.symm)]
    · rw [List.getElem?_eq_none (by simp; omega)]; rfl
def RefT (w : World) (q : Nat) (f : Nat → Int) : Prop := w.heap[q]? = some (.cells (refC f) 129 (0, 0))
section
variable {w w' : World} {q : Nat} {f : Nat → Int}
theorem RefT.cell (h : RefT w q f) (i : Nat) (hi : i < 512) : w.cell? ⟨q, i, none⟩ = some (.int .i64 (f i)) := by
  rw [cell_of_row w _ _ _ _ _ h]; exact refC_get f i hi
theorem RefT.free (h : RefT w q f) (i : Nat) : w.frozen? ⟨q, i, none⟩ = false := frozen_of_row w q i _ _ h
theorem RefT.set (h : RefT w q f) (i : Nat) (x : Int) : RefT (w.setCell ⟨q, i, none⟩ (.int .i64 x)) q (upd f i x) := by
  unfold RefT; rw [← refC_set]; exact heap_setCell_same w q i _ _ _ h
theorem RefT.chg {D : Nat → Prop} (h : RefT w q f) (hc : Chg D w w') (hn : ¬ D q) : RefT w' q f := hc.heap h hn
theorem RefT.below (h : RefT w q f) (hb : Below w.heap.size w w') : RefT w' q f := h.chg (Chg.of_below (fun _ => False) hb) (fun h => h)
theorem RefT.lt (h : RefT w q f) : q < w.heap.size := heap_lt h
theorem RefT.congr {f' : Nat → Int} (h : RefT w q f) (e : ∀ i, i < 512 → f i = f' i) : RefT w q f' := by
  have : refC f = refC f' := by
    unfold refC
    rw [List.map_congr_left (g := fun i => Value.int .i64 (f' i)) fun i hi => by rw [e i (List.mem_range.1 hi)]]
  unfold RefT; rw [← this]; exact h
end

theorem build129 : ∀ w : World, (zeroValue 129).run Try.prog w = .ok (.agg (refC (fun _ => 0))) w := fun _ => by kernel_rfl

set_option maxRecDepth 100000 in
set_option maxHeartbeats 1000000 in
theorem ref_new (w : World) : Calls Try.prog 60 #[] w fun e w' => e = .returned (.pointer (some ⟨w.heap.size, 0, none⟩)) ∧ w' = w.alloc (.cells (refC (fun _ => 0)) 129) := by
  have hb := build129
  generalize refC (fun _ => 0) = Z at *
  go_enter Try.func60, Try.ntmps60
  go_wp2_with fail
  go_ret
  exact ⟨rfl, rfl⟩
theorem ref_new_tree (w : World) : Calls Try.prog 60 #[] w fun e w' => e = .returned (.pointer (some ⟨w.heap.size, 0, none⟩)) ∧ RefT w' w.heap.size (fun _ => 0) ∧ Below w.heap.size w w' ∧ w'.heap.size = w.heap.size + 1 := by
  refine (ref_new w).mono ?_
  rintro e w' ⟨he, rfl⟩
  exact ⟨he, heap_alloc_new w _, (Below.refl _ _).alloc (Nat.le_refl _) _, by simp⟩

theorem ref_get (w : World) (q : Nat) (f : Nat → Int) (h : RefT w q f) (off : Nat) (ho : off < 512) : Calls Try.prog 70 #[.pointer (some ⟨q, 0, none⟩), .int .i64 off] w fun e w' => e = .returned (.int .i64 (f off)) ∧ w = w' := by
  have hc := h.cell off ho
  clear h
  go_enter Try.func70, Try.ntmps70
  go_wp2_with fail
  go_ret
  exact ⟨rfl, rfl⟩
theorem ref_get_out (w : World) (q : Nat) (off : Int) (h : off < 0 ∨ 512 ≤ off) : Calls Try.prog 70 #[.pointer (some ⟨q, 0, none⟩), .int .i64 off] w fun e w' => e = .returned (.int .i64 0) ∧ w = w' := by
  rcases h with h | h
  · go_enter Try.func70, Try.ntmps70
    go_wp2_with fail
    go_ret
    exact ⟨rfl, rfl⟩
  · have h1 : ¬ off < 0 := by omega
    have h2 : 0 ≤ off := by omega
    go_enter Try.func70, Try.ntmps70
    go_wp2_with fail
    go_ret
    exact ⟨rfl, rfl⟩
theorem ref_set (w : World) (q : Nat) (f : Nat → Int) (h : RefT w q f) (off : Nat) (ho : off < 512) (v : Int) : Calls Try.prog 69 #[.pointer (some ⟨q, 0, none⟩), .int .i64 off, .int .i64 v] w fun e w' =>
    e = .returned (.tuple #[.int .i64 (f off), .int .i64 0]) ∧ RefT w' q (upd f off v) ∧ Chg (fun b => b = q) w w' := by
  have hc := h.cell off ho
  have hf := h.free off
  have HR := Lib.hid (h.set off v)
  clear h
  go_enter Try.func69, Try.ntmps69
  go_wp2_with fail
  go_ret2
  exact ⟨rfl, HR.out, (Chg.refl (fun b => b = q) w).setCell (p := ⟨q, off, none⟩) (fun _ => rfl) _⟩
theorem ref_set_out (w : World) (q : Nat) (off v : Int) (h : off < 0 ∨ 512 ≤ off) : Calls Try.prog 69 #[.pointer (some ⟨q, 0, none⟩), .int .i64 off, .int .i64 v] w fun e w' => e = .returned (.tuple #[.int .i64 0, .int .i64 70]) ∧ w = w' := by
  rcases h with h | h
  · go_enter Try.func69, Try.ntmps69
    go_wp2_with fail
    go_ret2
    exact ⟨rfl, rfl⟩
  · have h1 : ¬ off < 0 := by omega
    have h2 : 0 ≤ off := by omega
    go_enter Try.func69, Try.ntmps69
    go_wp2_with fail
    go_ret2
    exact ⟨rfl, rfl⟩

end Go.Proofs.Ytfljnfmocmhhdaa
