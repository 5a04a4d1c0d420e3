/-
The document's Copy of a tree of ints.
-/
import Derived.Test.YtfljnfmocmhhdaaWRefLoad
import Derived.Deep.MidRow
namespace Go.Proofs.Ytfljnfmocmhhdaa
open Go.RowKit

theorem fold_set (l : List Value) : ∀ (k : Nat) (a : Array Value), k + l.length = a.size → ((l.zipIdx k).foldl (fun cs (p : Value × Nat) => cs.setIfInBounds (0 + p.2) p.1) a).toList = a.toList.take k ++ l := by
  induction l with
  | nil =>
    intro k a h
    simp only [List.zipIdx_nil, List.foldl_nil, List.append_nil]
    rw [List.take_of_length_le (by simp at h ⊢; omega)]
  | cons x l ih =>
    intro k a h
    simp only [List.length_cons] at h
    rw [List.zipIdx_cons, List.foldl_cons, ih (k + 1) _ (by simp; omega)]
    simp only [Nat.zero_add, Array.toList_setIfInBounds]
    rw [List.take_add_one, List.take_set, List.getElem?_set_self (by simp; omega), List.set_eq_of_length_le (by simp; omega)]
    simp
theorem fold129 (cs : Array Value) (h : cs.size = 512) : Array.foldl (fun cs (x : Value × Nat) => cs.setIfInBounds x.snd x.fst) Try.zeroCells129 cs.zipIdx 0 cs.size = cs := by
  have hsz : Try.zeroCells129.size = 512 := by kernel_rfl
  generalize Try.zeroCells129 = Z at *
  have hf := fold_set cs.toList 0 Z (by simp; omega)
  rw [show cs.size = cs.zipIdx.size by simp]
  apply Array.ext'
  rw [← Array.foldl_toList, Array.toList_zipIdx]
  simpa using hf

set_option maxRecDepth 100000 in
set_option maxHeartbeats 1000000 in
theorem ref_copy (w : World) (q : Nat) (f : Nat → Int) (h : RefT w q f) : Calls Try.prog 75 #[.pointer (some ⟨q, 0, none⟩)] w fun e w' => e = .returned (.pointer (some ⟨w.heap.size, 0, none⟩)) ∧ RefT w' w.heap.size f ∧ Below w.heap.size w w' := by
  have hrg : w.rangeAt q 0 (refC f).toList := fun j v hv => by
    rw [Nat.zero_add, cell_of_row w _ _ _ _ _ h]; simpa using hv
  have hsz : (Try.prog.info? 127).map (·.size) = some (refC f).toList.length := by
    rw [show (refC f).toList.length = 512 by simp [refC_size]]; kernel_rfl
  have HRG := Lib.hid hrg
  have HSZ := Lib.hid hsz
  have hs := refC_size f
  have hfo := fold129 (refC f) hs
  have HE : Hid (RefT (w.alloc (.cells (refC f) 129)) w.heap.size f) := heap_alloc_new w _
  clear h hrg hsz
  rw [hs] at hfo
  generalize refC f = Z at *
  go_enter Try.func75, Try.ntmps75
  go_wp2_with fail
  refine wp_load_mid 127 _ rfl q 0 rfl Z.toList _ HRG.out Try.underlying127 rfl HSZ.out ?_
  rw [show Z.toList.toArray = Z by simp]
  go_wp2_with fail
  go_ret
  exact ⟨rfl, HE.out, (Below.refl _ _).alloc (Nat.le_refl _) _⟩

end Go.Proofs.Ytfljnfmocmhhdaa
