/-
New as a tree, and Copy of a tree of spans.
-/
import Derived.Test.YtfljnfmocmhhdaaPWKit
namespace Go.Proofs.Ytfljnfmocmhhdaa.Spn
open Go.RowKit Go.Shelf
attribute [local go_sem] Oper.semAt_some

/-- the labels of a new tree -/
def lbNew (n b : Nat) : Nat := if b = n then 2 else if b = n + 1 then 1 else 0
theorem cntN_zero : ∀ n, cntN (fun _ => (0, 0)) n = 0
  | 0 => rfl
  | n + 1 => by rw [cntN_succ, cntN_zero n]; simp
theorem new_shape (w : World) : TreeI ((w.alloc (.cells #[.pointer none, .pointer none, .pointer none, .pointer none, .pointer none, .pointer none, .pointer none, .pointer none, .int .i64 0, .int .i64 0, .int .i64 0, .int .i64 0, .int .i64 0, .int .i64 0, .int .i64 0, .int .i64 0, .int .i64 0, .int .i64 0, .int .i64 0, .int .i64 0, .int .i64 0, .int .i64 0, .int .i64 0, .int .i64 0] 119)).alloc (.cells #[.pointer (some ⟨w.heap.size, 0, none⟩), .int .i64 0] 121)) (w.heap.size + 1) (fun _ => (0, 0)) (lbNew w.heap.size) := by
  have h0 : NodeI (w.alloc (.cells (nodeI (fun _ => none) (fun _ => (0, 0))) 119)) w.heap.size (fun _ => none) (fun _ => (0, 0)) := NodeI.new w
  rw [nodeI_zero] at h0
  obtain ⟨w1, hw1⟩ : ∃ x, w.alloc (.cells #[.pointer none, .pointer none, .pointer none, .pointer none, .pointer none, .pointer none, .pointer none, .pointer none, .int .i64 0, .int .i64 0, .int .i64 0, .int .i64 0, .int .i64 0, .int .i64 0, .int .i64 0, .int .i64 0, .int .i64 0, .int .i64 0, .int .i64 0, .int .i64 0, .int .i64 0, .int .i64 0, .int .i64 0, .int .i64 0] 119) = x := ⟨_, rfl⟩
  have hs1 : w1.heap.size = w.heap.size + 1 := by rw [← hw1]; simp
  rw [hw1] at h0 ⊢
  have h1 : NodeI (w1.alloc (.cells #[.pointer (some ⟨w.heap.size, 0, none⟩), .int .i64 0] 121)) w.heap.size (fun _ => none) (fun _ => (0, 0)) := h0.chg ((Chg.refl (fun _ => False) _).alloc _) (fun h => h)
  have h2 := heap_alloc_new w1 (.cells #[.pointer (some ⟨w.heap.size, 0, none⟩), .int .i64 0] 121)
  rw [hs1] at h2
  refine ⟨w.heap.size, fun _ => none, fun _ => none, ?_, h1, fun _ _ _ h => (by cases h), fun _ _ _ h => (by cases h), fun _ _ _ _ _ => rfl, fun _ _ _ => rfl, by simp [lbNew], by simp [lbNew], fun _ _ _ h => (by cases h), fun _ _ _ h => (by cases h), fun b hb => ?_⟩
  · rw [show cntI (fun _ => (0, 0)) = 0 from cntN_zero 512]; exact h2
  · unfold lbNew at hb
    by_cases e : b = w.heap.size
    · subst e; exact ⟨_, _, h1⟩
    · rw [if_neg e] at hb
      by_cases e2 : b = w.heap.size + 1
      · subst e2; exact ⟨_, _, h2⟩
      · rw [if_neg e2] at hb; exact (hb rfl).elim

theorem new_tree (w : World) : Calls Try.prog 31 #[] w fun e w' => e = .returned (.pointer (some ⟨w.heap.size + 1, 0, none⟩)) ∧ TreeI w' (w.heap.size + 1) (fun _ => (0, 0)) (lbNew w.heap.size) ∧ Below w.heap.size w w' ∧ w'.heap.size = w.heap.size + 2 := by
  refine (new_any w).mono ?_
  rintro e w' ⟨he, rfl⟩
  exact ⟨he, new_shape w, ((Below.refl _ _).alloc (Nat.le_refl _) _).alloc (by simp) _, by simp⟩
theorem lbNew_ge {n b : Nat} (h : lbNew n b ≠ 0) : n ≤ b ∧ b < n + 2 := by
  unfold lbNew at h
  by_cases e : b = n
  · omega
  · rw [if_neg e] at h
    by_cases e2 : b = n + 1
    · omega
    · rw [if_neg e2] at h; exact (h rfl).elim

end Go.Proofs.Ytfljnfmocmhhdaa.Spn
