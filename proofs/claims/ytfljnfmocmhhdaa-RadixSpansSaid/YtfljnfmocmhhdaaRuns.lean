/-
Runs, plain: lists of runs, as numbers and as cells.
-/
import Derived.Test.YtfljnfmocmhhdaaWRound
namespace Go.Proofs.Ytfljnfmocmhhdaa
open Go.RowKit

/-- a run: its offset, page, count -/
abbrev Run := Int × Int × Int
/-- one offset more -/
def stepR (l : List Run) (a : Int) (pg : Int) : List Run :=
  match l.getLast? with
  | some (o, p, c) => if o + c = a ∧ wrap64 (p + c) = pg then l.dropLast ++ [(o, p, c + 1)] else l ++ [(a, pg, 1)]
  | none => l ++ [(a, pg, 1)]
def runsOf (xs : List (Nat × Int)) : List Run := xs.foldl (fun l x => stepR l x.1 x.2) []
theorem runsOf_snoc (pre : List (Nat × Int)) (x : Nat × Int) : runsOf (pre ++ [x]) = stepR (runsOf pre) x.1 x.2 := by simp [runsOf]
theorem stepR_nil (a pg : Int) : stepR [] a pg = [(a, pg, 1)] := rfl
theorem stepR_yes (l : List Run) (o p c a pg : Int) (h1 : o + c = a) (h2 : wrap64 (p + c) = pg) : stepR (l ++ [(o, p, c)]) a pg = l ++ [(o, p, c + 1)] := by
  simp [stepR, h1, h2]
theorem stepR_no (l : List Run) (o p c a pg : Int) (h : ¬ (o + c = a ∧ wrap64 (p + c) = pg)) : stepR (l ++ [(o, p, c)]) a pg = (l ++ [(o, p, c)]) ++ [(a, pg, 1)] := by
  simp only [stepR, List.getLast?_append, List.getLast?_singleton, Option.some_or]
  rw [if_neg h]

/-- what the list of runs of offsets below 512 holds -/
def RInv (l : List Run) : Prop := ∀ x ∈ l, 0 ≤ x.1 ∧ 1 ≤ x.2.2 ∧ x.1 + x.2.2 ≤ 512
theorem RInv.step {l : List Run} (h : RInv l) {a : Nat} (ha : a < 512) (pg : Int) : RInv (stepR l a pg) ∧ (stepR l a pg).length ≤ l.length + 1 := by
  rcases List.eq_nil_or_concat l with rfl | ⟨m, ⟨o, p, c⟩, rfl⟩
  · rw [stepR_nil]
    refine ⟨fun x hx => ?_, by simp⟩
    obtain rfl := List.mem_singleton.1 hx
    simp; omega
  · rw [List.concat_eq_append] at h ⊢
    have hl := h (o, p, c) (by simp)
    by_cases hc : o + c = a ∧ wrap64 (p + c) = pg
    · rw [stepR_yes _ _ _ _ _ _ hc.1 hc.2]
      refine ⟨fun x hx => ?_, by simp⟩
      rcases List.mem_append.1 hx with hx | hx
      · exact h x (by simp [hx])
      · obtain rfl := List.mem_singleton.1 hx
        have := hc.1
        simp at hl ⊢; omega
    · rw [stepR_no _ _ _ _ _ _ hc]
      refine ⟨fun x hx => ?_, by simp⟩
      rcases List.mem_append.1 hx with hx | hx
      · exact h x hx
      · obtain rfl := List.mem_singleton.1 hx
        simp; omega
theorem runsOf_inv : ∀ (xs : List (Nat × Int)), (∀ x ∈ xs, x.1 < 512) → RInv (runsOf xs) ∧ (runsOf xs).length ≤ xs.length := by
  intro xs
  generalize hn : xs.length = n
  induction n generalizing xs with
  | zero =>
    obtain rfl := List.eq_nil_of_length_eq_zero hn
    intro _
    refine ⟨fun x hx => ?_, by simp [runsOf]⟩
    simp [runsOf] at hx
  | succ n ih =>
    intro h
    rcases List.eq_nil_or_concat xs with rfl | ⟨m, x, rfl⟩
    · simp at hn
    · rw [List.concat_eq_append] at *
      obtain ⟨h1, h2⟩ := ih m (by simpa using hn) (fun y hy => h y (by simp [hy]))
      obtain ⟨h3, h4⟩ := h1.step (h x (by simp)) x.2
      rw [runsOf_snoc]
      exact ⟨h3, by omega⟩

/-- runs as cells -/
def cellsR (l : List Run) : List Value := l.flatMap fun x => [.int .i64 x.1, .int .i64 x.2.1, .int .i64 x.2.2]
theorem cellsR_len (l : List Run) : (cellsR l).length = l.length * 3 := by
  unfold cellsR
  induction l with
  | nil => rfl
  | cons x l ih => simp only [List.flatMap_cons, List.length_append, ih, List.length_cons, List.length_nil]; omega
theorem cellsR_append (l m : List Run) : cellsR (l ++ m) = cellsR l ++ cellsR m := by simp [cellsR]
theorem cellsR_last (l : List Run) (o p c : Int) (j : Nat) (hj : j < 3) : (cellsR (l ++ [(o, p, c)]))[l.length * 3 + j]? = some (.int .i64 (if j = 0 then o else if j = 1 then p else c)) := by
  rw [cellsR_append, List.getElem?_append_right (by rw [cellsR_len]; omega), cellsR_len, Nat.add_sub_cancel_left]
  rcases (by omega : j = 0 ∨ j = 1 ∨ j = 2) with rfl | rfl | rfl <;> rfl
theorem cellsR_bump (l : List Run) (o p c c' : Int) : (cellsR (l ++ [(o, p, c)])).set (l.length * 3 + 2) (.int .i64 c') = cellsR (l ++ [(o, p, c')]) := by
  rw [cellsR_append, cellsR_append, List.set_append_right (h := by rw [cellsR_len]; omega), cellsR_len, Nat.add_sub_cancel_left]
  rfl
theorem cellsR_at (l : List Run) (i : Nat) (x : Run) (h : l[i]? = some x) (j : Nat) (hj : j < 3) : (cellsR l)[i * 3 + j]? = some (.int .i64 (if j = 0 then x.1 else if j = 1 then x.2.1 else x.2.2)) := by
  induction l generalizing i with
  | nil => simp at h
  | cons y l ih =>
    cases i with
    | zero =>
      obtain rfl : y = x := by simpa using h
      rcases (by omega : j = 0 ∨ j = 1 ∨ j = 2) with rfl | rfl | rfl <;> rfl
    | succ i =>
      have := ih i (by simpa using h)
      rw [show (i + 1) * 3 + j = 3 + (i * 3 + j) by omega]
      simp only [cellsR, List.flatMap_cons] at this ⊢
      rw [List.getElem?_append_right (by simp)]
      simpa using this

/-- a cell of an own row -/
theorem own_at {W : World} {base n s : Nat} {e : TypeId} {g c : Nat} {xs : List Value} (h : W.ownsRow base e s (.slice (some ⟨g, 0, none⟩) n c) n xs) {j : Nat} {u : Value} (hj : xs[j]? = some u) : W.cell? ⟨g, j, none⟩ = some u ∧ W.frozen? ⟨g, j, none⟩ = false := by
  rcases h.2 with ⟨h1, _⟩ | ⟨g', cap, cur, h1, hb, hg, h2, h3, h4, h5⟩
  · cases h1
  · injection h1 with h1 _ _
    injection h1 with h1
    injection h1 with h1
    subst h1
    refine ⟨?_, frozen_of_row W g j _ _ hg⟩
    rw [cell_of_row W _ _ _ _ _ hg]
    rw [← h5, List.getElem?_take] at hj
    split at hj
    · simpa using hj
    · cases hj
/-- a store into an own row -/
theorem own_set {W : World} {base n s : Nat} {e : TypeId} {g c : Nat} {xs : List Value} (h : W.ownsRow base e s (.slice (some ⟨g, 0, none⟩) n c) n xs) (j : Nat) (u : Value) : (W.setCell ⟨g, j, none⟩ u).ownsRow base e s (.slice (some ⟨g, 0, none⟩) n c) n (xs.set j u) := by
  refine ⟨by rw [List.length_set]; exact h.1, ?_⟩
  rcases h.2 with ⟨h1, _⟩ | ⟨g', cap, cur, h1, hb, hg, h2, h3, h4, h5⟩
  · cases h1
  · injection h1 with h1 h6 h7
    injection h1 with h1
    injection h1 with h1
    subst h1 h7
    refine .inr ⟨g, c, cur.setIfInBounds j u, rfl, hb, heap_setCell_same W g j _ _ _ hg, h2, h3, by simpa using h4, ?_⟩
    rw [Array.toList_setIfInBounds, List.take_set, h5]
theorem own_slice {w : World} {B n : Nat} {e : TypeId} {s : Nat} {v : Value} {xs : List Value} (h : w.ownsRow B e s v n xs) : ∃ A c, v = .slice A n c ∧ (0 < n → ∃ g, A = some ⟨g, 0, none⟩) := by
  rcases h.2 with ⟨rfl, h1⟩ | ⟨g, cap, cur, rfl, _⟩
  · subst h1; exact ⟨none, 0, rfl, fun h => by omega⟩
  · exact ⟨_, cap, rfl, fun _ => ⟨g, rfl⟩⟩

end Go.Proofs.Ytfljnfmocmhhdaa
