/-
What the scripts of sets hold between two steps: three trees of the program, three of the document, alike.
-/
import Derived.Test.YtfljnfmocmhhdaaWSame
namespace Go.Proofs.Ytfljnfmocmhhdaa
open Go.RowKit

def bothC (r q : Nat → Option Nat) : Array Value := #[opt (r 0), opt (r 1), opt (r 2), opt (q 0), opt (q 1), opt (q 2)]
def some3 (n : Nat) (r : Nat → Nat) (i : Nat) : Option Nat := if i < n then some (r i) else none
theorem bothC_p (r q : Nat → Option Nat) (i : Nat) (h : i < 3) : (bothC r q)[i]? = some (opt (r i)) := by
  rcases (by omega : i = 0 ∨ i = 1 ∨ i = 2) with rfl | rfl | rfl <;> rfl
theorem bothC_q (r q : Nat → Option Nat) (i : Nat) (h : i < 3) : (bothC r q)[3 + i]? = some (opt (q i)) := by
  rcases (by omega : i = 0 ∨ i = 1 ∨ i = 2) with rfl | rfl | rfl <;> rfl
theorem bothC_setp (r q : Nat → Option Nat) (i : Nat) (h : i < 3) (x : Option Nat) : (bothC r q).setIfInBounds i (opt x) = bothC (upd r i x) q := by
  rcases (by omega : i = 0 ∨ i = 1 ∨ i = 2) with rfl | rfl | rfl <;> rfl
theorem bothC_setq (r q : Nat → Option Nat) (i : Nat) (h : i < 3) (x : Option Nat) : (bothC r q).setIfInBounds (3 + i) (opt x) = bothC r (upd q i x) := by
  rcases (by omega : i = 0 ∨ i = 1 ∨ i = 2) with rfl | rfl | rfl <;> rfl
theorem bothC_congr {r r' q q' : Nat → Option Nat} (h1 : ∀ i, i < 3 → r i = r' i) (h2 : ∀ i, i < 3 → q i = q' i) : bothC r q = bothC r' q' := by
  simp only [bothC, h1 0 (by omega), h1 1 (by omega), h1 2 (by omega), h2 0 (by omega), h2 1 (by omega), h2 2 (by omega)]

structure St (w : World) (n g : Nat) (r q : Nat → Nat) (f : Nat → Nat → Int) (lb : Nat → Nat → Nat) (W : World) : Prop where
  blk : W.heap[g]? = some (.cells (bothC (some3 n r) (some3 n q)) 84 (0, 0))
  tree : ∀ i, i < n → TreeI W (r i) (f i) (lb i)
  ref : ∀ i, i < n → RefT W (q i) (f i)
  in64 : ∀ i, i < n → In64 (f i)
  lowg : w.heap.size ≤ g
  lowq : ∀ i, i < n → w.heap.size ≤ q i ∧ q i ≠ g
  lowl : ∀ i, i < n → ∀ b, lb i b ≠ 0 → w.heap.size ≤ b ∧ b ≠ g ∧ ∀ j, j < n → b ≠ q j
  apart : ∀ i, i < n → ∀ j, j < n → i ≠ j → q i ≠ q j ∧ ∀ b, lb i b ≠ 0 → lb j b = 0
  bel : Below w.heap.size w W

section
variable {w W W' : World} {n g : Nat} {r q : Nat → Nat} {f : Nat → Nat → Int} {lb : Nat → Nat → Nat}
theorem St.below (h : St w n g r q f lb W) (hb : Below W.heap.size W W') : St w n g r q f lb W' where
  blk := (hb.block g (heap_lt h.blk)).trans h.blk
  tree i hi := (h.tree i hi).below hb
  ref i hi := (h.ref i hi).below hb
  in64 := h.in64
  lowg := h.lowg
  lowq := h.lowq
  lowl := h.lowl
  apart := h.apart
  bel := h.bel.trans ⟨hb.os, hb.tape, hb.output, hb.size, fun k hk => hb.block k (Nat.lt_of_lt_of_le hk h.bel.size)⟩
theorem St.cell_p (h : St w 3 g r q f lb W) (i : Nat) (hi : i < 3) : W.cell? ⟨g, i, none⟩ = some (.pointer (some ⟨r i, 0, none⟩)) := by
  rw [cell_of_row W _ _ _ _ _ h.blk, bothC_p _ _ i hi, some3, if_pos hi]; rfl
theorem St.cell_q (h : St w 3 g r q f lb W) (i : Nat) (hi : i < 3) : W.cell? ⟨g, 3 + i, none⟩ = some (.pointer (some ⟨q i, 0, none⟩)) := by
  rw [cell_of_row W _ _ _ _ _ h.blk, bothC_q _ _ i hi, some3, if_pos hi]; rfl
theorem St.free (h : St w n g r q f lb W) (o : Nat) : W.frozen? ⟨g, o, none⟩ = false := frozen_of_row W g o _ _ h.blk

/-- one place is made anew -/
theorem St.put (h : St w n g r q f lb W) {n' d r' q' : Nat} {f' : Nat → Int} {lb' : Nat → Nat} (hn : ∀ i, i < n' → i ≠ d → i < n) (hc : Chg (fun b => b = g) W W')
    (hblk : W'.heap[g]? = some (.cells (bothC (some3 n' (upd r d r')) (some3 n' (upd q d q'))) 84 (0, 0))) (ht : TreeI W' r' f' lb') (hr : RefT W' q' f') (h64 : In64 f')
    (hl : ∀ b, lb' b ≠ 0 → W.heap.size ≤ b ∧ b ≠ q') (hq : W.heap.size ≤ q') : St w n' g (upd r d r') (upd q d q') (upd f d f') (upd lb d lb') W' := by
  have hg := heap_lt h.blk
  have hz := h.bel.size
  have hqlt : ∀ i, i < n → q i < W.heap.size := fun i hi => (h.ref i hi).lt
  have hllt : ∀ i, i < n → ∀ b, lb i b ≠ 0 → b < W.heap.size := fun i hi => (h.tree i hi).dom
  refine ⟨hblk, ?_, ?_, ?_, h.lowg, ?_, ?_, ?_, ?_⟩
  · intro i hi
    by_cases e : i = d
    · subst e; rw [upd_same, upd_same, upd_same]; exact ht
    · rw [upd_other _ _ e, upd_other _ _ e, upd_other _ _ e]
      exact (h.tree i (hn i hi e)).chg hc (fun b hb e' => (h.lowl i (hn i hi e) b hb).2.1 e')
  · intro i hi
    by_cases e : i = d
    · subst e; rw [upd_same, upd_same]; exact hr
    · rw [upd_other _ _ e, upd_other _ _ e]
      exact (h.ref i (hn i hi e)).chg hc (fun e' => (h.lowq i (hn i hi e)).2 e')
  · intro i hi
    by_cases e : i = d
    · subst e; rw [upd_same]; exact h64
    · rw [upd_other _ _ e]; exact h.in64 i (hn i hi e)
  · intro i hi
    by_cases e : i = d
    · subst e; rw [upd_same]; omega
    · rw [upd_other _ _ e]; exact h.lowq i (hn i hi e)
  · intro i hi b hb
    by_cases e : i = d
    · subst e
      rw [upd_same] at hb
      have h1 := hl b hb
      refine ⟨by omega, by omega, fun j hj => ?_⟩
      by_cases e2 : j = i
      · subst e2; rw [upd_same]; exact h1.2
      · rw [upd_other _ _ e2]; have := hqlt j (hn j hj e2); omega
    · rw [upd_other _ _ e] at hb
      have h1 := h.lowl i (hn i hi e) b hb
      refine ⟨h1.1, h1.2.1, fun j hj => ?_⟩
      by_cases e2 : j = d
      · subst e2; rw [upd_same]; have := hllt i (hn i hi e) b hb; omega
      · rw [upd_other _ _ e2]; exact h1.2.2 j (hn j hj e2)
  · intro i hi j hj hij
    by_cases e : i = d
    · subst e
      have ej : j ≠ i := fun e => hij e.symm
      have hjn := hn j hj ej
      rw [upd_same, upd_same, upd_other _ _ ej, upd_other _ _ ej]
      refine ⟨by have := hqlt j hjn; omega, fun b hb => ?_⟩
      have h1 := hl b hb
      refine Decidable.byContradiction fun hne => ?_
      have := hllt j hjn b hne
      omega
    · have hin := hn i hi e
      rw [upd_other _ _ e, upd_other _ _ e]
      by_cases e2 : j = d
      · subst e2
        rw [upd_same, upd_same]
        refine ⟨by have := hqlt i hin; omega, fun b hb => ?_⟩
        have h1 := hllt i hin b hb
        refine Decidable.byContradiction fun hne => ?_
        have := hl b hne
        omega
      · rw [upd_other _ _ e2, upd_other _ _ e2]
        exact h.apart i hin j (hn j hj e2) hij
  · exact h.bel.trans (hc.below _ hz (fun b hb e => by have := h.lowg; omega))

/-- one place's trees are changed, alike -/
theorem St.ask (h : St w n g r q f lb W) {d : Nat} {f' : Nat → Int} {lb' : Nat → Nat} (hd : d < n) (hc : Chg (fun b => lb d b ≠ 0 ∨ b = q d) W W')
    (ht : TreeI W' (r d) f' lb') (hr : RefT W' (q d) f') (h64 : In64 f') (hx : ∀ b, lb' b ≠ 0 → lb d b ≠ 0 ∨ W.heap.size ≤ b) : St w n g r q (upd f d f') (upd lb d lb') W' := by
  have hg := heap_lt h.blk
  have hz := h.bel.size
  have hqlt : ∀ i, i < n → q i < W.heap.size := fun i hi => (h.ref i hi).lt
  have hllt : ∀ i, i < n → ∀ b, lb i b ≠ 0 → b < W.heap.size := fun i hi => (h.tree i hi).dom
  refine ⟨hc.heap h.blk ?_, ?_, ?_, ?_, h.lowg, h.lowq, ?_, ?_, ?_⟩
  · rintro (e | e)
    · exact (h.lowl d hd g e).2.1 rfl
    · exact (h.lowq d hd).2 e.symm
  · intro i hi
    by_cases e : i = d
    · subst e; rw [upd_same, upd_same]; exact ht
    · rw [upd_other _ _ e, upd_other _ _ e]
      refine (h.tree i hi).chg hc (fun b hb e' => e'.elim (fun e' => ?_) (fun e' => ?_))
      · exact e' ((h.apart i hi d hd e).2 b hb)
      · exact (h.lowl i hi b hb).2.2 d hd e'
  · intro i hi
    by_cases e : i = d
    · subst e; rw [upd_same]; exact hr
    · rw [upd_other _ _ e]
      refine (h.ref i hi).chg hc (fun e' => e'.elim (fun e' => ?_) (fun e' => ?_))
      · exact (h.lowl d hd (q i) e').2.2 i hi rfl
      · exact (h.apart i hi d hd e).1 e'
  · intro i hi
    by_cases e : i = d
    · subst e; rw [upd_same]; exact h64
    · rw [upd_other _ _ e]; exact h.in64 i hi
  · intro i hi b hb
    by_cases e : i = d
    · subst e
      rw [upd_same] at hb
      rcases hx b hb with h1 | h1
      · exact h.lowl i hi b h1
      · exact ⟨by omega, by omega, fun j hj => by have := hqlt j hj; omega⟩
    · rw [upd_other _ _ e] at hb
      exact h.lowl i hi b hb
  · intro i hi j hj hij
    refine ⟨(h.apart i hi j hj hij).1, fun b hb => ?_⟩
    by_cases e : i = d
    · subst e
      have ej : j ≠ i := fun e => hij e.symm
      rw [upd_same] at hb
      rw [upd_other _ _ ej]
      rcases hx b hb with h1 | h1
      · exact (h.apart i hi j hj hij).2 b h1
      · refine Decidable.byContradiction fun hne => ?_
        have := hllt j hj b hne
        omega
    · rw [upd_other _ _ e] at hb
      by_cases e2 : j = d
      · subst e2
        rw [upd_same]
        refine Decidable.byContradiction fun hne => ?_
        rcases hx b hne with h1 | h1
        · exact h1 ((h.apart i hi j hj hij).2 b hb)
        · have := hllt i hi b hb
          omega
      · rw [upd_other _ _ e2]
        exact (h.apart i hi j hj hij).2 b hb
  · refine h.bel.trans (hc.below _ hz (fun b hb e => e.elim (fun e => ?_) (fun e => ?_)))
    · have := (h.lowl d hd b e).1; omega
    · have := (h.lowq d hd).1; omega
end

end Go.Proofs.Ytfljnfmocmhhdaa
