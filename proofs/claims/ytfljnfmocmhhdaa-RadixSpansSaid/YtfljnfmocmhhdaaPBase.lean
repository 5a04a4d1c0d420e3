/-
Words that the walks of a tree of spans share: a node's cells, a tree in memory.
-/
import Derived.Test.YtfljnfmocmhhdaaIter
import Derived.Test.YtfljnfmocmhhdaaBase
namespace Go.Proofs.Ytfljnfmocmhhdaa.Spn
open Go.RowKit

/-- a span as the walk holds it -/
def sp (x : Int × Int) : Value := .agg #[.int .i64 x.1, .int .i64 x.2]

/-- a node of spans: eight pointers, eight values -/
def nodeI (p : Nat → Option Nat) (v : Nat → Int × Int) : Array Value :=
  List.toArray (opt (p 0) :: opt (p 1) :: opt (p 2) :: opt (p 3) :: opt (p 4) :: opt (p 5) :: opt (p 6) :: opt (p 7) ::
    .int .i64 (v 0).1 :: .int .i64 (v 0).2 :: .int .i64 (v 1).1 :: .int .i64 (v 1).2 :: .int .i64 (v 2).1 :: .int .i64 (v 2).2 :: .int .i64 (v 3).1 :: .int .i64 (v 3).2 :: .int .i64 (v 4).1 :: .int .i64 (v 4).2 :: .int .i64 (v 5).1 :: .int .i64 (v 5).2 :: .int .i64 (v 6).1 :: .int .i64 (v 6).2 :: .int .i64 (v 7).1 :: .int .i64 (v 7).2 :: [])
theorem nodeI_size (p : Nat → Option Nat) (v : Nat → Int × Int) : (nodeI p v).size = 24 := rfl
theorem nodeI_ptr (p : Nat → Option Nat) (v : Nat → Int × Int) (i : Nat) (h : i < 8) : (nodeI p v)[i]? = some (opt (p i)) := by
  rcases eight h with rfl | rfl | rfl | rfl | rfl | rfl | rfl | rfl <;> rfl
theorem nodeI_val (p : Nat → Option Nat) (v : Nat → Int × Int) (i : Nat) (h : i < 8) : (nodeI p v)[8 + i * 2]? = some (.int .i64 (v i).1) ∧ (nodeI p v)[8 + i * 2 + 1]? = some (.int .i64 (v i).2) := by
  rcases eight h with rfl | rfl | rfl | rfl | rfl | rfl | rfl | rfl <;> exact ⟨rfl, rfl⟩
theorem nodeI_setptr (p : Nat → Option Nat) (v : Nat → Int × Int) (i : Nat) (h : i < 8) (x : Option Nat) : (nodeI p v).setIfInBounds i (opt x) = nodeI (upd p i x) v := by
  rcases eight h with rfl | rfl | rfl | rfl | rfl | rfl | rfl | rfl <;> rfl
theorem nodeI_setval (p : Nat → Option Nat) (v : Nat → Int × Int) (i : Nat) (h : i < 8) (x y : Int) : ((nodeI p v).setIfInBounds (8 + i * 2) (.int .i64 x)).setIfInBounds (8 + i * 2 + 1) (.int .i64 y) = nodeI p (upd v i (x, y)) := by
  rcases eight h with rfl | rfl | rfl | rfl | rfl | rfl | rfl | rfl <;> rfl
theorem nodeI_congr {p p' : Nat → Option Nat} {v v' : Nat → Int × Int} (hp : ∀ i, i < 8 → p i = p' i) (hv : ∀ i, i < 8 → v i = v' i) : nodeI p v = nodeI p' v' := by
  simp only [nodeI, hp 0 (by omega), hp 1 (by omega), hp 2 (by omega), hp 3 (by omega), hp 4 (by omega), hp 5 (by omega), hp 6 (by omega), hp 7 (by omega), hv 0 (by omega), hv 1 (by omega), hv 2 (by omega), hv 3 (by omega), hv 4 (by omega), hv 5 (by omega), hv 6 (by omega), hv 7 (by omega)]

/-- a block that is a node of ints -/
def NodeI (w : World) (g : Nat) (p : Nat → Option Nat) (v : Nat → Int × Int) : Prop := w.heap[g]? = some (.cells (nodeI p v) 119 (0, 0))
theorem NodeI.lt {w : World} {g : Nat} {p : Nat → Option Nat} {v : Nat → Int × Int} (h : NodeI w g p v) : g < w.heap.size := heap_lt h
theorem NodeI.ptr {w : World} {g : Nat} {p : Nat → Option Nat} {v : Nat → Int × Int} (h : NodeI w g p v) (i : Nat) (hi : i < 8) : w.cell? ⟨g, i, none⟩ = some (opt (p i)) := by
  rw [cell_of_row w _ _ _ _ _ h]; exact nodeI_ptr p v i hi
theorem NodeI.val {w : World} {g : Nat} {p : Nat → Option Nat} {v : Nat → Int × Int} (h : NodeI w g p v) (i : Nat) (hi : i < 8) : w.cell? ⟨g, 8 + i * 2, none⟩ = some (.int .i64 (v i).1) ∧ w.cell? ⟨g, 8 + i * 2 + 1, none⟩ = some (.int .i64 (v i).2) := by
  rw [cell_of_row w _ _ _ _ _ h, cell_of_row w _ _ _ _ _ h]; exact nodeI_val p v i hi
theorem NodeI.free {w : World} {g : Nat} {p : Nat → Option Nat} {v : Nat → Int × Int} (h : NodeI w g p v) (o : Nat) : w.frozen? ⟨g, o, none⟩ = false := frozen_of_row w g o _ _ h
theorem NodeI.chg {D : Nat → Prop} {w w' : World} {g : Nat} {p : Nat → Option Nat} {v : Nat → Int × Int} (h : NodeI w g p v) (hc : Chg D w w') (hn : ¬ D g) : NodeI w' g p v := hc.heap h hn
theorem NodeI.setptr {w : World} {g : Nat} {p : Nat → Option Nat} {v : Nat → Int × Int} (h : NodeI w g p v) (i : Nat) (hi : i < 8) (x : Option Nat) : NodeI (w.setCell ⟨g, i, none⟩ (opt x)) g (upd p i x) v := by
  unfold NodeI; rw [← nodeI_setptr p v i hi x]; exact heap_setCell_same w g i _ _ _ h
theorem NodeI.setval {w : World} {g : Nat} {p : Nat → Option Nat} {v : Nat → Int × Int} (h : NodeI w g p v) (i : Nat) (hi : i < 8) (x y : Int) : NodeI ((w.setCell ⟨g, 8 + i * 2, none⟩ (.int .i64 x)).setCell ⟨g, 8 + i * 2 + 1, none⟩ (.int .i64 y)) g p (upd v i (x, y)) := by
  unfold NodeI; rw [← nodeI_setval p v i hi x y]; exact heap_setCell_same _ g _ _ _ _ (heap_setCell_same w g _ _ _ _ h)
theorem NodeI.far {w : World} {g : Nat} {p : Nat → Option Nat} {v : Nat → Int × Int} (h : NodeI w g p v) (a : Addr) (x : Value) (hne : g ≠ a.block) : NodeI (w.setCell a x) g p v := (heap_setCell_other w a g x hne).trans h
theorem NodeI.congr {w : World} {g : Nat} {p p' : Nat → Option Nat} {v v' : Nat → Int × Int} (h : NodeI w g p v) (hp : ∀ i, i < 8 → p i = p' i) (hv : ∀ i, i < 8 → v i = v' i) : NodeI w g p' v' := by
  unfold NodeI; rw [← nodeI_congr hp hv]; exact h
theorem NodeI.new (w : World) : NodeI (w.alloc (.cells (nodeI (fun _ => none) (fun _ => (0, 0))) 119)) w.heap.size (fun _ => none) (fun _ => (0, 0)) := heap_alloc_new w _
/-- the empty node as the walk spells it -/
theorem nodeI_zero : nodeI (fun _ => none) (fun _ => (0, 0)) = #[.pointer none, .pointer none, .pointer none, .pointer none, .pointer none, .pointer none, .pointer none, .pointer none, .int .i64 0, .int .i64 0, .int .i64 0, .int .i64 0, .int .i64 0, .int .i64 0, .int .i64 0, .int .i64 0, .int .i64 0, .int .i64 0, .int .i64 0, .int .i64 0, .int .i64 0, .int .i64 0, .int .i64 0, .int .i64 0] := rfl

/-- how many of the first n offsets have a value -/
def cntN (f : Nat → Int × Int) (n : Nat) : Nat := ((List.range n).filter fun i => decide (f i ≠ (0, 0))).length
def cntI (f : Nat → Int × Int) : Nat := cntN f 512

/-- a tree of ints at block r: what its offsets hold; lb tells of each block what part of this tree it is (0: none) -/
structure ShapeC (w : World) (r : Nat) (c : Int) (f : Nat → Int × Int) (lb : Nat → Nat) (g0 : Nat) (L1 L2 : Nat → Option Nat) : Prop where
  hdr : w.heap[r]? = some (.cells #[.pointer (some ⟨g0, 0, none⟩), .int .i64 c] 121 (0, 0))
  root : NodeI w g0 L1 (fun _ => (0, 0))
  mid : ∀ k, k < 8 → ∀ g, L1 k = some g → NodeI w g (fun i => L2 (8 * k + i)) (fun _ => (0, 0))
  leaf : ∀ j, j < 64 → ∀ g, L2 j = some g → NodeI w g (fun _ => none) (fun i => f (8 * j + i))
  hole : ∀ j, j < 64 → L2 j = none → ∀ i, i < 8 → f (8 * j + i) = (0, 0)
  par : ∀ j, j < 64 → L1 (j / 8) = none → L2 j = none
  lr : lb r = 1
  lg : lb g0 = 2
  l1 : ∀ k, k < 8 → ∀ g, L1 k = some g → lb g = 3 + k
  l2 : ∀ j, j < 64 → ∀ g, L2 j = some g → lb g = 11 + j
  cel : ∀ b, lb b ≠ 0 → IsC w b
abbrev ShapeI (w : World) (r : Nat) (f : Nat → Int × Int) (lb : Nat → Nat) (g0 : Nat) (L1 L2 : Nat → Option Nat) : Prop := ShapeC w r (cntI f) f lb g0 L1 L2
def TreeI (w : World) (r : Nat) (f : Nat → Int × Int) (lb : Nat → Nat) : Prop := ∃ g0 L1 L2, ShapeI w r f lb g0 L1 L2

/-- the blocks of a tree -/
def Of (lb : Nat → Nat) (b : Nat) : Prop := lb b ≠ 0

theorem ShapeC.dom {w : World} {r : Nat} {c : Int} {f : Nat → Int × Int} {lb : Nat → Nat} {g0 : Nat} {L1 L2 : Nat → Option Nat} (h : ShapeC w r c f lb g0 L1 L2) : ∀ b, lb b ≠ 0 → b < w.heap.size := fun b hb => (h.cel b hb).lt
theorem ShapeC.chg {D : Nat → Prop} {w w' : World} {r : Nat} {c : Int} {f : Nat → Int × Int} {lb : Nat → Nat} {g0 : Nat} {L1 L2 : Nat → Option Nat} (h : ShapeC w r c f lb g0 L1 L2) (hc : Chg D w w') (hn : ∀ b, lb b ≠ 0 → ¬ D b) : ShapeC w' r c f lb g0 L1 L2 :=
  ⟨hc.heap h.hdr (hn _ (by rw [h.lr]; decide)), h.root.chg hc (hn _ (by rw [h.lg]; decide)),
    fun k hk g hg => (h.mid k hk g hg).chg hc (hn _ (by rw [h.l1 k hk g hg]; omega)), fun j hj g hg => (h.leaf j hj g hg).chg hc (hn _ (by rw [h.l2 j hj g hg]; omega)),
    h.hole, h.par, h.lr, h.lg, h.l1, h.l2, fun b hb => (h.cel b hb).chg hc (hn b hb)⟩
theorem TreeI.chg {D : Nat → Prop} {w w' : World} {r : Nat} {f : Nat → Int × Int} {lb : Nat → Nat} (h : TreeI w r f lb) (hc : Chg D w w') (hn : ∀ b, lb b ≠ 0 → ¬ D b) : TreeI w' r f lb := by
  obtain ⟨g0, L1, L2, hs⟩ := h
  exact ⟨g0, L1, L2, hs.chg hc hn⟩
theorem TreeI.below {w w' : World} {r : Nat} {f : Nat → Int × Int} {lb : Nat → Nat} (h : TreeI w r f lb) (hb : Below w.heap.size w w') : TreeI w' r f lb :=
  h.chg (Chg.of_below (fun _ => False) hb) (fun _ _ h => h)
theorem TreeI.cel {w : World} {r : Nat} {f : Nat → Int × Int} {lb : Nat → Nat} (h : TreeI w r f lb) : ∀ b, lb b ≠ 0 → IsC w b := by
  obtain ⟨g0, L1, L2, hs⟩ := h; exact hs.cel
theorem TreeI.dom {w : World} {r : Nat} {f : Nat → Int × Int} {lb : Nat → Nat} (h : TreeI w r f lb) : ∀ b, lb b ≠ 0 → b < w.heap.size := by
  obtain ⟨g0, L1, L2, hs⟩ := h; exact hs.dom
theorem TreeI.lr {w : World} {r : Nat} {f : Nat → Int × Int} {lb : Nat → Nat} (h : TreeI w r f lb) : lb r = 1 := by
  obtain ⟨g0, L1, L2, hs⟩ := h; exact hs.lr

theorem cntI_le (f : Nat → Int × Int) : cntI f ≤ 512 := by
  unfold cntI cntN
  have := List.length_filter_le (fun i => decide (f i ≠ (0, 0))) (List.range 512)
  rw [List.length_range] at this; exact this

theorem cntN_succ (f : Nat → Int × Int) (n : Nat) : cntN f (n + 1) = cntN f n + if f n = (0, 0) then 0 else 1 := by
  unfold cntN
  rw [List.range_succ, List.filter_append, List.length_append]
  by_cases h : f n = (0, 0) <;> simp [h]
theorem cntN_congr {f g : Nat → Int × Int} : ∀ n, (∀ i, i < n → f i = g i) → cntN f n = cntN g n
  | 0, _ => rfl
  | n + 1, h => by rw [cntN_succ, cntN_succ, cntN_congr n (fun i hi => h i (by omega)), h n (by omega)]
theorem cntN_upd (f : Nat → Int × Int) (i : Nat) (v : Int × Int) : ∀ n, i < n → cntN (upd f i v) n + (if f i = (0, 0) then 0 else 1) = cntN f n + if v = (0, 0) then 0 else 1
  | 0, h => by omega
  | n + 1, h => by
    rw [cntN_succ, cntN_succ]
    by_cases e : i = n
    · subst e
      rw [upd_same, cntN_congr (f := upd f i v) (g := f) i (fun j hj => upd_other f v (by omega))]
      omega
    · rw [upd_other f v (fun e' => e e'.symm)]
      have := cntN_upd f i v n (by omega)
      omega
theorem cntI_upd (f : Nat → Int × Int) (i : Nat) (v : Int × Int) (h : i < 512) : cntI (upd f i v) + (if f i = (0, 0) then 0 else 1) = cntI f + if v = (0, 0) then 0 else 1 := cntN_upd f i v 512 h
theorem cntI_pos (f : Nat → Int × Int) (i : Nat) (h : i < 512) (hf : f i ≠ (0, 0)) : 0 < cntI f := by
  have := cntI_upd f i (0, 0) h
  rw [if_neg hf, if_pos rfl] at this
  omega

end Go.Proofs.Ytfljnfmocmhhdaa.Spn
