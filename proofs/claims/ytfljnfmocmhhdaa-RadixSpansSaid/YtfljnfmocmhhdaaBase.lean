/-
Words that all walks of this seat share: a node's cells, a tree in memory, what a step may change.
-/
import Derived.Test.YtfljnfmocmhhdaaProg
import Derived.WalkKit
import Derived.ProofKit
import Derived.Outline
import Derived.Handy
import Derived.Lib.Hide
import Derived.Below
import Derived.IntWalk
import Derived.Laws.BitsAllLaws
import Derived.Deep.QuietTactic
import Derived.BigQuiet
namespace Go.Proofs.Ytfljnfmocmhhdaa
open Go.RowKit

theorem ret_int {k : IntKind} {a b : Int} (h : a = b) : Ending.returned (.int k a) = .returned (.int k b) := by rw [h]
theorem ret_bool {a b : Bool} (h : a = b) : Ending.returned (.bool a) = .returned (.bool b) := by rw [h]

/-- what lay ahead and was none of D's lies as it lay; the streams are as they were -/
structure Chg (D : Nat → Prop) (w w' : World) : Prop where
  os : w'.os = w.os
  tape : w'.tape = w.tape
  output : w'.output = w.output
  size : w.heap.size ≤ w'.heap.size
  block : ∀ b, b < w.heap.size → ¬ D b → w'.heap[b]? = w.heap[b]?
theorem Chg.refl (D : Nat → Prop) (w : World) : Chg D w w := ⟨rfl, rfl, rfl, Nat.le_refl _, fun _ _ _ => rfl⟩
theorem Chg.trans {D D' : Nat → Prop} {a b c : World} (h : Chg D a b) (k : Chg D' b c) (hD : ∀ x, x < a.heap.size → D' x → D x) : Chg D a c :=
  ⟨k.os.trans h.os, k.tape.trans h.tape, k.output.trans h.output, Nat.le_trans h.size k.size, fun x hx hn =>
    (k.block x (Nat.lt_of_lt_of_le hx h.size) (fun h' => hn (hD x hx h'))).trans (h.block x hx hn)⟩
theorem Chg.mono {D D' : Nat → Prop} {a b : World} (h : Chg D a b) (hD : ∀ x, x < a.heap.size → D x → D' x) : Chg D' a b :=
  ⟨h.os, h.tape, h.output, h.size, fun x hx hn => h.block x hx (fun h' => hn (hD x hx h'))⟩
theorem Chg.of_below {a b : World} (D : Nat → Prop) (h : Below a.heap.size a b) : Chg D a b := ⟨h.os, h.tape, h.output, h.size, fun x hx _ => h.block x hx⟩
theorem Chg.below {D : Nat → Prop} {a b : World} (h : Chg D a b) (n : Nat) (hn : n ≤ a.heap.size) (hD : ∀ x, x < n → ¬ D x) : Below n a b := ⟨h.os, h.tape, h.output, h.size, fun x hx => h.block x (by omega) (hD x hx)⟩
theorem Chg.setCell {D : Nat → Prop} {a w : World} (h : Chg D a w) {p : Addr} (hp : p.block < a.heap.size → D p.block) (u : Value) : Chg D a (w.setCell p u) :=
  ⟨h.os, h.tape, h.output, by simpa [World.setCell] using h.size, fun x hx hn => by
    rw [Below.heap_setCell _ _ _ _ (fun e => hn (by subst e; exact hp hx))]; exact h.block x hx hn⟩
theorem Chg.alloc {D : Nat → Prop} {a w : World} (h : Chg D a w) (o : Obj) : Chg D a (w.alloc o) :=
  ⟨h.os, h.tape, h.output, by simp; have := h.size; omega, fun x hx hn => (Below.heap_alloc _ _ _ (by have := h.size; omega)).trans (h.block x hx hn)⟩
theorem Chg.drew {D : Nat → Prop} {a w : World} (h : Chg D a w) : Chg D a w.drew := ⟨h.os, h.tape, h.output, h.size, h.block⟩
theorem Chg.drewN {D : Nat → Prop} {a w : World} (h : Chg D a w) (m : Nat) : Chg D a (w.drewN m) := ⟨h.os, h.tape, h.output, h.size, h.block⟩
theorem Chg.heap {D : Nat → Prop} {a w : World} (h : Chg D a w) {b : Nat} {o : Obj} (hb : a.heap[b]? = some o) (hn : ¬ D b) : w.heap[b]? = some o :=
  (h.block b (Array.getElem?_eq_some_iff.1 hb).1 hn).trans hb

theorem heap_lt {w : World} {b : Nat} {o : Obj} (h : w.heap[b]? = some o) : b < w.heap.size := (Array.getElem?_eq_some_iff.1 h).1

/-- a block of cells that may be written -/
def IsC (w : World) (b : Nat) : Prop := ∃ cs t, w.heap[b]? = some (.cells cs t (0, 0))
theorem IsC.lt {w : World} {b : Nat} (h : IsC w b) : b < w.heap.size := by obtain ⟨_, _, h⟩ := h; exact heap_lt h
theorem IsC.chg {D : Nat → Prop} {w w' : World} {b : Nat} (h : IsC w b) (hc : Chg D w w') (hn : ¬ D b) : IsC w' b := by obtain ⟨_, _, h⟩ := h; exact ⟨_, _, hc.heap h hn⟩
theorem IsC.setCell {w : World} {b : Nat} (h : IsC w b) (g o : Nat) (v : Value) : IsC (w.setCell ⟨g, o, none⟩ v) b := by
  obtain ⟨cs, t, h⟩ := h
  by_cases e : b = g
  · subst e; exact ⟨_, _, heap_setCell_same w b o _ _ _ h⟩
  · exact ⟨_, _, (heap_setCell_other w _ b v e).trans h⟩
theorem IsC.alloc {w : World} {b : Nat} (h : IsC w b) (o : Obj) : IsC (w.alloc o) b := h.chg ((Chg.refl (fun _ => False) w).alloc o) (fun h => h)

/-- a pointer to the head of a block, or nil -/
def opt (o : Option Nat) : Value := .pointer (o.map fun g => ⟨g, 0, none⟩)
theorem opt_none : opt none = .pointer none := rfl
theorem opt_some (g : Nat) : opt (some g) = .pointer (some ⟨g, 0, none⟩) := rfl

/-- a function changed at one place -/
def upd {β : Type} (f : Nat → β) (i : Nat) (x : β) : Nat → β := fun j => if j = i then x else f j
theorem upd_same {β : Type} (f : Nat → β) (i : Nat) (x : β) : upd f i x i = x := by simp [upd]
theorem upd_other {β : Type} (f : Nat → β) {i j : Nat} (x : β) (h : j ≠ i) : upd f i x j = f j := by simp [upd, h]

/-- a node of ints: eight pointers, eight values -/
def nodeI (p : Nat → Option Nat) (v : Nat → Int) : Array Value :=
  List.toArray (opt (p 0) :: opt (p 1) :: opt (p 2) :: opt (p 3) :: opt (p 4) :: opt (p 5) :: opt (p 6) :: opt (p 7) ::
    .int .i64 (v 0) :: .int .i64 (v 1) :: .int .i64 (v 2) :: .int .i64 (v 3) :: .int .i64 (v 4) :: .int .i64 (v 5) :: .int .i64 (v 6) :: .int .i64 (v 7) :: [])
theorem eight {i : Nat} (h : i < 8) : i = 0 ∨ i = 1 ∨ i = 2 ∨ i = 3 ∨ i = 4 ∨ i = 5 ∨ i = 6 ∨ i = 7 := by omega
theorem nodeI_size (p : Nat → Option Nat) (v : Nat → Int) : (nodeI p v).size = 16 := rfl
theorem nodeI_ptr (p : Nat → Option Nat) (v : Nat → Int) (i : Nat) (h : i < 8) : (nodeI p v)[i]? = some (opt (p i)) := by
  rcases eight h with rfl | rfl | rfl | rfl | rfl | rfl | rfl | rfl <;> rfl
theorem nodeI_val (p : Nat → Option Nat) (v : Nat → Int) (i : Nat) (h : i < 8) : (nodeI p v)[8 + i]? = some (.int .i64 (v i)) := by
  rcases eight h with rfl | rfl | rfl | rfl | rfl | rfl | rfl | rfl <;> rfl
theorem nodeI_setptr (p : Nat → Option Nat) (v : Nat → Int) (i : Nat) (h : i < 8) (x : Option Nat) : (nodeI p v).setIfInBounds i (opt x) = nodeI (upd p i x) v := by
  rcases eight h with rfl | rfl | rfl | rfl | rfl | rfl | rfl | rfl <;> rfl
theorem nodeI_setval (p : Nat → Option Nat) (v : Nat → Int) (i : Nat) (h : i < 8) (x : Int) : (nodeI p v).setIfInBounds (8 + i) (.int .i64 x) = nodeI p (upd v i x) := by
  rcases eight h with rfl | rfl | rfl | rfl | rfl | rfl | rfl | rfl <;> rfl
theorem nodeI_congr {p p' : Nat → Option Nat} {v v' : Nat → Int} (hp : ∀ i, i < 8 → p i = p' i) (hv : ∀ i, i < 8 → v i = v' i) : nodeI p v = nodeI p' v' := by
  simp only [nodeI, hp 0 (by omega), hp 1 (by omega), hp 2 (by omega), hp 3 (by omega), hp 4 (by omega), hp 5 (by omega), hp 6 (by omega), hp 7 (by omega), hv 0 (by omega), hv 1 (by omega), hv 2 (by omega), hv 3 (by omega), hv 4 (by omega), hv 5 (by omega), hv 6 (by omega), hv 7 (by omega)]

/-- a block that is a node of ints -/
def NodeI (w : World) (g : Nat) (p : Nat → Option Nat) (v : Nat → Int) : Prop := w.heap[g]? = some (.cells (nodeI p v) 102 (0, 0))
theorem NodeI.lt {w : World} {g : Nat} {p : Nat → Option Nat} {v : Nat → Int} (h : NodeI w g p v) : g < w.heap.size := heap_lt h
theorem NodeI.ptr {w : World} {g : Nat} {p : Nat → Option Nat} {v : Nat → Int} (h : NodeI w g p v) (i : Nat) (hi : i < 8) : w.cell? ⟨g, i, none⟩ = some (opt (p i)) := by
  rw [cell_of_row w _ _ _ _ _ h]; exact nodeI_ptr p v i hi
theorem NodeI.val {w : World} {g : Nat} {p : Nat → Option Nat} {v : Nat → Int} (h : NodeI w g p v) (i : Nat) (hi : i < 8) : w.cell? ⟨g, 8 + i, none⟩ = some (.int .i64 (v i)) := by
  rw [cell_of_row w _ _ _ _ _ h]; exact nodeI_val p v i hi
theorem NodeI.free {w : World} {g : Nat} {p : Nat → Option Nat} {v : Nat → Int} (h : NodeI w g p v) (o : Nat) : w.frozen? ⟨g, o, none⟩ = false := frozen_of_row w g o _ _ h
theorem NodeI.chg {D : Nat → Prop} {w w' : World} {g : Nat} {p : Nat → Option Nat} {v : Nat → Int} (h : NodeI w g p v) (hc : Chg D w w') (hn : ¬ D g) : NodeI w' g p v := hc.heap h hn
theorem NodeI.setptr {w : World} {g : Nat} {p : Nat → Option Nat} {v : Nat → Int} (h : NodeI w g p v) (i : Nat) (hi : i < 8) (x : Option Nat) : NodeI (w.setCell ⟨g, i, none⟩ (opt x)) g (upd p i x) v := by
  unfold NodeI; rw [← nodeI_setptr p v i hi x]; exact heap_setCell_same w g i _ _ _ h
theorem NodeI.setval {w : World} {g : Nat} {p : Nat → Option Nat} {v : Nat → Int} (h : NodeI w g p v) (i : Nat) (hi : i < 8) (x : Int) : NodeI (w.setCell ⟨g, 8 + i, none⟩ (.int .i64 x)) g p (upd v i x) := by
  unfold NodeI; rw [← nodeI_setval p v i hi x]; exact heap_setCell_same w g (8 + i) _ _ _ h
theorem NodeI.far {w : World} {g : Nat} {p : Nat → Option Nat} {v : Nat → Int} (h : NodeI w g p v) (a : Addr) (x : Value) (hne : g ≠ a.block) : NodeI (w.setCell a x) g p v := (heap_setCell_other w a g x hne).trans h
theorem NodeI.congr {w : World} {g : Nat} {p p' : Nat → Option Nat} {v v' : Nat → Int} (h : NodeI w g p v) (hp : ∀ i, i < 8 → p i = p' i) (hv : ∀ i, i < 8 → v i = v' i) : NodeI w g p' v' := by
  unfold NodeI; rw [← nodeI_congr hp hv]; exact h
theorem NodeI.new (w : World) : NodeI (w.alloc (.cells (nodeI (fun _ => none) (fun _ => 0)) 102)) w.heap.size (fun _ => none) (fun _ => 0) := heap_alloc_new w _
/-- the empty node as the walk spells it -/
theorem nodeI_zero : nodeI (fun _ => none) (fun _ => 0) = #[.pointer none, .pointer none, .pointer none, .pointer none, .pointer none, .pointer none, .pointer none, .pointer none, .int .i64 0, .int .i64 0, .int .i64 0, .int .i64 0, .int .i64 0, .int .i64 0, .int .i64 0, .int .i64 0] := rfl

/-- how many of the first n offsets have a value -/
def cntN (f : Nat → Int) (n : Nat) : Nat := ((List.range n).filter fun i => decide (f i ≠ 0)).length
def cntI (f : Nat → Int) : Nat := cntN f 512

/-- a tree of ints at block r: what its offsets hold; lb tells of each block what part of this tree it is (0: none) -/
structure ShapeC (w : World) (r : Nat) (c : Int) (f : Nat → Int) (lb : Nat → Nat) (g0 : Nat) (L1 L2 : Nat → Option Nat) : Prop where
  hdr : w.heap[r]? = some (.cells #[.pointer (some ⟨g0, 0, none⟩), .int .i64 c] 94 (0, 0))
  root : NodeI w g0 L1 (fun _ => 0)
  mid : ∀ k, k < 8 → ∀ g, L1 k = some g → NodeI w g (fun i => L2 (8 * k + i)) (fun _ => 0)
  leaf : ∀ j, j < 64 → ∀ g, L2 j = some g → NodeI w g (fun _ => none) (fun i => f (8 * j + i))
  hole : ∀ j, j < 64 → L2 j = none → ∀ i, i < 8 → f (8 * j + i) = 0
  par : ∀ j, j < 64 → L1 (j / 8) = none → L2 j = none
  lr : lb r = 1
  lg : lb g0 = 2
  l1 : ∀ k, k < 8 → ∀ g, L1 k = some g → lb g = 3 + k
  l2 : ∀ j, j < 64 → ∀ g, L2 j = some g → lb g = 11 + j
  cel : ∀ b, lb b ≠ 0 → IsC w b
abbrev ShapeI (w : World) (r : Nat) (f : Nat → Int) (lb : Nat → Nat) (g0 : Nat) (L1 L2 : Nat → Option Nat) : Prop := ShapeC w r (cntI f) f lb g0 L1 L2
def TreeI (w : World) (r : Nat) (f : Nat → Int) (lb : Nat → Nat) : Prop := ∃ g0 L1 L2, ShapeI w r f lb g0 L1 L2

/-- the blocks of a tree -/
def Of (lb : Nat → Nat) (b : Nat) : Prop := lb b ≠ 0

theorem ShapeC.dom {w : World} {r : Nat} {c : Int} {f : Nat → Int} {lb : Nat → Nat} {g0 : Nat} {L1 L2 : Nat → Option Nat} (h : ShapeC w r c f lb g0 L1 L2) : ∀ b, lb b ≠ 0 → b < w.heap.size := fun b hb => (h.cel b hb).lt
theorem ShapeC.chg {D : Nat → Prop} {w w' : World} {r : Nat} {c : Int} {f : Nat → Int} {lb : Nat → Nat} {g0 : Nat} {L1 L2 : Nat → Option Nat} (h : ShapeC w r c f lb g0 L1 L2) (hc : Chg D w w') (hn : ∀ b, lb b ≠ 0 → ¬ D b) : ShapeC w' r c f lb g0 L1 L2 :=
  ⟨hc.heap h.hdr (hn _ (by rw [h.lr]; decide)), h.root.chg hc (hn _ (by rw [h.lg]; decide)),
    fun k hk g hg => (h.mid k hk g hg).chg hc (hn _ (by rw [h.l1 k hk g hg]; omega)), fun j hj g hg => (h.leaf j hj g hg).chg hc (hn _ (by rw [h.l2 j hj g hg]; omega)),
    h.hole, h.par, h.lr, h.lg, h.l1, h.l2, fun b hb => (h.cel b hb).chg hc (hn b hb)⟩
theorem TreeI.chg {D : Nat → Prop} {w w' : World} {r : Nat} {f : Nat → Int} {lb : Nat → Nat} (h : TreeI w r f lb) (hc : Chg D w w') (hn : ∀ b, lb b ≠ 0 → ¬ D b) : TreeI w' r f lb := by
  obtain ⟨g0, L1, L2, hs⟩ := h
  exact ⟨g0, L1, L2, hs.chg hc hn⟩
theorem TreeI.below {w w' : World} {r : Nat} {f : Nat → Int} {lb : Nat → Nat} (h : TreeI w r f lb) (hb : Below w.heap.size w w') : TreeI w' r f lb :=
  h.chg (Chg.of_below (fun _ => False) hb) (fun _ _ h => h)
theorem TreeI.cel {w : World} {r : Nat} {f : Nat → Int} {lb : Nat → Nat} (h : TreeI w r f lb) : ∀ b, lb b ≠ 0 → IsC w b := by
  obtain ⟨g0, L1, L2, hs⟩ := h; exact hs.cel
theorem TreeI.dom {w : World} {r : Nat} {f : Nat → Int} {lb : Nat → Nat} (h : TreeI w r f lb) : ∀ b, lb b ≠ 0 → b < w.heap.size := by
  obtain ⟨g0, L1, L2, hs⟩ := h; exact hs.dom
theorem TreeI.lr {w : World} {r : Nat} {f : Nat → Int} {lb : Nat → Nat} (h : TreeI w r f lb) : lb r = 1 := by
  obtain ⟨g0, L1, L2, hs⟩ := h; exact hs.lr

theorem cntI_le (f : Nat → Int) : cntI f ≤ 512 := by
  unfold cntI cntN
  have := List.length_filter_le (fun i => decide (f i ≠ 0)) (List.range 512)
  rw [List.length_range] at this; exact this

theorem cntN_succ (f : Nat → Int) (n : Nat) : cntN f (n + 1) = cntN f n + if f n = 0 then 0 else 1 := by
  unfold cntN
  rw [List.range_succ, List.filter_append, List.length_append]
  by_cases h : f n = 0 <;> simp [h]
theorem cntN_congr {f g : Nat → Int} : ∀ n, (∀ i, i < n → f i = g i) → cntN f n = cntN g n
  | 0, _ => rfl
  | n + 1, h => by rw [cntN_succ, cntN_succ, cntN_congr n (fun i hi => h i (by omega)), h n (by omega)]
theorem cntN_upd (f : Nat → Int) (i : Nat) (v : Int) : ∀ n, i < n → cntN (upd f i v) n + (if f i = 0 then 0 else 1) = cntN f n + if v = 0 then 0 else 1
  | 0, h => by omega
  | n + 1, h => by
    rw [cntN_succ, cntN_succ]
    by_cases e : i = n
    · subst e
      rw [upd_same, cntN_congr (f := upd f i v) (g := f) i (fun j hj => upd_other f v (by omega))]
      omega
    · rw [upd_other f v (fun e' => e e'.symm)]
      have := cntN_upd f i v n (by omega)
      omega
theorem cntI_upd (f : Nat → Int) (i : Nat) (v : Int) (h : i < 512) : cntI (upd f i v) + (if f i = 0 then 0 else 1) = cntI f + if v = 0 then 0 else 1 := cntN_upd f i v 512 h
theorem cntI_pos (f : Nat → Int) (i : Nat) (h : i < 512) (hf : f i ≠ 0) : 0 < cntI f := by
  have := cntI_upd f i 0 h
  rw [if_neg hf, if_pos rfl] at this
  omega

end Go.Proofs.Ytfljnfmocmhhdaa
