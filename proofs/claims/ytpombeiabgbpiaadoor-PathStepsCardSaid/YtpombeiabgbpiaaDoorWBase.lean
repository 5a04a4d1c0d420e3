/-
Words that all walks of this seat share: what a step may change; rows that a call owns; slices of texts. (The first part printed by gen_base.py.)
-/
import Derived.Test.YtpombeiabgbpiaaDoorProg
import Derived.WalkKit
import Derived.ProofKit
import Derived.Outline
import Derived.Handy
import Derived.Lib.Hide
import Derived.Below
import Derived.IntWalk
import Derived.Laws.BitsAllLaws
import Derived.Deep.QuietTactic
import Derived.BigQuiet
import Derived.RangeFuncBox
import Derived.Maps.AppendAt
namespace Go.Proofs.YtpombeiabgbpiaaDoor
open Go.RowKit

theorem ret_int {k : IntKind} {a b : Int} (h : a = b) : Ending.returned (.int k a) = .returned (.int k b) := by rw [h]
theorem ret_bool {a b : Bool} (h : a = b) : Ending.returned (.bool a) = .returned (.bool b) := by rw [h]

/-- what lay ahead and was none of D's lies as it lay; the streams are as they were -/
structure Chg (D : Nat → Prop) (w w' : World) : Prop where
  os : w'.os = w.os
  tape : w'.tape = w.tape
  output : w'.output = w.output
  size : w.heap.size ≤ w'.heap.size
  block : ∀ b, b < w.heap.size → ¬ D b → w'.heap[b]? = w.heap[b]?
theorem Chg.refl (D : Nat → Prop) (w : World) : Chg D w w := ⟨rfl, rfl, rfl, Nat.le_refl _, fun _ _ _ => rfl⟩
theorem Chg.trans {D D' : Nat → Prop} {a b c : World} (h : Chg D a b) (k : Chg D' b c) (hD : ∀ x, x < a.heap.size → D' x → D x) : Chg D a c :=
  ⟨k.os.trans h.os, k.tape.trans h.tape, k.output.trans h.output, Nat.le_trans h.size k.size, fun x hx hn =>
    (k.block x (Nat.lt_of_lt_of_le hx h.size) (fun h' => hn (hD x hx h'))).trans (h.block x hx hn)⟩
theorem Chg.mono {D D' : Nat → Prop} {a b : World} (h : Chg D a b) (hD : ∀ x, x < a.heap.size → D x → D' x) : Chg D' a b :=
  ⟨h.os, h.tape, h.output, h.size, fun x hx hn => h.block x hx (fun h' => hn (hD x hx h'))⟩
theorem Chg.of_below {a b : World} (D : Nat → Prop) (h : Below a.heap.size a b) : Chg D a b := ⟨h.os, h.tape, h.output, h.size, fun x hx _ => h.block x hx⟩
theorem Chg.below {D : Nat → Prop} {a b : World} (h : Chg D a b) (n : Nat) (hn : n ≤ a.heap.size) (hD : ∀ x, x < n → ¬ D x) : Below n a b := ⟨h.os, h.tape, h.output, h.size, fun x hx => h.block x (by omega) (hD x hx)⟩
theorem Chg.setCell {D : Nat → Prop} {a w : World} (h : Chg D a w) {p : Addr} (hp : p.block < a.heap.size → D p.block) (u : Value) : Chg D a (w.setCell p u) :=
  ⟨h.os, h.tape, h.output, by simpa [World.setCell] using h.size, fun x hx hn => by
    rw [Below.heap_setCell _ _ _ _ (fun e => hn (by subst e; exact hp hx))]; exact h.block x hx hn⟩
theorem Chg.alloc {D : Nat → Prop} {a w : World} (h : Chg D a w) (o : Obj) : Chg D a (w.alloc o) :=
  ⟨h.os, h.tape, h.output, by simp; have := h.size; omega, fun x hx hn => (Below.heap_alloc _ _ _ (by have := h.size; omega)).trans (h.block x hx hn)⟩
theorem Chg.drew {D : Nat → Prop} {a w : World} (h : Chg D a w) : Chg D a w.drew := ⟨h.os, h.tape, h.output, h.size, h.block⟩
theorem Chg.drewN {D : Nat → Prop} {a w : World} (h : Chg D a w) (m : Nat) : Chg D a (w.drewN m) := ⟨h.os, h.tape, h.output, h.size, h.block⟩
theorem Chg.heap {D : Nat → Prop} {a w : World} (h : Chg D a w) {b : Nat} {o : Obj} (hb : a.heap[b]? = some o) (hn : ¬ D b) : w.heap[b]? = some o :=
  (h.block b (Array.getElem?_eq_some_iff.1 hb).1 hn).trans hb

theorem heap_lt {w : World} {b : Nat} {o : Obj} (h : w.heap[b]? = some o) : b < w.heap.size := (Array.getElem?_eq_some_iff.1 h).1

theorem Chg.grown {D : Nat → Prop} {a w w' : World} (h : Chg D a w) {row : Option Nat} (hg : w.grownBy w' row) (hr : ∀ k, row = some k → k < a.heap.size → D k) : Chg D a w' :=
  ⟨hg.os.trans h.os, hg.tape.trans h.tape, hg.output.trans h.output, Nat.le_trans h.size hg.size, fun b hb hn =>
    (hg.block b (by have := h.size; omega) (fun e => hn (hr b e.symm hb))).trans (h.block b hb hn)⟩
theorem own_chg {D : Nat → Prop} {W W' : World} {base n s : Nat} {e : TypeId} {v : Value} {xs : List Value} (h : W.ownsRow base e s v n xs) (hc : Chg D W W') (hn : ∀ k, v.ownBlock = some k → ¬ D k) : W'.ownsRow base e s v n xs := by
  refine ⟨h.1, h.2.imp id ?_⟩
  rintro ⟨g, cap, cur, rfl, hb, hg, r⟩
  exact ⟨g, cap, cur, rfl, hb, hc.heap hg (hn g rfl), r⟩
theorem own_cells {W : World} {base n s : Nat} {e : TypeId} {v : Value} {xs : List Value} (h : W.ownsRow base e s v n xs) {k : Nat} (hk : v.ownBlock = some k) : ∃ cs t fr, W.heap[k]? = some (.cells cs t fr) := by
  rcases h.2 with ⟨rfl, _⟩ | ⟨g, cap, cur, rfl, hb, hg, r⟩
  · cases hk
  · obtain rfl : g = k := Option.some.inj hk
    exact ⟨_, _, _, hg⟩

theorem own_base {W : World} {base base' n s : Nat} {e : TypeId} {v : Value} {xs : List Value} (h : W.ownsRow base e s v n xs) (hb : base' ≤ base) : W.ownsRow base' e s v n xs := by
  refine ⟨h.1, h.2.imp id ?_⟩
  rintro ⟨g, cap, cur, rfl, hb', r⟩
  exact ⟨g, cap, cur, rfl, by omega, r⟩
theorem below_lift {a b c : World} (h : Below a.heap.size a b) (k : Below b.heap.size b c) : Below a.heap.size a c :=
  h.trans ⟨k.os, k.tape, k.output, k.size, fun x hx => k.block x (Nat.lt_of_lt_of_le hx h.size)⟩
theorem cell_chg {D : Nat → Prop} {w w' : World} {b o : Nat} {v : Value} (hc : Chg D w w') (h : w.cell? ⟨b, o, none⟩ = some v) (hn : ¬ D b) : w'.cell? ⟨b, o, none⟩ = some v := by
  rw [← h]
  exact World.cell?_of_block (hc.block b (World.block_lt_of_cell? w _ h) hn)
theorem cell_below {w w' : World} {b o : Nat} {v : Value} (hb : Below w.heap.size w w') (h : w.cell? ⟨b, o, none⟩ = some v) : w'.cell? ⟨b, o, none⟩ = some v := cell_chg (Chg.of_below (fun _ => False) hb) h (fun e => e)

/-- a text's bytes -/
abbrev bys (s : ByteArray) : List UInt8 := s.data.toList
theorem toList_bys (s : ByteArray) : s.toList = bys s := ByteArray.toList_eq s
theorem bys_extract (s : ByteArray) (i j : Nat) : bys (s.extract i j) = ((bys s).take j).drop i := by
  simp [bys, ByteArray.data_extract, List.extract_eq_take_drop, List.drop_take]
theorem bys_length (s : ByteArray) : (bys s).length = s.size := by simp [bys]
theorem bys_inj {s t : ByteArray} (h : bys s = bys t) : s = t := ByteArray.ext (Array.toList_inj.1 h)
theorem isE_size (s : ByteArray) : s.toList.isEmpty = (s.size == 0) := by
  rw [toList_bys, ← bys_length]
  cases bys s <;> rfl

def vS (s : ByteArray) : Value := .string s
/-- a slice of texts that can be read -/
def RdS (W : World) (v : Value) (l : List ByteArray) : Prop :=
  ∃ A c, v = .slice A l.length c ∧ l.length ≤ c ∧ c ≤ maxLen ∧ (0 < l.length → ∃ b off, A = some ⟨b, off, none⟩ ∧ b < W.heap.size ∧ ∀ i s, l[i]? = some s → W.cell? ⟨b, off + i, none⟩ = some (.string s))
theorem RdS.chg {D : Nat → Prop} {w w' : World} {v : Value} {l : List ByteArray} (h : RdS w v l) (hc : Chg D w w') (hn : ∀ b off n c, v = .slice (some ⟨b, off, none⟩) n c → ¬ D b) : RdS w' v l := by
  obtain ⟨A, c, rfl, h1, h2, h3⟩ := h
  refine ⟨A, c, rfl, h1, h2, fun h0 => ?_⟩
  obtain ⟨b, off, rfl, hb, hh⟩ := h3 h0
  exact ⟨b, off, rfl, Nat.lt_of_lt_of_le hb hc.size, fun i s hs => cell_chg hc (hh i s hs) (hn b off _ c rfl)⟩
theorem RdS.below {w w' : World} {v : Value} {l : List ByteArray} (h : RdS w v l) (hb : Below w.heap.size w w') : RdS w' v l := h.chg (Chg.of_below (fun _ => False) hb) (fun _ _ _ _ _ h => h)
theorem RdS.of_own {w : World} {B : Nat} {v : Value} {l : List ByteArray} (h : w.ownsRow B 9 1 v l.length (l.map vS)) : RdS w v l := by
  rcases h.2 with ⟨rfl, h0⟩ | ⟨g, cap, cur, rfl, hb, hg, h1, h2, h3, h4⟩
  · exact ⟨none, 0, by rw [h0], by omega, by simp [maxLen], fun h => by omega⟩
  · refine ⟨_, cap, rfl, h1, h2, fun _ => ⟨g, 0, rfl, heap_lt hg, fun i s hs => ?_⟩⟩
    have hil := (List.getElem?_eq_some_iff.1 hs).1
    rw [cell_of_row w _ _ _ _ _ hg, Nat.zero_add]
    have e : (l.map vS)[i]? = some (.string s) := by rw [List.getElem?_map, hs]; rfl
    rw [← h4, List.getElem?_take, if_pos (by omega)] at e
    rwa [Array.getElem?_toList] at e

end Go.Proofs.YtpombeiabgbpiaaDoor
