/-
Words for the statements that play a script: a call's record as cells, two of them in memory.
-/
import Derived.Test.YtelhmddigogmgaaDoorWRef
namespace Go.Proofs.YtelhmddigogmgaaDoor
open Go.RowKit

/-- a call's record -/
structure OpV where
  k : Int
  a : Int
  s : Nat
  x : Nat
  A : Option Addr
  n : Nat
  c : Nat
  lb : List Nat
  A2 : Option Addr
  n2 : Nat
  c2 : Nat
  lw : List Nat
  ln : List Nat
def OpV.cells (o : OpV) : List Value := .int .i64 o.k :: .int .i64 o.a :: .int .u32 o.s :: .int .u64 o.x :: .slice o.A o.n o.c :: .slice o.A2 o.n2 o.c2 :: vals .u8 o.ln
structure OpV.Ok (o : OpV) : Prop where
  k0 : -9223372036854775808 ≤ o.k
  k1 : o.k ≤ 9223372036854775807
  a0 : -9223372036854775808 ≤ o.a
  a1 : o.a ≤ 9223372036854775807
  s1 : o.s < 4294967296
  x1 : o.x < 18446744073709551616
  b1 : ∀ y ∈ o.lb, y < 256
  w1 : ∀ y ∈ o.lw, y < 18446744073709551616
  n8 : o.n2 * 8 ≤ 140737488355328
  l1 : o.ln.length = 64
  l2 : ∀ y ∈ o.ln, y < 256
/-- what its lists read as -/
structure OpV.In (o : OpV) (w : World) : Prop where
  rb : Rd w .u8 o.A o.n o.c o.lb
  rl : Rd w .u64 o.A2 o.n2 o.c2 o.lw
theorem OpV.In.below {o : OpV} {w w' : World} (h : o.In w) (hb : Below w.heap.size w w') : o.In w' := ⟨h.rb.below hb, h.rl.below hb⟩

theorem info73 : (Tryd.prog.info? 73).map (·.size) = some 70 := by kernel_rfl
theorem OpV.len (o : OpV) (h : o.Ok) : o.cells.length = 70 := by simp [OpV.cells, vals_len, h.l1]
theorem OpV.one (o : OpV) : ∀ v ∈ o.cells, v.oneCell' = true := by
  intro v hv
  simp only [OpV.cells, List.mem_cons] at hv
  rcases hv with rfl | rfl | rfl | rfl | rfl | rfl | hv
  · rfl
  · rfl
  · rfl
  · rfl
  · rfl
  · rfl
  · exact vals_one .u8 o.ln v hv

/-- two records in memory, o and its twin t -/
structure Pl (w0 : World) (g1 g3 : Nat) (o t : OpV) (W : World) : Prop where
  r1 : W.rangeAt g1 0 o.cells
  r3 : W.rangeAt g3 0 t.cells
  i1 : o.In W
  i3 : t.In W
  bel : Below w0.heap.size w0 W
  tab : Tab W
theorem Pl.below {w0 W W' : World} {g1 g3 : Nat} {o t : OpV} (h : Pl w0 g1 g3 o t W) (hb : Below W.heap.size W W') : Pl w0 g1 g3 o t W' :=
  ⟨rangeAt_below h.r1 hb, rangeAt_below h.r3 hb, h.i1.below hb, h.i3.below hb, h.bel.trans (hb.mono h.bel.size), h.tab.below hb⟩
theorem Pl.drew {w0 W : World} {g1 g3 : Nat} {o t : OpV} (h : Pl w0 g1 g3 o t W) : Pl w0 g1 g3 o t W.drew := h.below (Below.refl _ _).drew

theorem range_cell {W : World} {g : Nat} {cs : List Value} (h : W.rangeAt g 0 cs) (j : Nat) (v : Value) (hv : cs[j]? = some v) : W.cell? ⟨g, j, none⟩ = some v := by
  have := h j v hv
  simpa using this
theorem range_of_heap {W : World} {g : Nat} {cs : List Value} {t : TypeId} {fr : Nat × Nat} (h : W.heap[g]? = some (.cells cs.toArray t fr)) : W.rangeAt g 0 cs := fun j v hv => by
  unfold World.cell?
  simp [h, hv]

theorem Rd.set {w : World} {k : IntKind} {A : Option Addr} {n c : Nat} {l : List Nat} (h : Rd w k A n c l) (g j : Nat) (v : Value) (hA : ∀ b off, A = some ⟨b, off, none⟩ → b ≠ g) : Rd (w.setCell ⟨g, j, none⟩ v) k A n c l :=
  ⟨h.1, h.2.1, h.2.2.1, h.2.2.2.1, h.2.2.2.2.imp id fun ⟨b, off, e, hc⟩ => ⟨b, off, e, fun i hi => by
    rw [World.cell?_setCell_far _ _ _ _ (by simpa using (hA b off e).symm)]
    exact hc i hi⟩⟩
/-- a row of the call's own reads, and lies above -/
theorem Rd.own2 {w : World} {B e n : Nat} {k : IntKind} {v : Value} {l : List Nat} (h : w.ownsRow B e 1 v n (vals k l)) (hn : n ≤ 140737488355328) : ∃ A c, v = .slice A n c ∧ Rd w k A n c l ∧ ∀ b off, A = some ⟨b, off, none⟩ → B ≤ b := by
  have hl : l.length = n := by have := h.1; rw [vals_len] at this; omega
  rcases h.2 with ⟨rfl, h0⟩ | ⟨g, cap, cur, rfl, hg0, hg, h1, h2, h3, h4⟩
  · subst h0
    obtain rfl : l = [] := List.eq_nil_of_length_eq_zero hl
    exact ⟨none, 0, rfl, Rd.nil w k, fun b off e => by cases e⟩
  · exact ⟨_, cap, rfl, Rd.block n cap hg (by simpa using h4) hl h1 (by simpa [maxLen] using h2) hn, fun b off e => by
      have := Option.some.inj e
      have h7 : g = b := congrArg Addr.block this
      omega⟩
theorem heap_below {w w' : World} (hb : Below w.heap.size w w') {g : Nat} {o : Obj} (h : w.heap[g]? = some o) : w'.heap[g]? = some o := by
  have hlt : g < w.heap.size := (Array.getElem?_eq_some_iff.1 h).1
  rw [hb.block g hlt]; exact h
theorem Below.setHigh {B : Nat} {w w' : World} (h : Below B w w') (g j : Nat) (v : Value) (hg : B ≤ g) : Below B w (w'.setCell ⟨g, j, none⟩ v) := h.setCell hg _

theorem u64_of (a : Int) : ∃ a' : Nat, a' < 18446744073709551616 ∧ IntKind.u64.wrap a = (a' : Int) := by
  have h : 0 ≤ IntKind.u64.wrap a ∧ IntKind.u64.wrap a < 18446744073709551616 := by
    have : IntKind.u64.wrap a = a % 18446744073709551616 := rfl
    rw [this]; omega
  exact ⟨(IntKind.u64.wrap a).toNat, by omega, by omega⟩

end Go.Proofs.YtelhmddigogmgaaDoor
