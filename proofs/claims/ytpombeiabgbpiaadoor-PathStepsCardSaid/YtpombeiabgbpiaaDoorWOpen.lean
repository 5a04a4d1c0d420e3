/-
What the rows of this seat give their walks: slices of texts, of edges, paths, an edge.
-/
import Derived.Test.YtpombeiabgbpiaaDoorRows
import Derived.Test.YtpombeiabgbpiaaDoorWKit
import Derived.WalkKit
import Derived.ProofKit
import Derived.OpenShut
import Derived.ShutString
import Derived.ChangeOld
import Derived.Below
import Derived.SizedLaws
import Derived.LaidMore
namespace Go.Proofs.YtpombeiabgbpiaaDoor
open Go.ChangeShapes Go.WideShapes Go.ChangeAt Go.WideMaps Go.WideElems Go.RowKit

theorem laidOut : laidOutB Tryd.prog = true := by kernel_rfl
theorem reach_eq : reachBytes = 140737488351232 := by decide
theorem weightsAll_mem {H : Type} {P : Program} {e : TypeId} : ∀ {ds : List (DataW H)} {i : Nat} {d : DataW H}, ds[i]? = some d → ∀ n ∈ d.weights P e, n ∈ DataW.weightsAll P e ds
  | d0 :: ds, 0, d, hd, n, hn => by
    simp only [List.getElem?_cons_zero, Option.some.injEq] at hd
    subst hd
    simp only [DataW.weightsAll, List.mem_append]
    exact Or.inl hn
  | d0 :: ds, i + 1, d, hd, n, hn => by
    simp only [List.getElem?_cons_succ] at hd
    simp only [DataW.weightsAll, List.mem_append]
    exact Or.inr (weightsAll_mem hd n hn)
  | [], _, _, hd, _, _ => by simp at hd
theorem take1 {cs : List Value} {j : Nat} (h : j < cs.length) : (cs.drop j).take 1 = [cs[j]] := by
  rw [List.drop_eq_getElem_cons h]; rfl

set_option maxRecDepth 100000 in
/-- a slice whose elements can be opened -/
theorem slice_open {H : Type} {enc : TypeId × Value → H} {W : World} {base : Nat} {held : Bool} {fuel : Nat} {cs : List Value} {x : DataW H × List MemPlace} {t e : TypeId} {k B : Nat} {α : Type} [Inhabited α] (f : α → List Value) (Q : α → Prop) (hk : 0 < k)
    (ht : Tryd.prog.underlying t = some (.slice e)) (hc : Tryd.prog.cellsOf e = k) (hB : Tryd.prog.bytesOf e = B)
    (hE : ∀ (fuel : Nat) (cs : List Value) (y : DataW H × List MemPlace), (∀ n ∈ y.1.weights Tryd.prog e, n ≤ reachBytes) → DataW.trod enc Tryd.prog W base (fun _ => true) held fuel e cs = some y → ∃ a : α, cs = f a ∧ Q a)
    (hw : ∀ n ∈ x.1.weights Tryd.prog t, n ≤ reachBytes) (h : DataW.trod enc Tryd.prog W base (fun _ => true) held fuel t cs = some x) :
    ∃ (A : Option Addr) (c : Nat) (l : List α), cs = [.slice A l.length c] ∧ l.length ≤ c ∧ c ≤ maxLen ∧ c * B ≤ reachBytes ∧ Nz (.slice A l.length c) ∧ (∀ a ∈ l, Q a) ∧
      (0 < l.length → ∃ b off, A = some ⟨b, off, none⟩ ∧ b < W.heap.size ∧ ∀ i a, l[i]? = some a → W.rangeAt b (off + i * k) (f a)) := by
  rcases DataW.trod_slice ht h with ⟨rfl, _⟩ | ⟨a, len, cap, elems, rest, m, _, rfl, rfl, _, hl, hm, hlen, hel, hrest, _⟩
  · exact ⟨none, 0, [], rfl, Nat.le_refl _, by simp [maxLen], by simp, fun n c e => (by injection e with _ e1 e2; exact ⟨e1.symm, e2.symm⟩), by simp, fun h => absurd h (by simp)⟩
  · have z := hw (((elems.map (·.1)).length + (rest.map (·.1)).length) * Tryd.prog.bytesOf e) (by simp [DataW.weights, ht])
    rw [hB] at z
    have hrl : rest.length = cap - len := (hrest rfl).1
    have hz : cap * B ≤ reachBytes := by
      have e1 : (elems.map (·.1)).length + (rest.map (·.1)).length = cap := by simp; omega
      rwa [e1] at z
    have hwe : ∀ (i : Nat) (y : DataW H × List MemPlace), elems[i]? = some y → ∀ n ∈ y.1.weights Tryd.prog e, n ≤ reachBytes := fun i y hy n hn => by
      refine hw n ?_
      simp only [DataW.weights, ht, List.mem_cons, List.mem_append]
      exact .inr (.inl (weightsAll_mem (i := i) (by rw [List.getElem?_map, hy]; rfl) n hn))
    have each : ∀ i, i < len → ∃ u : α, Q u ∧ ∀ j v, (f u)[j]? = some v → W.cell? ((a.add (i * k)).add j) = some v := by
      intro i hi
      have h0 := hel i hi
      have hie : i < elems.length := by omega
      rw [hc, List.getElem?_eq_getElem hie] at h0
      obtain ⟨cs', hcs, ht'⟩ := Option.bind_eq_some_iff.1 h0
      obtain ⟨_, hcl, hat⟩ := World.cells?_some hcs
      obtain ⟨u, rfl, hu⟩ := hE _ _ _ (hwe i _ (List.getElem?_eq_getElem hie)) ht'
      exact ⟨u, hu, fun j v hv => (hat j (by have := (List.getElem?_eq_some_iff.1 hv).1; omega)).trans hv⟩
    have hcells : ∀ i, i < len → ∀ u, ((∀ j v, (f u)[j]? = some v → W.cell? ((a.add (i * k)).add j) = some v) → True) := fun _ _ _ _ => trivial
    obtain ⟨l, ho, hall⟩ : ∃ l : List α, l.length = len ∧ ∀ i (h : i < l.length), Q l[i] ∧ ∀ j v, (f l[i])[j]? = some v → W.cell? ((a.add (i * k)).add j) = some v := by
      refine ⟨(List.range len).map fun i => if h : i < len then (each i h).choose else default, by simp, fun i h => ?_⟩
      have hi : i < len := by simpa using h
      simp only [List.getElem_map, List.getElem_range, hi, dite_true]
      exact (each i hi).choose_spec
    clear hcells
    refine ⟨some a, cap, l, by rw [ho], by omega, hm, hz, fun n c e => (by injection e with e; cases e), fun u hu => ?_, fun h0 => ?_⟩
    · obtain ⟨i, hi, rfl⟩ := List.mem_iff_getElem.1 hu
      exact (hall i hi).1
    · have hfirst : ∃ v, W.cell? ((a.add (0 * k)).add 0) = some v := by
        have h1 := hel 0 (by omega)
        rw [hc, List.getElem?_eq_getElem (by omega)] at h1
        obtain ⟨cs', hcs, _⟩ := Option.bind_eq_some_iff.1 h1
        obtain ⟨_, hcl, hat⟩ := World.cells?_some hcs
        exact ⟨_, (hat 0 (by omega)).trans (List.getElem?_eq_getElem (by omega))⟩
      obtain ⟨b, off, spot⟩ := a
      obtain ⟨v0, hv0⟩ := hfirst
      have hs : spot = none := by
        cases spot with
        | none => rfl
        | some sp =>
          exfalso
          clear hall hrest hel hw h each hE
          unfold Addr.add at hv0
          simp [World.cell?] at hv0
          split at hv0 <;> simp_all
      subst hs
      rw [Go.WideShapes.add_plain, Go.WideShapes.add_plain] at hv0
      refine ⟨b, off, rfl, World.block_lt_of_cell? W _ hv0, fun i u hu j v hv => ?_⟩
      obtain ⟨hi, rfl⟩ := List.getElem?_eq_some_iff.1 hu
      have := (hall i hi).2 j v hv
      rwa [Go.WideShapes.add_plain, Go.WideShapes.add_plain] at this

/-- names of no more bytes than a machine can hold -/
def Nm (l : List ByteArray) : Prop := ∀ s ∈ l, s.size ≤ 140737488351232
theorem Nm.max {l : List ByteArray} (h : Nm l) : ∀ s ∈ l, s.size ≤ maxLen := fun s hs => by have := h s hs; rw [maxLen_eq]; omega
def StrsV (W : World) (v : Value) (l : List ByteArray) : Prop := RdS W v l ∧ Nm l ∧ l.length ≤ 8796093021952
theorem strs_open {H : Type} {enc : TypeId × Value → H} {W : World} {base : Nat} {held : Bool} {fuel : Nat} {cs : List Value} {x : DataW H × List MemPlace}
    (hw : ∀ n ∈ x.1.weights Tryd.prog 23, n ≤ reachBytes) (h : DataW.trod enc Tryd.prog W base (fun _ => true) held fuel 23 cs = some x) : ∃ v l, cs = [v] ∧ StrsV W v l ∧ Nz v := by
  obtain ⟨A, c, l, rfl, h1, h2, h3, hz, h4, h5⟩ := slice_open (k := 1) (B := 16) (α := ByteArray) (fun s => [.string s]) (fun s => s.size ≤ reachBytes) (by omega) Tryd.underlying23 (by kernel_rfl) (by kernel_rfl)
    (fun fuel cs y hw hy => by
      obtain ⟨s, rfl, rfl, _⟩ := DataW.trod_string Tryd.underlying9 hy
      exact ⟨s, rfl, by simpa [DataW.weights] using hw s.data.toList.length (by simp [DataW.weights])⟩) hw h
  rw [reach_eq] at h3
  refine ⟨_, l, rfl, ⟨⟨A, c, rfl, h1, h2, fun h0 => ?_⟩, fun s hs => by have := h4 s hs; rwa [reach_eq] at this, by omega⟩, hz⟩
  obtain ⟨b, off, e, hb, hh⟩ := h5 h0
  refine ⟨b, off, e, hb, fun i s hs => ?_⟩
  have := hh i s hs 0 _ rfl
  rwa [Nat.mul_one] at this

/-- a path that is handed in -/
def PathV (W : World) (v : Value) : Prop := ∃ u l b, v = .agg #[u, .bool b] ∧ StrsV W u l ∧ Nz u
set_option maxRecDepth 100000 in
theorem path_cells {H : Type} {enc : TypeId × Value → H} {W : World} {base : Nat} {held : Bool} {fuel : Nat} {cs : List Value} {x : DataW H × List MemPlace}
    (hw : ∀ n ∈ x.1.weights Tryd.prog 25, n ≤ reachBytes) (h : DataW.trod enc Tryd.prog W base (fun _ => true) held fuel 25 cs = some x) : ∃ u l b, cs = [u, .bool b] ∧ StrsV W u l ∧ Nz u := by
  obtain ⟨xs, m, _, rfl, hlen, hxl, hfs⟩ := DataW.trod_struct Tryd.underlying25 h
  have c25 : Tryd.prog.cellsOf 25 = 2 := by kernel_rfl
  have c23 : Tryd.prog.cellsOf 23 = 1 := by kernel_rfl
  have c4 : Tryd.prog.cellsOf 4 = 1 := by kernel_rfl
  rw [c25] at hlen
  have hx2 : xs.length = 2 := hxl
  have f0 : DataW.trod enc Tryd.prog W base (fun _ => true) held m 23 ((cs.drop 0).take (Tryd.prog.cellsOf 23)) = xs[0]? := hfs 0 _ rfl
  have f1 : DataW.trod enc Tryd.prog W base (fun _ => true) held m 4 ((cs.drop 1).take (Tryd.prog.cellsOf 4)) = xs[1]? := hfs 1 _ rfl
  have hwj : ∀ (j : Nat) (t : TypeId) (y : DataW H × List MemPlace), ([23, 4] : List TypeId)[j]? = some t → xs[j]? = some y → ∀ n ∈ y.1.weights Tryd.prog t, n ≤ reachBytes := by
    intro j t y ht hy n hn
    apply hw
    simp only [DataW.weights, Tryd.underlying25]
    exact DataW.weights_mem_each (j := j) ht (by rw [List.getElem?_map, hy]; rfl) n hn
  rw [c23] at f0
  rw [c4] at f1
  rw [take1 (by omega), List.getElem?_eq_getElem (by omega)] at f0 f1
  obtain ⟨u, l, e0, hr⟩ := strs_open (hwj 0 23 _ rfl (List.getElem?_eq_getElem (by omega))) f0
  obtain ⟨b, e1, _⟩ := DataW.trod_bool Tryd.underlying4 f1
  refine ⟨u, l, b, ?_, hr⟩
  have e : cs = [cs[0], cs[1]] := by
    have h5 : cs.drop 2 = [] := List.drop_eq_nil_of_le (by omega)
    rw [← h5, ← List.drop_eq_getElem_cons (by omega : 1 < cs.length), ← List.drop_eq_getElem_cons (by omega : 0 < cs.length)]
    rfl
  rw [e, (List.cons.inj e0).1, (List.cons.inj e1).1]
set_option maxRecDepth 100000 in
theorem open_path {H : Type} {enc : TypeId × Value → H} {W : World} {base0 base : Nat} {held : Bool} {v : Value} {d : DataW H} {ps : List MemPlace} {ts : List TypeId} {ds : List (DataW H)} {j : Nat}
    (hval : Value.okWide Tryd.prog W .any base0 25 v) (hsz : (DataW.weightsEach Tryd.prog ts ds).all (· ≤ reachBytes) = true) (ht : ts[j]? = some 25) (hd : ds[j]? = some d)
    (h : DataW.Trod enc Tryd.prog W base (fun _ => true) held 25 v d ps) : PathV W v := by
  obtain ⟨cs, rfl, _⟩ := okWide_struct Tryd.underlying25 hval
  obtain ⟨fuel, hf⟩ := h
  obtain ⟨u, l, b, e, hr⟩ := path_cells (fun n hn => by
    have := List.all_eq_true.1 hsz _ (DataW.weights_mem_each ht hd n hn)
    simpa using this) hf
  refine ⟨u, l, b, ?_, hr⟩
  obtain ⟨cs⟩ := cs
  simp only [Value.cells] at e
  rw [show cs = [u, .bool b] from by simpa using e]
abbrev path_zero : Value := .agg #[.slice none 0 0, .bool false]

set_option maxRecDepth 100000 in
theorem edge_cells {H : Type} {enc : TypeId × Value → H} {W : World} {base : Nat} {held : Bool} {fuel : Nat} {cs : List Value} {x : DataW H × List MemPlace}
    (h : DataW.trod enc Tryd.prog W base (fun _ => true) held fuel 44 cs = some x) : ∃ e : EdgeV, cs = e.cells ∧ e.Ok := by
  obtain ⟨xs, m, _, rfl, hlen, hxl, hfs⟩ := DataW.trod_struct Tryd.underlying44 h
  have c44 : Tryd.prog.cellsOf 44 = 4 := by kernel_rfl
  have c3 : Tryd.prog.cellsOf 3 = 1 := by kernel_rfl
  have c9 : Tryd.prog.cellsOf 9 = 1 := by kernel_rfl
  have c4 : Tryd.prog.cellsOf 4 = 1 := by kernel_rfl
  rw [c44] at hlen
  have hx4 : xs.length = 4 := hxl
  have f0 : DataW.trod enc Tryd.prog W base (fun _ => true) held m 3 ((cs.drop 0).take (Tryd.prog.cellsOf 3)) = xs[0]? := hfs 0 _ rfl
  have f1 : DataW.trod enc Tryd.prog W base (fun _ => true) held m 9 ((cs.drop 1).take (Tryd.prog.cellsOf 9)) = xs[1]? := hfs 1 _ rfl
  have f2 : DataW.trod enc Tryd.prog W base (fun _ => true) held m 3 ((cs.drop 2).take (Tryd.prog.cellsOf 3)) = xs[2]? := hfs 2 _ rfl
  have f3 : DataW.trod enc Tryd.prog W base (fun _ => true) held m 4 ((cs.drop 3).take (Tryd.prog.cellsOf 4)) = xs[3]? := hfs 3 _ rfl
  rw [c3] at f0 f2
  rw [c9] at f1
  rw [c4] at f3
  rw [take1 (by omega), List.getElem?_eq_getElem (by omega)] at f0 f1 f2 f3
  obtain ⟨a, e0, _, w0⟩ := DataW.trod_int Tryd.underlying3 f0
  obtain ⟨s, e1, _, w1⟩ := DataW.trod_string Tryd.underlying9 f1
  obtain ⟨b, e2, _, w2⟩ := DataW.trod_int Tryd.underlying3 f2
  obtain ⟨c, e3, _⟩ := DataW.trod_bool Tryd.underlying4 f3
  refine ⟨(a, s, b, c), ?_, w0, w1, w2⟩
  have e : cs = [cs[0], cs[1], cs[2], cs[3]] := by
    have h5 : cs.drop 4 = [] := List.drop_eq_nil_of_le (by omega)
    rw [← h5, ← List.drop_eq_getElem_cons (by omega : 3 < cs.length), ← List.drop_eq_getElem_cons (by omega : 2 < cs.length), ← List.drop_eq_getElem_cons (by omega : 1 < cs.length), ← List.drop_eq_getElem_cons (by omega : 0 < cs.length)]
    rfl
  rw [e, (List.cons.inj e0).1, (List.cons.inj e1).1, (List.cons.inj e2).1, (List.cons.inj e3).1]
  rfl
/-- edges that are handed in -/
def EdgesV (W : World) (v : Value) : Prop := ∃ l, RdE W v l ∧ l.length ≤ 3518437208780 ∧ Nz v
set_option maxRecDepth 100000 in
theorem open_edges {H : Type} {enc : TypeId × Value → H} {W : World} {base0 base : Nat} {held : Bool} {v : Value} {d : DataW H} {ps : List MemPlace} {ts : List TypeId} {ds : List (DataW H)} {j : Nat}
    (hval : Value.okWide Tryd.prog W .any base0 35 v) (hsz : (DataW.weightsEach Tryd.prog ts ds).all (· ≤ reachBytes) = true) (ht : ts[j]? = some 35) (hd : ds[j]? = some d)
    (h : DataW.Trod enc Tryd.prog W base (fun _ => true) held 35 v d ps) : EdgesV W v := by
  obtain ⟨A0, n0, c0, rfl⟩ := okWide_slice Tryd.underlying35 hval
  obtain ⟨fuel, hf⟩ := h
  obtain ⟨A, c, l, e, h1, h2, h3, hz, h4, h5⟩ := slice_open (k := 4) (B := 40) (α := EdgeV) EdgeV.cells EdgeV.Ok (by omega) Tryd.underlying35 (by kernel_rfl) (by kernel_rfl)
    (fun fuel cs y _ hy => edge_cells hy) (fun n hn => by
      have := List.all_eq_true.1 hsz _ (DataW.weights_mem_each ht hd n hn)
      simpa using this) hf
  rw [reach_eq] at h3
  simp only [Value.cells] at e
  have e := (List.cons.inj e).1
  rw [e]
  exact ⟨l, ⟨A, c, rfl, h1, h2, h4, h5⟩, by omega, hz⟩
abbrev edges_zero : Value := .slice none 0 0
/-- an edge that is handed in -/
def EdV (v : Value) : Prop := ∃ e : EdgeV, v = .agg e.cells.toArray ∧ e.Ok
set_option maxRecDepth 100000 in
theorem open_edge {H : Type} {enc : TypeId × Value → H} {W : World} {base0 base : Nat} {held : Bool} {v : Value} {d : DataW H} {ps : List MemPlace} {ts : List TypeId} {ds : List (DataW H)} {j : Nat}
    (hval : Value.okWide Tryd.prog W .any base0 44 v) (_hsz : (DataW.weightsEach Tryd.prog ts ds).all (· ≤ reachBytes) = true) (_ht : ts[j]? = some 44) (_hd : ds[j]? = some d)
    (h : DataW.Trod enc Tryd.prog W base (fun _ => true) held 44 v d ps) : EdV v := by
  obtain ⟨cs, rfl, _⟩ := okWide_struct Tryd.underlying44 hval
  obtain ⟨fuel, hf⟩ := h
  obtain ⟨e, he, ho⟩ := edge_cells hf
  refine ⟨e, ?_, ho⟩
  obtain ⟨cs⟩ := cs
  simp only [Value.cells] at he
  rw [show cs = e.cells from by simpa using he]
abbrev edge_zero : Value := .agg #[.int .i64 0, .string ByteArray.empty, .int .i64 0, .bool false]

end Go.Proofs.YtpombeiabgbpiaaDoor
