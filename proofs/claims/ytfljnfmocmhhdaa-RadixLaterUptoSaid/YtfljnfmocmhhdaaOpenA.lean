/-
What the row of RadixAmid gives its walk: a struct with a list of steps and three numbers.
-/
import Derived.Test.YtfljnfmocmhhdaaOpen2
namespace Go.Proofs.Ytfljnfmocmhhdaa
open Go.ChangeShapes Go.WideShapes Go.ChangeAt Go.WideMaps Go.WideElems Go.RowKit

set_option maxRecDepth 100000 in
/-- a slice of steps, wherever it is met -/
theorem puts_open {H : Type} {enc : TypeId × Value → H} {W : World} {base : Nat} {held : Bool} {fuel : Nat} {cs : List Value} {x : DataW H × List MemPlace}
    (hw : ∀ n ∈ x.1.weights Try.prog 22, n ≤ reachBytes) (h : DataW.trod enc Try.prog W base (fun _ => true) held fuel 22 cs = some x) : ∃ A n c l, cs = [.slice A n c] ∧ RdT W A n c l := by
  rcases DataW.trod_slice Try.underlying22 h with ⟨rfl, _⟩ | ⟨a, len, cap, elems, rest, m, _, rfl, rfl, _, hl, hm, hlen, hel, hrest, _⟩
  · exact ⟨none, 0, 0, [], rfl, rfl, by omega, by omega, by simp, by omega⟩
  · have c41 : Try.prog.cellsOf 41 = 3 := by kernel_rfl
    have b41 : Try.prog.bytesOf 41 = 24 := by kernel_rfl
    have z := hw (((elems.map (·.1)).length + (rest.map (·.1)).length) * Try.prog.bytesOf 41) (by simp [DataW.weights, Try.underlying22])
    rw [b41] at z
    have hn : len * 24 ≤ 140737488355328 := by
      have h2 : reachBytes ≤ 140737488355328 := by decide
      have h3 : (elems.map (·.1)).length = len := by simp [hlen]
      omega
    have each : ∀ i, i < len → ∃ p : PutV, (-9223372036854775808 ≤ p.2.1 ∧ -9223372036854775808 ≤ p.2.2 ∧ p.2.2 ≤ 9223372036854775807) ∧ W.cell? ((a.add (i * 3)).add 0) = some (.bool p.1) ∧ W.cell? ((a.add (i * 3)).add 1) = some (.int .i64 p.2.1) ∧ W.cell? ((a.add (i * 3)).add 2) = some (.int .i64 p.2.2) := by
      intro i hi
      have h0 := hel i hi
      have hie : i < elems.length := by omega
      rw [c41, List.getElem?_eq_getElem hie] at h0
      obtain ⟨cs', hc, ht'⟩ := Option.bind_eq_some_iff.1 h0
      obtain ⟨_, hcl, hat⟩ := World.cells?_some hc
      obtain ⟨p, rfl, hp⟩ := put_cells ht'
      exact ⟨p, hp, hat 0 (by omega), hat 1 (by omega), hat 2 (by omega)⟩
    have hex : ∃ l : List PutV, l.length = len ∧ ∀ i (h : i < l.length), (-9223372036854775808 ≤ l[i].2.1 ∧ -9223372036854775808 ≤ l[i].2.2 ∧ l[i].2.2 ≤ 9223372036854775807) ∧ W.cell? ((a.add (i * 3)).add 0) = some (.bool l[i].1) ∧ W.cell? ((a.add (i * 3)).add 1) = some (.int .i64 l[i].2.1) ∧ W.cell? ((a.add (i * 3)).add 2) = some (.int .i64 l[i].2.2) := by
      refine ⟨(List.range len).map fun i => if h : i < len then (each i h).choose else (false, 0, 0), by simp, fun i h => ?_⟩
      have hi : i < len := by simpa using h
      simp only [List.getElem_map, List.getElem_range, hi, dite_true]
      exact (each i hi).choose_spec
    obtain ⟨l, ho, hall⟩ := hex
    refine ⟨some a, len, cap, l, rfl, ho, hl, hn, fun p hm => ?_, fun h0 => ?_⟩
    · obtain ⟨i, hi, rfl⟩ := List.mem_iff_getElem.1 hm
      exact (hall i hi).1
    · obtain ⟨b, off, spot⟩ := a
      have hfirst := (hall 0 (by omega)).2.1
      have hs : spot = none := by
        cases spot with
        | none => rfl
        | some sp =>
          exfalso
          clear hall hrest hel hw h
          unfold Addr.add at hfirst
          simp [World.cell?] at hfirst
          split at hfirst <;> simp_all
      subst hs
      have hb : b < W.heap.size := by
        rw [Go.WideShapes.add_plain, Go.WideShapes.add_plain] at hfirst
        exact World.block_lt_of_cell? W _ hfirst
      refine ⟨b, off, rfl, hb, fun i p hp => ?_⟩
      obtain ⟨hi, rfl⟩ := List.getElem?_eq_some_iff.1 hp
      obtain ⟨_, e0, e1, e2⟩ := hall i hi
      rw [Go.WideShapes.add_plain, Go.WideShapes.add_plain] at e0 e1 e2
      exact ⟨e0, e1, e2⟩

def AmidV (W : World) (v : Value) : Prop := ∃ A n c l frm cut V, v = .agg #[.slice A n c, .int .i64 frm, .int .i64 cut, .int .i64 V] ∧ RdT W A n c l ∧ -9223372036854775808 ≤ frm ∧ -9223372036854775808 ≤ cut ∧ -9223372036854775808 ≤ V ∧ V ≤ 9223372036854775807

set_option maxRecDepth 100000 in
theorem open_amid {H : Type} {enc : TypeId × Value → H} {W : World} {base0 base : Nat} {held : Bool} {v : Value} {d : DataW H} {ps : List MemPlace} {ts : List TypeId} {ds : List (DataW H)} {j : Nat}
    (hval : Value.okWide Try.prog W .any base0 24 v) (hsz : (DataW.weightsEach Try.prog ts ds).all (· ≤ reachBytes) = true) (ht : ts[j]? = some 24) (hd : ds[j]? = some d)
    (h : DataW.Trod enc Try.prog W base (fun _ => true) held 24 v d ps) : AmidV W v := by
  obtain ⟨cs, rfl, _⟩ := okWide_struct Try.underlying24 hval
  obtain ⟨fuel, hf⟩ := h
  have hwd : ∀ n ∈ d.weights Try.prog 24, n ≤ reachBytes := fun n hn => by
    have := List.all_eq_true.1 hsz _ (DataW.weights_mem_each ht hd n hn)
    simpa using this
  obtain ⟨xs, m, _, hx, hlen, hxl, hfs⟩ := DataW.trod_struct Try.underlying24 hf
  have c24 : Try.prog.cellsOf 24 = 4 := by kernel_rfl
  have c3 : Try.prog.cellsOf 3 = 1 := by kernel_rfl
  have c22 : Try.prog.cellsOf 22 = 1 := by kernel_rfl
  rw [c24] at hlen
  obtain ⟨cs⟩ := cs
  simp only [Value.cells] at hlen hfs
  have hlen : cs.length = 4 := by simpa using hlen
  have hd' : d = _ := (Prod.mk.inj hx).1
  have f0 : DataW.trod enc Try.prog W base (fun _ => true) held m 22 ((cs.drop 0).take (Try.prog.cellsOf 22)) = xs[0]? := hfs 0 _ rfl
  have f1 : DataW.trod enc Try.prog W base (fun _ => true) held m 3 ((cs.drop 1).take (Try.prog.cellsOf 3)) = xs[1]? := hfs 1 _ rfl
  have f2 : DataW.trod enc Try.prog W base (fun _ => true) held m 3 ((cs.drop 2).take (Try.prog.cellsOf 3)) = xs[2]? := hfs 2 _ rfl
  have f3 : DataW.trod enc Try.prog W base (fun _ => true) held m 3 ((cs.drop 3).take (Try.prog.cellsOf 3)) = xs[3]? := hfs 3 _ rfl
  have hx4 : xs.length = 4 := hxl
  subst hd'
  have hwj : ∀ (j : Nat) (t : TypeId) (y : DataW H × List MemPlace), ([22, 3, 3, 3] : List TypeId)[j]? = some t → xs[j]? = some y → ∀ n ∈ y.1.weights Try.prog t, n ≤ reachBytes := by
    intro j t y ht hy n hn
    apply hwd
    simp only [DataW.weights, Try.underlying24]
    exact DataW.weights_mem_each (j := j) ht (by rw [List.getElem?_map, hy]; rfl) n hn
  rw [c3] at f1 f2 f3
  rw [c22] at f0
  rw [take1 (by omega), List.getElem?_eq_getElem (by omega)] at f0 f1 f2 f3
  obtain ⟨A, n, c, l, e0, hr⟩ := puts_open (hwj 0 22 _ rfl (List.getElem?_eq_getElem (by omega))) f0
  obtain ⟨k, k1, _, kw⟩ := DataW.trod_int Try.underlying3 f1
  obtain ⟨u, u1, _, uw⟩ := DataW.trod_int Try.underlying3 f2
  obtain ⟨a, a1, _, aw⟩ := DataW.trod_int Try.underlying3 f3
  refine ⟨A, n, c, l, k, u, a, ?_, hr, (bounds_i64 kw).1, (bounds_i64 uw).1, bounds_i64 aw⟩
  have e : cs = [cs[0], cs[1], cs[2], cs[3]] := by
    have h5 : cs.drop 4 = [] := List.drop_eq_nil_of_le (by omega)
    rw [← h5, ← List.drop_eq_getElem_cons (by omega : 3 < cs.length), ← List.drop_eq_getElem_cons (by omega : 2 < cs.length), ← List.drop_eq_getElem_cons (by omega : 1 < cs.length), ← List.drop_eq_getElem_cons (by omega : 0 < cs.length)]
    rfl
  have g0 : cs[0] = _ := (List.cons.inj e0).1
  have g1 : cs[1] = _ := (List.cons.inj k1).1
  have g2 : cs[2] = _ := (List.cons.inj u1).1
  have g3 : cs[3] = _ := (List.cons.inj a1).1
  rw [e, g0, g1, g2, g3]
abbrev amid_zero : Value := .agg #[.slice none 0 0, .int .i64 0, .int .i64 0, .int .i64 0]

end Go.Proofs.Ytfljnfmocmhhdaa
