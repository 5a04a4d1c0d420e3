/-
What the rows of the short scripts give their walks: a list of steps.
-/
import Derived.Test.YtfljnfmocmhhdaaOpen
import Derived.Test.YtfljnfmocmhhdaaWGrown
namespace Go.Proofs.Ytfljnfmocmhhdaa
open Go.ChangeShapes Go.WideShapes Go.ChangeAt Go.WideMaps Go.WideElems Go.RowKit

theorem put_cells {H : Type} {enc : TypeId × Value → H} {W : World} {base : Nat} {held : Bool} {fuel : Nat} {cs : List Value} {x : DataW H × List MemPlace}
    (h : DataW.trod enc Try.prog W base (fun _ => true) held fuel 41 cs = some x) : ∃ p : PutV, cs = [.bool p.1, .int .i64 p.2.1, .int .i64 p.2.2] ∧ -9223372036854775808 ≤ p.2.1 ∧ -9223372036854775808 ≤ p.2.2 ∧ p.2.2 ≤ 9223372036854775807 := by
  obtain ⟨xs, m, _, rfl, hlen, hxl, hf⟩ := DataW.trod_struct Try.underlying41 h
  have c41 : Try.prog.cellsOf 41 = 3 := by kernel_rfl
  have c3 : Try.prog.cellsOf 3 = 1 := by kernel_rfl
  have c4 : Try.prog.cellsOf 4 = 1 := by kernel_rfl
  rw [c41] at hlen
  have f0 : DataW.trod enc Try.prog W base (fun _ => true) held m 4 ((cs.drop 0).take (Try.prog.cellsOf 4)) = xs[0]? := hf 0 _ rfl
  have f1 : DataW.trod enc Try.prog W base (fun _ => true) held m 3 ((cs.drop 1).take (Try.prog.cellsOf 3)) = xs[1]? := hf 1 _ rfl
  have f2 : DataW.trod enc Try.prog W base (fun _ => true) held m 3 ((cs.drop 2).take (Try.prog.cellsOf 3)) = xs[2]? := hf 2 _ rfl
  have hx3 : xs.length = 3 := hxl
  rw [c4] at f0
  rw [c3] at f1 f2
  rw [take1 (by omega), List.getElem?_eq_getElem (by omega)] at f0 f1 f2
  obtain ⟨a, a1, _⟩ := DataW.trod_bool Try.underlying4 f0
  obtain ⟨b, b1, _, bw⟩ := DataW.trod_int Try.underlying3 f1
  obtain ⟨c, c1, _, cw⟩ := DataW.trod_int Try.underlying3 f2
  have e : cs = [cs[0], cs[1], cs[2]] := by
    have h3 : cs.drop 3 = [] := List.drop_eq_nil_of_le (by omega)
    rw [← h3, ← List.drop_eq_getElem_cons (by omega : 2 < cs.length), ← List.drop_eq_getElem_cons (by omega : 1 < cs.length), ← List.drop_eq_getElem_cons (by omega : 0 < cs.length)]
    rfl
  refine ⟨(a, b, c), ?_, (bounds_i64 bw).1, bounds_i64 cw⟩
  have g0 : cs[0] = _ := (List.cons.inj a1).1
  have g1 : cs[1] = _ := (List.cons.inj b1).1
  have g2 : cs[2] = _ := (List.cons.inj c1).1
  rw [e, g0, g1, g2]

def Puts (W : World) (v : Value) : Prop := ∃ A n c l, v = .slice A n c ∧ RdT W A n c l

set_option maxRecDepth 100000 in
theorem open_puts {H : Type} {enc : TypeId × Value → H} {W : World} {base0 base : Nat} {held : Bool} {v : Value} {d : DataW H} {ps : List MemPlace} {ts : List TypeId} {ds : List (DataW H)} {j : Nat}
    (hval : Value.okWide Try.prog W .any base0 22 v) (hsz : (DataW.weightsEach Try.prog ts ds).all (· ≤ reachBytes) = true) (ht : ts[j]? = some 22) (hd : ds[j]? = some d)
    (h : DataW.Trod enc Try.prog W base (fun _ => true) held 22 v d ps) : Puts W v := by
  obtain ⟨A, n, c, rfl⟩ := okWide_slice Try.underlying22 hval
  obtain ⟨fuel, hf⟩ := h
  have hwd : ∀ n ∈ d.weights Try.prog 22, n ≤ reachBytes := fun n hn => by
    have := List.all_eq_true.1 hsz _ (DataW.weights_mem_each ht hd n hn)
    simpa using this
  rcases DataW.trod_slice Try.underlying22 hf with ⟨hcs, _⟩ | ⟨a, len, cap, elems, rest, m, _, hcs, hx, _, hl, hm, hlen, hel, _, _⟩
  · simp [Value.cells] at hcs
    obtain ⟨rfl, rfl, rfl⟩ := hcs
    exact ⟨none, 0, 0, [], rfl, rfl, by omega, by omega, by simp, by omega⟩
  · simp [Value.cells] at hcs
    obtain ⟨rfl, rfl, rfl⟩ := hcs
    obtain ⟨rfl, _⟩ := Prod.mk.inj hx
    have c41 : Try.prog.cellsOf 41 = 3 := by kernel_rfl
    have b41 : Try.prog.bytesOf 41 = 24 := by kernel_rfl
    have z := hwd (((elems.map (·.1)).length + (rest.map (·.1)).length) * Try.prog.bytesOf 41) (by simp [DataW.weights, Try.underlying22])
    rw [b41] at z
    have hn : n * 24 ≤ 140737488355328 := by
      have h2 : reachBytes ≤ 140737488355328 := by decide
      have h3 : (elems.map (·.1)).length = n := by simp [hlen]
      omega
    have each : ∀ i, i < n → ∃ p : PutV, (-9223372036854775808 ≤ p.2.1 ∧ -9223372036854775808 ≤ p.2.2 ∧ p.2.2 ≤ 9223372036854775807) ∧ W.cell? ((a.add (i * 3)).add 0) = some (.bool p.1) ∧ W.cell? ((a.add (i * 3)).add 1) = some (.int .i64 p.2.1) ∧ W.cell? ((a.add (i * 3)).add 2) = some (.int .i64 p.2.2) := by
      intro i hi
      have h0 := hel i hi
      have hie : i < elems.length := by omega
      rw [c41, List.getElem?_eq_getElem hie] at h0
      obtain ⟨cs', hc, ht'⟩ := Option.bind_eq_some_iff.1 h0
      obtain ⟨_, hcl, hat⟩ := World.cells?_some hc
      obtain ⟨p, rfl, hp⟩ := put_cells ht'
      exact ⟨p, hp, hat 0 (by omega), hat 1 (by omega), hat 2 (by omega)⟩
    have hex : ∃ l : List PutV, l.length = n ∧ ∀ i (h : i < l.length), (-9223372036854775808 ≤ l[i].2.1 ∧ -9223372036854775808 ≤ l[i].2.2 ∧ l[i].2.2 ≤ 9223372036854775807) ∧ W.cell? ((a.add (i * 3)).add 0) = some (.bool l[i].1) ∧ W.cell? ((a.add (i * 3)).add 1) = some (.int .i64 l[i].2.1) ∧ W.cell? ((a.add (i * 3)).add 2) = some (.int .i64 l[i].2.2) := by
      refine ⟨(List.range n).map fun i => if h : i < n then (each i h).choose else (false, 0, 0), by simp, fun i h => ?_⟩
      have hi : i < n := by simpa using h
      simp only [List.getElem_map, List.getElem_range, hi, dite_true]
      exact (each i hi).choose_spec
    obtain ⟨l, ho, hall⟩ := hex
    refine ⟨some a, n, c, l, rfl, ho, hl, hn, fun p hm => ?_, fun h0 => ?_⟩
    · obtain ⟨i, hi, rfl⟩ := List.mem_iff_getElem.1 hm
      exact (hall i hi).1
    · obtain ⟨b, off, spot⟩ := a
      have hs : spot = none := by
        simp only [Value.okWide, Try.underlying22, Cell.okWide, Cell.ok, World.has] at hval
        obtain ⟨_, _, _, hspot, _⟩ := hval
        exact hspot
      subst hs
      have hb : b < W.heap.size := by
        have h1 := (hall 0 (by omega)).2.1
        rw [Go.WideShapes.add_plain, Go.WideShapes.add_plain] at h1
        exact World.block_lt_of_cell? W _ h1
      refine ⟨b, off, rfl, hb, fun i p hp => ?_⟩
      obtain ⟨hi, rfl⟩ := List.getElem?_eq_some_iff.1 hp
      obtain ⟨_, e0, e1, e2⟩ := hall i hi
      rw [Go.WideShapes.add_plain, Go.WideShapes.add_plain] at e0 e1 e2
      exact ⟨e0, e1, e2⟩
abbrev puts_zero : Value := .slice none 0 0

end Go.Proofs.Ytfljnfmocmhhdaa
