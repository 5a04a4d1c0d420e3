/-
What the rows of the scripts give their walks: a list of steps, each with its runs.
-/
import Derived.Test.YtfljnfmocmhhdaaRows
import Derived.Test.YtfljnfmocmhhdaaWUp
import Derived.WalkKit
import Derived.ProofKit
import Derived.OpenShut
import Derived.ShutString
import Derived.ChangeOld
import Derived.Below
import Derived.SizedLaws
import Derived.LaidMore
import Derived.LaidSub
namespace Go.Proofs.Ytfljnfmocmhhdaa
open Go.ChangeShapes Go.WideShapes Go.ChangeAt Go.WideMaps Go.WideElems Go.RowKit

theorem laidOut : laidOutB Try.prog = true := by kernel_rfl

theorem weightsAll_mem {H : Type} {P : Program} {e : TypeId} : ∀ {ds : List (DataW H)} {i : Nat} {d : DataW H}, ds[i]? = some d → ∀ n ∈ d.weights P e, n ∈ DataW.weightsAll P e ds
  | d0 :: ds, 0, d, hd, n, hn => by
    simp only [List.getElem?_cons_zero, Option.some.injEq] at hd
    subst hd
    simp only [DataW.weightsAll, List.mem_append]
    exact Or.inl hn
  | d0 :: ds, i + 1, d, hd, n, hn => by
    simp only [List.getElem?_cons_succ] at hd
    simp only [DataW.weightsAll, List.mem_append]
    exact Or.inr (weightsAll_mem hd n hn)
  | [], _, _, hd, _, _ => by simp at hd
theorem take1 {cs : List Value} {j : Nat} (h : j < cs.length) : (cs.drop j).take 1 = [cs[j]] := by
  rw [List.drop_eq_getElem_cons h]; rfl
theorem bounds_i64 {n : Int} (h : (Lit.int .i64 n).wf = true) : -9223372036854775808 ≤ n ∧ n ≤ 9223372036854775807 := by
  have h' : -9223372036854775808 ≤ n ∧ n ≤ 9223372036854775807 := by
    simp [Lit.wf] at h
    exact h
  exact h'

theorem run_cells {H : Type} {enc : TypeId × Value → H} {W : World} {base : Nat} {held : Bool} {fuel : Nat} {cs : List Value} {x : DataW H × List MemPlace}
    (h : DataW.trod enc Try.prog W base (fun _ => true) held fuel 66 cs = some x) : ∃ r : Run, cs = [.int .i64 r.1, .int .i64 r.2.1, .int .i64 r.2.2] := by
  obtain ⟨xs, m, _, rfl, hlen, hxl, hf⟩ := DataW.trod_struct Try.underlying66 h
  have c66 : Try.prog.cellsOf 66 = 3 := by kernel_rfl
  have c3 : Try.prog.cellsOf 3 = 1 := by kernel_rfl
  rw [c66] at hlen
  have f0 : DataW.trod enc Try.prog W base (fun _ => true) held m 3 ((cs.drop 0).take (Try.prog.cellsOf 3)) = xs[0]? := hf 0 _ rfl
  have f1 : DataW.trod enc Try.prog W base (fun _ => true) held m 3 ((cs.drop 1).take (Try.prog.cellsOf 3)) = xs[1]? := hf 1 _ rfl
  have f2 : DataW.trod enc Try.prog W base (fun _ => true) held m 3 ((cs.drop 2).take (Try.prog.cellsOf 3)) = xs[2]? := hf 2 _ rfl
  have hx3 : xs.length = 3 := hxl
  rw [c3] at f0 f1 f2
  rw [take1 (by omega), List.getElem?_eq_getElem (by omega)] at f0 f1 f2
  obtain ⟨a, a1, _, _⟩ := DataW.trod_int Try.underlying3 f0
  obtain ⟨b, b1, _, _⟩ := DataW.trod_int Try.underlying3 f1
  obtain ⟨c, c1, _, _⟩ := DataW.trod_int Try.underlying3 f2
  have e : cs = [cs[0], cs[1], cs[2]] := by
    have h3 : cs.drop 3 = [] := List.drop_eq_nil_of_le (by omega)
    rw [← h3, ← List.drop_eq_getElem_cons (by omega : 2 < cs.length), ← List.drop_eq_getElem_cons (by omega : 1 < cs.length), ← List.drop_eq_getElem_cons (by omega : 0 < cs.length)]
    rfl
  refine ⟨(a, b, c), ?_⟩
  have g0 : cs[0] = _ := (List.cons.inj a1).1
  have g1 : cs[1] = _ := (List.cons.inj b1).1
  have g2 : cs[2] = _ := (List.cons.inj c1).1
  rw [e, g0, g1, g2]

set_option maxRecDepth 100000 in
/-- a slice of runs, wherever it is met -/
theorem runs_open {H : Type} {enc : TypeId × Value → H} {W : World} {base : Nat} {held : Bool} {fuel : Nat} {cs : List Value} {x : DataW H × List MemPlace}
    (hw : ∀ n ∈ x.1.weights Try.prog 63, n ≤ reachBytes) (h : DataW.trod enc Try.prog W base (fun _ => true) held fuel 63 cs = some x) : ∃ A n c l, cs = [.slice A n c] ∧ RdR W A n c l := by
  rcases DataW.trod_slice Try.underlying63 h with ⟨rfl, _⟩ | ⟨a, len, cap, elems, rest, m, _, rfl, rfl, _, hl, hm, hlen, hel, hrest, _⟩
  · exact ⟨none, 0, 0, [], rfl, rfl, by omega, by omega, by omega, .inl rfl⟩
  · have c66 : Try.prog.cellsOf 66 = 3 := by kernel_rfl
    have b66 : Try.prog.bytesOf 66 = 24 := by kernel_rfl
    have z := hw (((elems.map (·.1)).length + (rest.map (·.1)).length) * Try.prog.bytesOf 66) (by simp [DataW.weights, Try.underlying63])
    rw [b66] at z
    have hmc : cap ≤ 9223372036854775807 := by simpa [maxLen] using hm
    have hn : len * 24 ≤ 140737488355328 := by
      have h2 : reachBytes ≤ 140737488355328 := by decide
      have h3 : (elems.map (·.1)).length = len := by simp [hlen]
      omega
    have each : ∀ i, i < len → ∃ r : Run, W.cell? ((a.add (i * 3)).add 0) = some (.int .i64 r.1) ∧ W.cell? ((a.add (i * 3)).add 1) = some (.int .i64 r.2.1) ∧ W.cell? ((a.add (i * 3)).add 2) = some (.int .i64 r.2.2) := by
      intro i hi
      have h0 := hel i hi
      have hie : i < elems.length := by omega
      rw [c66, List.getElem?_eq_getElem hie] at h0
      obtain ⟨cs', hc, ht'⟩ := Option.bind_eq_some_iff.1 h0
      obtain ⟨_, hcl, hat⟩ := World.cells?_some hc
      obtain ⟨r, rfl⟩ := run_cells ht'
      exact ⟨r, hat 0 (by omega), hat 1 (by omega), hat 2 (by omega)⟩
    have hex : ∃ rs : List Run, rs.length = len ∧ ∀ i (h : i < rs.length), W.cell? ((a.add (i * 3)).add 0) = some (.int .i64 rs[i].1) ∧ W.cell? ((a.add (i * 3)).add 1) = some (.int .i64 rs[i].2.1) ∧ W.cell? ((a.add (i * 3)).add 2) = some (.int .i64 rs[i].2.2) := by
      refine ⟨(List.range len).map fun i => if h : i < len then (each i h).choose else (0, 0, 0), by simp, fun i h => ?_⟩
      have hi : i < len := by simpa using h
      simp only [List.getElem_map, List.getElem_range, hi, dite_true]
      exact (each i hi).choose_spec
    obtain ⟨rs, hrs, hall⟩ := hex
    refine ⟨some a, len, cap, rs, rfl, hrs, hl, hmc, hn, ?_⟩
    by_cases hc0 : cap = 0
    · exact .inl hc0
    · have hfirst : ∃ v, W.cell? ((a.add (0 * 3)).add 0) = some v := by
        by_cases h0 : len = 0
        · obtain ⟨hr1, hr2⟩ := hrest rfl
          have h1 := hr2 0 (by omega)
          rw [c66, List.getElem?_eq_getElem (by omega)] at h1
          obtain ⟨cs', hc, _⟩ := Option.bind_eq_some_iff.1 h1
          obtain ⟨_, hcl, hat⟩ := World.cells?_some hc
          rw [h0] at hat
          exact ⟨_, (hat 0 (by omega)).trans (List.getElem?_eq_getElem (by omega))⟩
        · exact ⟨_, (hall 0 (by omega)).1⟩
      obtain ⟨b, off, spot⟩ := a
      have hs : spot = none := by
        cases spot with
        | none => rfl
        | some sp =>
          exfalso
          obtain ⟨v, h0⟩ := hfirst
          clear hall hrest hel hw h
          unfold Addr.add at h0
          simp [World.cell?] at h0
          split at h0 <;> simp_all
      subst hs
      refine .inr ⟨b, off, rfl, fun j u hj => ?_⟩
      have hjl := (List.getElem?_eq_some_iff.1 hj).1
      rw [cellsR_len] at hjl
      have hi : j / 3 < rs.length := by omega
      obtain ⟨e0, e1, e2⟩ := hall (j / 3) hi
      rw [Go.WideShapes.add_plain, Go.WideShapes.add_plain] at e0 e1 e2
      have hat := cellsR_at rs (j / 3) rs[j / 3] (List.getElem?_eq_getElem hi) (j % 3) (Nat.mod_lt _ (by omega))
      rw [show j / 3 * 3 + j % 3 = j by omega, hj] at hat
      have hu := Option.some.inj hat
      rcases (by omega : j % 3 = 0 ∨ j % 3 = 1 ∨ j % 3 = 2) with h3 | h3 | h3
      · rw [h3, if_pos rfl] at hu
        rw [show off + j = off + j / 3 * 3 + 0 by omega, e0, hu]
      · rw [h3, if_neg (by omega), if_pos rfl] at hu
        rw [show off + j = off + j / 3 * 3 + 1 by omega, e1, hu]
      · rw [h3, if_neg (by omega), if_neg (by omega)] at hu
        rw [show off + j = off + j / 3 * 3 + 2 by omega, e2, hu]

theorem op_cells {H : Type} {enc : TypeId × Value → H} {W : World} {base : Nat} {held : Bool} {fuel : Nat} {cs : List Value} {x : DataW H × List MemPlace}
    (hw : ∀ n ∈ x.1.weights Try.prog 78, n ≤ reachBytes) (h : DataW.trod enc Try.prog W base (fun _ => true) held fuel 78 cs = some x) :
    ∃ o : OpR, cs = o.cells ∧ o.Ok ∧ o.In W := by
  obtain ⟨xs, m, _, rfl, hlen, hxl, hf⟩ := DataW.trod_struct Try.underlying78 h
  have c78 : Try.prog.cellsOf 78 = 5 := by kernel_rfl
  have c3 : Try.prog.cellsOf 3 = 1 := by kernel_rfl
  have c63 : Try.prog.cellsOf 63 = 1 := by kernel_rfl
  rw [c78] at hlen
  have f0 : DataW.trod enc Try.prog W base (fun _ => true) held m 3 ((cs.drop 0).take (Try.prog.cellsOf 3)) = xs[0]? := hf 0 _ rfl
  have f1 : DataW.trod enc Try.prog W base (fun _ => true) held m 3 ((cs.drop 1).take (Try.prog.cellsOf 3)) = xs[1]? := hf 1 _ rfl
  have f2 : DataW.trod enc Try.prog W base (fun _ => true) held m 3 ((cs.drop 2).take (Try.prog.cellsOf 3)) = xs[2]? := hf 2 _ rfl
  have f3 : DataW.trod enc Try.prog W base (fun _ => true) held m 3 ((cs.drop 3).take (Try.prog.cellsOf 3)) = xs[3]? := hf 3 _ rfl
  have f4 : DataW.trod enc Try.prog W base (fun _ => true) held m 63 ((cs.drop 4).take (Try.prog.cellsOf 63)) = xs[4]? := hf 4 _ rfl
  have hx5 : xs.length = 5 := hxl
  have hwj : ∀ (j : Nat) (t : TypeId) (y : DataW H × List MemPlace), ([3, 3, 3, 3, 63] : List TypeId)[j]? = some t → xs[j]? = some y → ∀ n ∈ y.1.weights Try.prog t, n ≤ reachBytes := by
    intro j t y ht hy n hn
    apply hw
    simp only [DataW.weights, Try.underlying78]
    exact DataW.weights_mem_each (j := j) ht (by rw [List.getElem?_map, hy]; rfl) n hn
  rw [c3] at f0 f1 f2 f3
  rw [c63] at f4
  rw [take1 (by omega), List.getElem?_eq_getElem (by omega)] at f0 f1 f2 f3 f4
  obtain ⟨k, k1, _, kw⟩ := DataW.trod_int Try.underlying3 f0
  obtain ⟨d, d1, _, dw⟩ := DataW.trod_int Try.underlying3 f1
  obtain ⟨a, a1, _, aw⟩ := DataW.trod_int Try.underlying3 f2
  obtain ⟨v, v1, _, vw⟩ := DataW.trod_int Try.underlying3 f3
  obtain ⟨A, n, c, rs, e4, hr⟩ := runs_open (hwj 4 63 _ rfl (List.getElem?_eq_getElem (by omega))) f4
  have ba := bounds_i64 aw
  have bv := bounds_i64 vw
  refine ⟨⟨k, d, a, v, A, n, c, rs⟩, ?_, ⟨ba.1, bv.1, bv.2⟩, hr⟩
  have e : cs = [cs[0], cs[1], cs[2], cs[3], cs[4]] := by
    have h5 : cs.drop 5 = [] := List.drop_eq_nil_of_le (by omega)
    rw [← h5, ← List.drop_eq_getElem_cons (by omega : 4 < cs.length), ← List.drop_eq_getElem_cons (by omega : 3 < cs.length), ← List.drop_eq_getElem_cons (by omega : 2 < cs.length), ← List.drop_eq_getElem_cons (by omega : 1 < cs.length), ← List.drop_eq_getElem_cons (by omega : 0 < cs.length)]
    rfl
  have g0 : cs[0] = _ := (List.cons.inj k1).1
  have g1 : cs[1] = _ := (List.cons.inj d1).1
  have g2 : cs[2] = _ := (List.cons.inj a1).1
  have g3 : cs[3] = _ := (List.cons.inj v1).1
  have g4 : cs[4] = _ := (List.cons.inj e4).1
  rw [e, g0, g1, g2, g3, g4]
  rfl

def Ops (W : World) (v : Value) : Prop := ∃ A n c os, v = .slice A n c ∧ Script W A n c os

set_option maxRecDepth 100000 in
theorem open_ops {H : Type} {enc : TypeId × Value → H} {W : World} {base0 base : Nat} {held : Bool} {v : Value} {d : DataW H} {ps : List MemPlace} {ts : List TypeId} {ds : List (DataW H)} {j : Nat}
    (hval : Value.okWide Try.prog W .any base0 71 v) (hsz : (DataW.weightsEach Try.prog ts ds).all (· ≤ reachBytes) = true) (ht : ts[j]? = some 71) (hd : ds[j]? = some d)
    (h : DataW.Trod enc Try.prog W base (fun _ => true) held 71 v d ps) : Ops W v := by
  obtain ⟨A, n, c, rfl⟩ := okWide_slice Try.underlying71 hval
  obtain ⟨fuel, hf⟩ := h
  have hwd : ∀ n ∈ d.weights Try.prog 71, n ≤ reachBytes := fun n hn => by
    have := List.all_eq_true.1 hsz _ (DataW.weights_mem_each ht hd n hn)
    simpa using this
  rcases DataW.trod_slice Try.underlying71 hf with ⟨hcs, _⟩ | ⟨a, len, cap, elems, rest, m, _, hcs, hx, _, hl, hm, hlen, hel, _, _⟩
  · simp [Value.cells] at hcs
    obtain ⟨rfl, rfl, rfl⟩ := hcs
    exact ⟨none, 0, 0, [], rfl, rfl, by omega, by omega, by simp, by omega⟩
  · simp [Value.cells] at hcs
    obtain ⟨rfl, rfl, rfl⟩ := hcs
    obtain ⟨rfl, _⟩ := Prod.mk.inj hx
    have c78 : Try.prog.cellsOf 78 = 5 := by kernel_rfl
    have b78 : 0 < Try.prog.bytesOf 78 := of_decide_eq_true (by kernel_rfl)
    have z := hwd (((elems.map (·.1)).length + (rest.map (·.1)).length) * Try.prog.bytesOf 78) (by simp [DataW.weights, Try.underlying71])
    have hn : n ≤ 140737488355328 := by
      have h1 : (elems.map (·.1)).length + (rest.map (·.1)).length ≤ ((elems.map (·.1)).length + (rest.map (·.1)).length) * Try.prog.bytesOf 78 := Nat.le_mul_of_pos_right _ b78
      have h2 : reachBytes ≤ 140737488355328 := by decide
      have h3 : (elems.map (·.1)).length = n := by simp [hlen]
      omega
    have each : ∀ i, i < n → ∃ o : OpR, o.Ok ∧ o.In W ∧ ∀ j v, o.cells[j]? = some v → W.cell? ((a.add (i * 5)).add j) = some v := by
      intro i hi
      have h0 := hel i hi
      have hie : i < elems.length := by omega
      rw [c78, List.getElem?_eq_getElem hie] at h0
      obtain ⟨cs', hc, ht'⟩ := Option.bind_eq_some_iff.1 h0
      obtain ⟨_, hcl, hat⟩ := World.cells?_some hc
      obtain ⟨o, rfl, h2, h3⟩ := op_cells (fun n hn => hwd n (by
        simp only [DataW.weights, Try.underlying71, List.mem_cons, List.mem_append]
        exact Or.inr (Or.inl (weightsAll_mem (i := i) (by rw [List.getElem?_map, List.getElem?_eq_getElem hie]; rfl) n hn)))) ht'
      refine ⟨o, h2, h3, fun j v hv => ?_⟩
      have hj : j < 5 := by rw [← hcl]; exact (List.getElem?_eq_some_iff.1 hv).1
      rw [hat j hj, hv]
    have hex : ∃ os : List OpR, os.length = n ∧ ∀ i (h : i < os.length), os[i].Ok ∧ os[i].In W ∧ ∀ j v, os[i].cells[j]? = some v → W.cell? ((a.add (i * 5)).add j) = some v := by
      refine ⟨(List.range n).map fun i => if h : i < n then (each i h).choose else ⟨0, 0, 0, 0, none, 0, 0, []⟩, by simp, fun i h => ?_⟩
      have hi : i < n := by simpa using h
      simp only [List.getElem_map, List.getElem_range, hi, dite_true]
      exact (each i hi).choose_spec
    obtain ⟨os, ho, hall⟩ := hex
    refine ⟨some a, n, c, os, rfl, ho, hl, hn, fun o hm => ?_, fun h0 => ?_⟩
    · obtain ⟨i, hi, rfl⟩ := List.mem_iff_getElem.1 hm
      exact ⟨(hall i hi).1, (hall i hi).2.1⟩
    · obtain ⟨b, off, spot⟩ := a
      have hs : spot = none := by
        simp only [Value.okWide, Try.underlying71, Cell.okWide, Cell.ok, World.has] at hval
        obtain ⟨_, _, _, hspot, _⟩ := hval
        exact hspot
      subst hs
      refine ⟨b, off, rfl, fun i hi j v hv => ?_⟩
      have := (hall i hi).2.2 j v hv
      rw [Go.WideShapes.add_plain, Go.WideShapes.add_plain] at this
      exact this
abbrev ops_zero : Value := .slice none 0 0

end Go.Proofs.Ytfljnfmocmhhdaa
