/-
What the rows of the scripts give their walks: a list of calls' records, each with its lists.
-/
import Derived.Test.YtelhmddigogmgaaDoorOpen
import Derived.Test.YtelhmddigogmgaaDoorWUp
namespace Go.Proofs.YtelhmddigogmgaaDoor
open Go.ChangeShapes Go.WideShapes Go.ChangeAt Go.WideMaps Go.WideElems Go.RowKit

theorem weightsAll_mem {H : Type} {P : Program} {e : TypeId} : ∀ {ds : List (DataW H)} {i : Nat} {d : DataW H}, ds[i]? = some d → ∀ n ∈ d.weights P e, n ∈ DataW.weightsAll P e ds
  | d0 :: ds, 0, d, hd, n, hn => by
    simp only [List.getElem?_cons_zero, Option.some.injEq] at hd
    subst hd
    simp only [DataW.weightsAll, List.mem_append]
    exact Or.inl hn
  | d0 :: ds, i + 1, d, hd, n, hn => by
    simp only [List.getElem?_cons_succ] at hd
    simp only [DataW.weightsAll, List.mem_append]
    exact Or.inr (weightsAll_mem hd n hn)
  | [], _, _, hd, _, _ => by simp at hd

def default_op : OpV := ⟨0, 0, 0, 0, none, 0, 0, [], none, 0, 0, [], []⟩

/-- a list of numbers, wherever it is met -/
theorem nums_cells {H : Type} {enc : TypeId × Value → H} {P : Program} {W : World} {base : Nat} {held : Bool} {t e : TypeId} {k : IntKind} {fuel : Nat} {cs : List Value} {x : DataW H × List MemPlace} (M B : Nat)
    (hM : ∀ n : Int, (Lit.int k n).wf = true → 0 ≤ n ∧ n < (M : Int)) (hB0 : 0 < B)
    (hu : P.underlying t = some (.slice e)) (he : P.underlying e = some (.int k)) (hc : P.cellsOf e = 1) (hB : P.bytesOf e = B)
    (hw : ∀ n ∈ x.1.weights P t, n ≤ reachBytes) (h : DataW.trod enc P W base (fun _ => true) held fuel t cs = some x) :
    ∃ A n c l, cs = [.slice A n c] ∧ Rd W k A n c l ∧ (∀ y ∈ l, y < M) ∧ n * B ≤ 140737488351232 := by
  rcases open_ints hu he hc h with ⟨rfl, _⟩ | ⟨a, len, cap, zs, rfl, _, hl, hm, hz, hx, hcell, hwz⟩
  · exact ⟨none, 0, 0, [], rfl, Rd.nil W k, by simp, by simp⟩
  · have hz : zs.length = cap := by simpa using hz
    obtain ⟨d, ps⟩ := x
    obtain ⟨rfl, _⟩ := Prod.mk.inj hx
    have hl2 : len ≤ zs.length := by omega
    have h1 : (lits (H := H) k (zs.take len)).length + (lits (H := H) k (zs.drop len)).length = zs.length := by
      simp [lits]
      omega
    have z := hw (((lits (H := H) k (zs.take len)).length + (lits (H := H) k (zs.drop len)).length) * P.bytesOf e) (by simp [DataW.weights, hu])
    rw [h1, hB] at z
    have hnB : len * B ≤ 140737488351232 := Nat.le_trans (Nat.mul_le_mul_right _ hl2) z
    have hn : len ≤ len * B := Nat.le_mul_of_pos_right _ hB0
    have hmc : cap ≤ 9223372036854775807 := by simpa [maxLen] using hm
    refine ⟨some a, len, cap, (zs.take len).map Int.toNat, rfl, ⟨by simp [hl2], hl, hmc, by omega, ?_⟩, ?_, hnB⟩
    · by_cases hc0 : cap = 0
      · exact .inl hc0
      · obtain ⟨b, off, spot⟩ := a
        have h0 := hcell 0 (by omega)
        have hs : spot = none := by
          cases spot with
          | none => rfl
          | some sp =>
            exfalso
            unfold Addr.add at h0
            simp [World.cell?] at h0
            split at h0 <;> simp_all
        subst hs
        refine .inr ⟨b, off, rfl, fun j hj => ?_⟩
        have hjz : j < zs.length := by omega
        have hcc := hcell j hjz
        rw [Go.WideShapes.add_plain] at hcc
        rw [hcc]
        have hw := hM _ (hwz zs[j] (List.getElem_mem hjz))
        have e1 : zs.getD j 0 = zs[j] := by simp [hjz]
        have e2 : nth ((zs.take len).map Int.toNat) j = zs[j].toNat := by
          rw [nth_get _ j (by simp; omega)]; simp
        rw [e1, e2, Int.toNat_of_nonneg hw.1]
    · intro y hy
      obtain ⟨q, hq, rfl⟩ := List.mem_map.1 hy
      have := hM q (hwz q (List.mem_of_mem_take hq))
      omega

theorem take1 {cs : List Value} {j : Nat} (h : j < cs.length) : (cs.drop j).take 1 = [cs[j]] := by
  rw [List.drop_eq_getElem_cons h]; rfl

theorem op_cells {H : Type} {enc : TypeId × Value → H} {W : World} {base : Nat} {held : Bool} {fuel : Nat} {cs : List Value} {x : DataW H × List MemPlace}
    (hw : ∀ n ∈ x.1.weights Tryd.prog 73, n ≤ reachBytes) (h : DataW.trod enc Tryd.prog W base (fun _ => true) held fuel 73 cs = some x) :
    ∃ o : OpV, cs = o.cells ∧ o.Ok ∧ o.In W := by
  obtain ⟨xs, m, _, rfl, hlen, hxl, hf⟩ := DataW.trod_struct Tryd.underlying73 h
  have c73 : Tryd.prog.cellsOf 73 = 70 := by kernel_rfl
  have c3 : Tryd.prog.cellsOf 3 = 1 := by kernel_rfl
  have c24 : Tryd.prog.cellsOf 24 = 1 := by kernel_rfl
  have c37 : Tryd.prog.cellsOf 37 = 1 := by kernel_rfl
  have c23 : Tryd.prog.cellsOf 23 = 1 := by kernel_rfl
  have c48 : Tryd.prog.cellsOf 48 = 1 := by kernel_rfl
  have c33 : Tryd.prog.cellsOf 33 = 64 := by kernel_rfl
  rw [c73] at hlen
  have f0 : DataW.trod enc Tryd.prog W base (fun _ => true) held m 3 ((cs.drop 0).take (Tryd.prog.cellsOf 3)) = xs[0]? := hf 0 _ rfl
  have f1 : DataW.trod enc Tryd.prog W base (fun _ => true) held m 3 ((cs.drop 1).take (Tryd.prog.cellsOf 3)) = xs[1]? := hf 1 _ rfl
  have f2 : DataW.trod enc Tryd.prog W base (fun _ => true) held m 24 ((cs.drop 2).take (Tryd.prog.cellsOf 24)) = xs[2]? := hf 2 _ rfl
  have f3 : DataW.trod enc Tryd.prog W base (fun _ => true) held m 37 ((cs.drop 3).take (Tryd.prog.cellsOf 37)) = xs[3]? := hf 3 _ rfl
  have f4 : DataW.trod enc Tryd.prog W base (fun _ => true) held m 23 ((cs.drop 4).take (Tryd.prog.cellsOf 23)) = xs[4]? := hf 4 _ rfl
  have f5 : DataW.trod enc Tryd.prog W base (fun _ => true) held m 48 ((cs.drop 5).take (Tryd.prog.cellsOf 48)) = xs[5]? := hf 5 _ rfl
  have f6 : DataW.trod enc Tryd.prog W base (fun _ => true) held m 33 ((cs.drop 6).take (Tryd.prog.cellsOf 33)) = xs[6]? := hf 6 _ rfl
  have hx7 : xs.length = 7 := hxl
  have hwj : ∀ (j : Nat) (t : TypeId) (y : DataW H × List MemPlace), ([3, 3, 24, 37, 23, 48, 33] : List TypeId)[j]? = some t → xs[j]? = some y → ∀ n ∈ y.1.weights Tryd.prog t, n ≤ reachBytes := by
    intro j t y ht hy n hn
    apply hw
    simp only [DataW.weights, Tryd.underlying73]
    exact DataW.weights_mem_each (j := j) ht (by rw [List.getElem?_map, hy]; rfl) n hn
  rw [c3] at f0 f1
  rw [c24] at f2
  rw [c37] at f3
  rw [c23] at f4
  rw [c48] at f5
  rw [c33] at f6
  rw [take1 (by omega), List.getElem?_eq_getElem (by omega)] at f0 f1 f2 f3 f4 f5
  rw [List.getElem?_eq_getElem (by omega)] at f6
  obtain ⟨k, k1, _, kw⟩ := DataW.trod_int Tryd.underlying3 f0
  obtain ⟨a, a1, _, aw⟩ := DataW.trod_int Tryd.underlying3 f1
  obtain ⟨s, s1, _, sw⟩ := DataW.trod_int Tryd.underlying24 f2
  obtain ⟨q, q1, _, qw⟩ := DataW.trod_int Tryd.underlying37 f3
  obtain ⟨A, n, c, lb, e4, rb, b1, _⟩ := nums_cells 256 1 wf8 (by decide) Tryd.underlying23 Tryd.underlying5 (by kernel_rfl) (by kernel_rfl) (hwj 4 23 _ rfl (List.getElem?_eq_getElem (by omega))) f4
  obtain ⟨A2, n2, c2, lw, e5, rl, w1, n8⟩ := nums_cells 18446744073709551616 8 wf64 (by decide) Tryd.underlying48 Tryd.underlying37 (by kernel_rfl) (by kernel_rfl) (hwj 5 48 _ rfl (List.getElem?_eq_getElem (by omega))) f5
  obtain ⟨ln, e6, l1, l2⟩ := line_cells f6
  have bk := bounds_i64 kw
  have ba := bounds_i64 aw
  have bs := bounds_u32 sw
  have bq := bounds_u64 qw
  refine ⟨⟨k, a, s.toNat, q.toNat, A, n, c, lb, A2, n2, c2, lw, ln⟩, ?_, ⟨by show _ ≤ k; omega, by show k ≤ _; omega, by show _ ≤ a; omega, by show a ≤ _; omega, by show s.toNat < _; omega, by show q.toNat < _; omega, b1, w1, by show n2 * 8 ≤ _; omega, l1, l2⟩, ⟨rb, rl⟩⟩
  have hd : cs.drop 6 = vals .u8 ln := by
    rw [← e6, List.take_of_length_le (by simp; omega)]
  have e : cs = cs[0] :: cs[1] :: cs[2] :: cs[3] :: cs[4] :: cs[5] :: cs.drop 6 := by
    rw [← List.drop_eq_getElem_cons (by omega : 5 < cs.length), ← List.drop_eq_getElem_cons (by omega : 4 < cs.length), ← List.drop_eq_getElem_cons (by omega : 3 < cs.length), ← List.drop_eq_getElem_cons (by omega : 2 < cs.length), ← List.drop_eq_getElem_cons (by omega : 1 < cs.length), ← List.drop_eq_getElem_cons (by omega : 0 < cs.length)]
    rfl
  rw [e, hd]
  have g0 : cs[0] = _ := (List.cons.inj k1).1
  have g1 : cs[1] = _ := (List.cons.inj a1).1
  have g2 : cs[2] = _ := (List.cons.inj s1).1
  have g3 : cs[3] = _ := (List.cons.inj q1).1
  have g4 : cs[4] = _ := (List.cons.inj e4).1
  have g5 : cs[5] = _ := (List.cons.inj e5).1
  rw [g0, g1, g2, g3, g4, g5]
  simp only [OpV.cells]
  rw [Int.toNat_of_nonneg bs.1, Int.toNat_of_nonneg bq.1]

def Ops (W : World) (v : Value) : Prop := ∃ A n c os, v = .slice A n c ∧ Script W A n c os

theorem open_ops {H : Type} {enc : TypeId × Value → H} {W : World} {base0 base : Nat} {held : Bool} {v : Value} {d : DataW H} {ps : List MemPlace} {ts : List TypeId} {ds : List (DataW H)} {j : Nat}
    (hval : Value.okWide Tryd.prog W .any base0 63 v) (hsz : (DataW.weightsEach Tryd.prog ts ds).all (· ≤ reachBytes) = true) (ht : ts[j]? = some 63) (hd : ds[j]? = some d)
    (h : DataW.Trod enc Tryd.prog W base (fun _ => true) held 63 v d ps) : Ops W v := by
  obtain ⟨A, n, c, rfl⟩ := okWide_slice Tryd.underlying63 hval
  obtain ⟨fuel, hf⟩ := h
  have hwd : ∀ n ∈ d.weights Tryd.prog 63, n ≤ reachBytes := fun n hn => by
    have := List.all_eq_true.1 hsz _ (DataW.weights_mem_each ht hd n hn)
    simpa using this
  rcases DataW.trod_slice Tryd.underlying63 hf with ⟨hcs, _⟩ | ⟨a, len, cap, elems, rest, m, _, hcs, hx, _, hl, hm, hlen, hel, _, _⟩
  · simp [Value.cells] at hcs
    obtain ⟨rfl, rfl, rfl⟩ := hcs
    exact ⟨none, 0, 0, [], rfl, rfl, by omega, by omega, by simp, by omega⟩
  · simp [Value.cells] at hcs
    obtain ⟨rfl, rfl, rfl⟩ := hcs
    obtain ⟨rfl, _⟩ := Prod.mk.inj hx
    have c73 : Tryd.prog.cellsOf 73 = 70 := by kernel_rfl
    have b73 : 0 < Tryd.prog.bytesOf 73 := of_decide_eq_true (by kernel_rfl)
    have z := hwd (((elems.map (·.1)).length + (rest.map (·.1)).length) * Tryd.prog.bytesOf 73) (by simp [DataW.weights, Tryd.underlying63])
    have hn : n ≤ 140737488355328 := by
      have h1 : (elems.map (·.1)).length + (rest.map (·.1)).length ≤ ((elems.map (·.1)).length + (rest.map (·.1)).length) * Tryd.prog.bytesOf 73 := Nat.le_mul_of_pos_right _ b73
      have h2 : reachBytes ≤ 140737488355328 := by decide
      have h3 : (elems.map (·.1)).length = n := by simp [hlen]
      omega
    have each : ∀ i, i < n → ∃ o : OpV, o.Ok ∧ o.In W ∧ ∀ j v, o.cells[j]? = some v → W.cell? ((a.add (i * 70)).add j) = some v := by
      intro i hi
      have h0 := hel i hi
      have hie : i < elems.length := by omega
      rw [c73, List.getElem?_eq_getElem hie] at h0
      obtain ⟨cs', hc, ht'⟩ := Option.bind_eq_some_iff.1 h0
      obtain ⟨_, hcl, hat⟩ := World.cells?_some hc
      obtain ⟨o, rfl, h2, h3⟩ := op_cells (fun n hn => hwd n (by
        simp only [DataW.weights, Tryd.underlying63, List.mem_cons, List.mem_append]
        exact Or.inr (Or.inl (weightsAll_mem (i := i) (by rw [List.getElem?_map, List.getElem?_eq_getElem hie]; rfl) n hn)))) ht'
      refine ⟨o, h2, h3, fun j v hv => ?_⟩
      have hj : j < 70 := by rw [← hcl]; exact (List.getElem?_eq_some_iff.1 hv).1
      rw [hat j hj, hv]
    have hex : ∃ os : List OpV, os.length = n ∧ ∀ i (h : i < os.length), os[i].Ok ∧ os[i].In W ∧ ∀ j v, os[i].cells[j]? = some v → W.cell? ((a.add (i * 70)).add j) = some v := by
      refine ⟨(List.range n).map fun i => if h : i < n then (each i h).choose else default_op, by simp, fun i h => ?_⟩
      have hi : i < n := by simpa using h
      simp only [List.getElem_map, List.getElem_range, hi, dite_true]
      exact (each i hi).choose_spec
    obtain ⟨os, ho, hall⟩ := hex
    refine ⟨some a, n, c, os, rfl, ho, hl, hn, fun o hm => ?_, fun h0 => ?_⟩
    · obtain ⟨i, hi, rfl⟩ := List.mem_iff_getElem.1 hm
      exact ⟨(hall i hi).1, (hall i hi).2.1⟩
    · obtain ⟨b, off, spot⟩ := a
      have hs : spot = none := by
        simp only [Value.okWide, Tryd.underlying63, Cell.okWide, Cell.ok, World.has] at hval
        obtain ⟨_, _, _, hspot, _⟩ := hval
        exact hspot
      subst hs
      refine ⟨b, off, rfl, fun i hi j v hv => ?_⟩
      have := (hall i hi).2.2 j v hv
      rw [Go.WideShapes.add_plain, Go.WideShapes.add_plain] at this
      exact this
abbrev ops_zero : Value := .slice none 0 0

end Go.Proofs.YtelhmddigogmgaaDoor
