/-
What the rows of this seat give their walks: the table's cells, an argument's slice as a list of numbers.
-/
import Derived.Test.YtelhmddigogmgaaDoorRows
import Derived.Test.YtelhmddigogmgaaDoorWSum
import Derived.WalkKit
import Derived.ProofKit
import Derived.OpenShut
import Derived.ShutString
import Derived.ChangeOld
import Derived.Below
import Derived.SizedLaws
import Derived.LaidMore
import Derived.LaidSub
namespace Go.Proofs.YtelhmddigogmgaaDoor
open Go.ChangeShapes Go.WideShapes Go.ChangeAt Go.WideMaps Go.WideElems Go.RowKit

theorem laidOut : laidOutB Tryd.prog = true := by kernel_rfl
theorem gSteps : Tryd.prog.globalNamed "furrow/codec.steps" = some 0 := by kernel_rfl
theorem tSteps : (Tryd.prog.globals[0]?).map (·.type) = some 66 := by kernel_rfl

/-- The door's own heap meets the condition. -/
theorem door_met (os : Os) (args : Array Value) : laidMetH Tryd.prog [("furrow/codec.steps", Rows.laid_furrow_codec_steps)] ((World.doorLaid Tryd.prog 400 os).forCall (fun _ _ => 0) ⟨#[], args, []⟩).memory :=
  laidMetH_of_parts3 (fuel := 8) (laidMet_of_run' 8 (by kernel_rfl) (by kernel_rfl)) (by kernel_rfl) (by kernel_rfl)

/-- What the condition gives the walks: the table. -/
theorem tab_of_laid {W : World} (h : laidMetH Tryd.prog [("furrow/codec.steps", Rows.laid_furrow_codec_steps)] W) : Tab W := by
  rw [MakeChecks.laidMetH_plain _ _ _ (by kernel_rfl)] at h
  obtain ⟨ps, ⟨g0, t0, cs0, f0, p0, q0, hg0, ht0, hv0, hd0, _, _⟩, _⟩ := h
  obtain rfl := Option.some.inj (gSteps.symm.trans hg0)
  obtain rfl := Option.some.inj (tSteps.symm.trans ht0)
  obtain ⟨xs, m1, rfl, hx1, hlen, hn3, hel⟩ := DataW.trod_array Tryd.underlying66 hd0
  have c24 : Tryd.prog.cellsOf 24 = 1 := by kernel_rfl
  have c66 : Tryd.prog.cellsOf 66 = 16 := by kernel_rfl
  intro k hk
  have h0 := hel k hk
  rw [c24] at h0
  have hxk : k < xs.length := by omega
  rw [List.getElem?_eq_getElem hxk] at h0
  have hkc : k < cs0.toList.length := by rw [hlen, c66]; exact hk
  have e : (cs0.toList.drop (k * 1)).take 1 = [cs0.toList[k]] := by
    rw [Nat.mul_one, List.drop_eq_getElem_cons hkc]; rfl
  rw [e] at h0
  obtain ⟨n, e1, e2, _⟩ := DataW.trod_int Tryd.underlying24 h0
  have hc := World.var?_cell hg0 hv0 k
  have e3 : cs0.toList[k] = Value.int .u32 n := by simpa using e1
  have e4 : cs0[k]? = some (Value.int .u32 n) := by
    have h9 : cs0.toList[k]? = some (Value.int .u32 n) := by rw [List.getElem?_eq_getElem hkc, e3]
    simpa using h9
  have e5 := congrArg (fun d : DataW Unit × List MemPlace => d.1) hx1
  have e6 : xs.map (·.1) = [.lit (.int .u32 (tb 0)), .lit (.int .u32 (tb 1)), .lit (.int .u32 (tb 2)), .lit (.int .u32 (tb 3)), .lit (.int .u32 (tb 4)), .lit (.int .u32 (tb 5)), .lit (.int .u32 (tb 6)), .lit (.int .u32 (tb 7)),
      .lit (.int .u32 (tb 8)), .lit (.int .u32 (tb 9)), .lit (.int .u32 (tb 10)), .lit (.int .u32 (tb 11)), .lit (.int .u32 (tb 12)), .lit (.int .u32 (tb 13)), .lit (.int .u32 (tb 14)), .lit (.int .u32 (tb 15))] := by
    have := DataW.agg.inj e5
    rw [← this]; rfl
  have e7 : (xs.map (·.1))[k]? = some (.lit (.int .u32 (tb k))) := by
    rw [e6]
    clear e6 e5 e4 e3 hc e2 e1 e h0 hkc hxk hel hx1 hd0 hv0 hlen hn3
    rcases (by omega : k = 0 ∨ k = 1 ∨ k = 2 ∨ k = 3 ∨ k = 4 ∨ k = 5 ∨ k = 6 ∨ k = 7 ∨ k = 8 ∨ k = 9 ∨ k = 10 ∨ k = 11 ∨ k = 12 ∨ k = 13 ∨ k = 14 ∨ k = 15) with rfl | rfl | rfl | rfl | rfl | rfl | rfl | rfl | rfl | rfl | rfl | rfl | rfl | rfl | rfl | rfl <;> rfl
  rw [List.getElem?_map, List.getElem?_eq_getElem hxk] at e7
  have e8 := Option.some.inj e7
  rw [e2] at e8
  have e9 : n = ((tb k : Nat) : Int) := by simpa using e8
  rw [e9] at e4
  exact hc.trans e4

/-- An argument's slice of bytes or words: a list of numbers. -/
def Nums (W : World) (k : IntKind) (M B : Nat) (v : Value) : Prop := ∃ A n c l, v = .slice A n c ∧ Rd W k A n c l ∧ (∀ x ∈ l, x < M) ∧ n * B ≤ 140737488351232

theorem open_nums {H : Type} {enc : TypeId × Value → H} {P : Program} {W : World} {base0 base : Nat} {held : Bool} {t e : TypeId} {k : IntKind} {v : Value} {d : DataW H} {ps : List MemPlace} {ts : List TypeId} {ds : List (DataW H)} {j : Nat} (M B : Nat)
    (hM : ∀ n : Int, (Lit.int k n).wf = true → 0 ≤ n ∧ n < (M : Int)) (hB0 : 0 < B)
    (hu : P.underlying t = some (.slice e)) (he : P.underlying e = some (.int k)) (hc : P.cellsOf e = 1) (hB : P.bytesOf e = B)
    (hval : Value.okWide P W .any base0 t v) (hsz : (DataW.weightsEach P ts ds).all (· ≤ reachBytes) = true) (ht : ts[j]? = some t) (hd : ds[j]? = some d)
    (h : DataW.Trod enc P W base (fun _ => true) held t v d ps) : Nums W k M B v := by
  obtain ⟨A, n, c, rfl⟩ := okWide_slice hu hval
  obtain ⟨fuel, hf⟩ := h
  rcases open_ints hu he hc hf with ⟨hcs, _⟩ | ⟨x, len, cap, zs, hcs, _, hl, hm, hz, hx, hcell, hwz⟩
  · simp [Value.cells] at hcs
    obtain ⟨rfl, rfl, rfl⟩ := hcs
    exact ⟨none, 0, 0, [], rfl, Rd.nil W k, by simp, by simp⟩
  · simp [Value.cells] at hcs
    obtain ⟨rfl, rfl, rfl⟩ := hcs
    obtain ⟨hx, _⟩ := Prod.mk.inj hx
    subst hx
    have z := sized_slice hsz ht hd hu
    rw [hB] at z
    have hz : zs.length = c := by simpa using hz
    have hl2 : n ≤ zs.length := by omega
    have h1 : (lits (H := H) k (zs.take n)).length + (lits (H := H) k (zs.drop n)).length = zs.length := by
      simp [lits]
      omega
    rw [h1] at z
    have hnB : n * B ≤ 140737488351232 := Nat.le_trans (Nat.mul_le_mul_right _ hl2) z
    have hn : n ≤ n * B := Nat.le_mul_of_pos_right _ hB0
    have hmc : c ≤ 9223372036854775807 := by simpa [maxLen] using hm
    refine ⟨some x, n, c, (zs.take n).map Int.toNat, rfl, ⟨by simp [hl2], hl, hmc, by omega, .inr ?_⟩, ?_, hnB⟩
    · simp only [Value.okWide, hu, Cell.okWide, Cell.ok, World.has] at hval
      obtain ⟨b, off, spot⟩ := x
      obtain ⟨_, _, _, hspot, _⟩ := hval
      obtain rfl : spot = none := hspot
      refine ⟨b, off, rfl, fun j hj => ?_⟩
      have hjz : j < zs.length := by omega
      have hcc := hcell j hjz
      rw [Go.WideShapes.add_plain] at hcc
      rw [hcc]
      have hw := hM _ (hwz zs[j] (List.getElem_mem hjz))
      have e1 : zs.getD j 0 = zs[j] := by simp [hjz]
      have e2 : nth ((zs.take n).map Int.toNat) j = zs[j].toNat := by
        rw [nth_get _ j (by simp; omega)]; simp
      rw [e1, e2, Int.toNat_of_nonneg hw.1]
    · intro x hx
      obtain ⟨y, hy, rfl⟩ := List.mem_map.1 hx
      have := hM y (hwz y (List.mem_of_mem_take hy))
      omega
theorem wf8 : ∀ n : Int, (Lit.int .u8 n).wf = true → 0 ≤ n ∧ n < ((256 : Nat) : Int) := fun n h => by
  have := bounds_u8 h; omega
theorem wf64 : ∀ n : Int, (Lit.int .u64 n).wf = true → 0 ≤ n ∧ n < ((18446744073709551616 : Nat) : Int) := fun n h => by
  have := bounds_u64 h; omega

/-- An argument that is a line: 64 bytes. -/
def Line (v : Value) : Prop := ∃ l : List Nat, v = .agg (u8s l) ∧ l.length = 64 ∧ ∀ x ∈ l, x < 256

theorem line_cells {H : Type} {enc : TypeId × Value → H} {W : World} {base : Nat} {sp : Nat → Bool} {held : Bool} {fuel : Nat} {cs : List Value} {x : DataW H × List MemPlace}
    (h : DataW.trod enc Tryd.prog W base sp held fuel 33 cs = some x) : ∃ l : List Nat, cs = vals .u8 l ∧ l.length = 64 ∧ ∀ x ∈ l, x < 256 := by
  obtain ⟨xs, m, rfl, _, hlen, _, hel⟩ := DataW.trod_array Tryd.underlying33 h
  have c5 : Tryd.prog.cellsOf 5 = 1 := by kernel_rfl
  have c33 : Tryd.prog.cellsOf 33 = 64 := by kernel_rfl
  rw [c33] at hlen
  have hx : ∀ i, i < 64 → ∃ n : Nat, n < 256 ∧ cs[i]? = some (.int .u8 n) := by
    intro i hi
    have h0 := hel i hi
    have hxi : i < xs.length := by omega
    rw [c5, List.getElem?_eq_getElem hxi, Nat.mul_one, List.drop_eq_getElem_cons (by omega : i < cs.length)] at h0
    obtain ⟨n, e1, _, hw⟩ := DataW.trod_int Tryd.underlying5 (show DataW.trod _ _ _ _ _ _ _ 5 [cs[i]] = _ from h0)
    have e1 : cs[i] = .int .u8 n := by simpa using e1
    obtain ⟨b0, b1⟩ := bounds_u8 hw
    exact ⟨n.toNat, by omega, by rw [List.getElem?_eq_getElem (by omega), e1, Int.toNat_of_nonneg b0]⟩
  refine ⟨cs.map fun v => match v with | .int _ n => n.toNat | _ => 0, ?_, by simp [hlen], ?_⟩
  · apply List.ext_getElem?
    intro i
    by_cases hi : i < 64
    · obtain ⟨n, _, e⟩ := hx i hi
      simp [vals, e]
    · simp [vals, List.getElem?_eq_none (by omega : cs.length ≤ i)]
  · intro y hy
    obtain ⟨v, hv, rfl⟩ := List.mem_map.1 hy
    obtain ⟨i, hi, rfl⟩ := List.mem_iff_getElem.1 hv
    obtain ⟨n, hn, e⟩ := hx i (by omega)
    rw [List.getElem?_eq_getElem hi] at e
    rw [Option.some.inj e]
    simpa using hn

theorem open_line {H : Type} {enc : TypeId × Value → H} {W : World} {base0 base : Nat} {held : Bool} {v : Value} {d : DataW H} {ps : List MemPlace} {ts : List TypeId} {ds : List (DataW H)} {j : Nat}
    (hval : Value.okWide Tryd.prog W .any base0 33 v) (_ : (DataW.weightsEach Tryd.prog ts ds).all (· ≤ reachBytes) = true) (_ : ts[j]? = some 33) (_ : ds[j]? = some d)
    (h : DataW.Trod enc Tryd.prog W base (fun _ => true) held 33 v d ps) : Line v := by
  simp only [Value.okWide, Tryd.underlying33] at hval
  obtain ⟨cs, rfl, _⟩ := hval
  obtain ⟨fuel, hf⟩ := h
  obtain ⟨l, h1, h2, h3⟩ := line_cells (show DataW.trod enc Tryd.prog W base _ held fuel 33 cs.toList = _ from hf)
  exact ⟨l, by rw [show cs = u8s l from Array.ext' h1], h2, h3⟩
abbrev line_zero : Value := .agg (Array.replicate 64 (.int .u8 0))

end Go.Proofs.YtelhmddigogmgaaDoor
