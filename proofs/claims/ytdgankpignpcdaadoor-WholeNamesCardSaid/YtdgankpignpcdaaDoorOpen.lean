/-
What the rows of this seat give their walks: the table's cells, an argument's slice as a list of numbers.
-/
import Derived.Test.YtdgankpignpcdaaDoorRows
import Derived.Test.YtdgankpignpcdaaDoorWSum
import Derived.WalkKit
import Derived.ProofKit
import Derived.OpenShut
import Derived.ShutString
import Derived.ChangeOld
import Derived.Below
import Derived.SizedLaws
import Derived.LaidMore
import Derived.LaidSub
namespace Go.Proofs.YtdgankpignpcdaaDoor
open Go.ChangeShapes Go.WideShapes Go.ChangeAt Go.WideMaps Go.WideElems Go.RowKit

theorem laidOut : laidOutB Tryd.prog = true := by kernel_rfl
theorem gSteps : Tryd.prog.globalNamed "furrow/codec.steps" = some 0 := by kernel_rfl
theorem tSteps : (Tryd.prog.globals[0]?).map (·.type) = some 29 := by kernel_rfl

/-- The door's own heap meets the condition. -/
theorem door_met (os : Os) (args : Array Value) : laidMetH Tryd.prog [("furrow/codec.steps", Rows.laid_furrow_codec_steps)] ((World.doorLaid Tryd.prog 400 os).forCall (fun _ _ => 0) ⟨#[], args, []⟩).memory :=
  laidMetH_of_parts3 (fuel := 8) (laidMet_of_run' 8 (by kernel_rfl) (by kernel_rfl)) (by kernel_rfl) (by kernel_rfl)

/-- What the condition gives the walks: the table. -/
theorem tab_of_laid {W : World} (h : laidMetH Tryd.prog [("furrow/codec.steps", Rows.laid_furrow_codec_steps)] W) : Tab W := by
  rw [MakeChecks.laidMetH_plain _ _ _ (by kernel_rfl)] at h
  obtain ⟨ps, ⟨g0, t0, cs0, f0, p0, q0, hg0, ht0, hv0, hd0, _, _⟩, _⟩ := h
  obtain rfl := Option.some.inj (gSteps.symm.trans hg0)
  obtain rfl := Option.some.inj (tSteps.symm.trans ht0)
  obtain ⟨xs, m1, rfl, hx1, hlen, hn3, hel⟩ := DataW.trod_array Tryd.underlying29 hd0
  have c24 : Tryd.prog.cellsOf 22 = 1 := by kernel_rfl
  have c29 : Tryd.prog.cellsOf 29 = 16 := by kernel_rfl
  intro k hk
  have h0 := hel k hk
  rw [c24] at h0
  have hxk : k < xs.length := by omega
  rw [List.getElem?_eq_getElem hxk] at h0
  have hkc : k < cs0.toList.length := by rw [hlen, c29]; exact hk
  have e : (cs0.toList.drop (k * 1)).take 1 = [cs0.toList[k]] := by
    rw [Nat.mul_one, List.drop_eq_getElem_cons hkc]; rfl
  rw [e] at h0
  obtain ⟨n, e1, e2, _⟩ := DataW.trod_int Tryd.underlying22 h0
  have hc := World.var?_cell hg0 hv0 k
  have e3 : cs0.toList[k] = Value.int .u32 n := by simpa using e1
  have e4 : cs0[k]? = some (Value.int .u32 n) := by
    have h9 : cs0.toList[k]? = some (Value.int .u32 n) := by rw [List.getElem?_eq_getElem hkc, e3]
    simpa using h9
  have e5 := congrArg (fun d : DataW Unit × List MemPlace => d.1) hx1
  have e6 : xs.map (·.1) = [.lit (.int .u32 (tb 0)), .lit (.int .u32 (tb 1)), .lit (.int .u32 (tb 2)), .lit (.int .u32 (tb 3)), .lit (.int .u32 (tb 4)), .lit (.int .u32 (tb 5)), .lit (.int .u32 (tb 6)), .lit (.int .u32 (tb 7)),
      .lit (.int .u32 (tb 8)), .lit (.int .u32 (tb 9)), .lit (.int .u32 (tb 10)), .lit (.int .u32 (tb 11)), .lit (.int .u32 (tb 12)), .lit (.int .u32 (tb 13)), .lit (.int .u32 (tb 14)), .lit (.int .u32 (tb 15))] := by
    have := DataW.agg.inj e5
    rw [← this]; rfl
  have e7 : (xs.map (·.1))[k]? = some (.lit (.int .u32 (tb k))) := by
    rw [e6]
    clear e6 e5 e4 e3 hc e2 e1 e h0 hkc hxk hel hx1 hd0 hv0 hlen hn3
    rcases (by omega : k = 0 ∨ k = 1 ∨ k = 2 ∨ k = 3 ∨ k = 4 ∨ k = 5 ∨ k = 6 ∨ k = 7 ∨ k = 8 ∨ k = 9 ∨ k = 10 ∨ k = 11 ∨ k = 12 ∨ k = 13 ∨ k = 14 ∨ k = 15) with rfl | rfl | rfl | rfl | rfl | rfl | rfl | rfl | rfl | rfl | rfl | rfl | rfl | rfl | rfl | rfl <;> rfl
  rw [List.getElem?_map, List.getElem?_eq_getElem hxk] at e7
  have e8 := Option.some.inj e7
  rw [e2] at e8
  have e9 : n = ((tb k : Nat) : Int) := by simpa using e8
  rw [e9] at e4
  exact hc.trans e4

end Go.Proofs.YtdgankpignpcdaaDoor
