/-
Small laws for loops over an iterator: boxes, rows and trees through a step; what a round owes out of what it changed.
-/
import Derived.Test.YtfljnfmocmhhdaaPWFrom
import Derived.Test.YtfljnfmocmhhdaaWCopy
import Derived.RangeFuncBox
import Derived.Maps.AppendAt
namespace Go.Proofs.Ytfljnfmocmhhdaa.Spn
open Go.RowKit Go.Shelf

theorem TreeI.congr {w : World} {r : Nat} {f f' : Nat → Int × Int} {lb : Nat → Nat} (h : TreeI w r f lb) (e : ∀ i, i < 512 → f i = f' i) : TreeI w r f' lb := by
  obtain ⟨g0, L1, L2, hs⟩ := h
  have hc : cntI f = cntI f' := cntN_congr 512 e
  exact ⟨g0, L1, L2, by rw [← hc]; exact hs.hdr, hs.root, hs.mid, fun j hj g hg => (hs.leaf j hj g hg).congr (fun _ _ => rfl) (fun i hi => e _ (by omega)), fun j hj hn i hi => by rw [← e _ (by omega)]; exact hs.hole j hj hn i hi, hs.par, hs.lr, hs.lg, hs.l1, hs.l2, hs.cel⟩
theorem NodeI.sim {B0 : Nat} {A B : World} {g : Nat} {p : Nat → Option Nat} {v : Nat → Int × Int} (h : NodeI A g p v) (hs : Sim B0 A B) : NodeI B g p v := hs.cells _ _ _ _ h
theorem TreeI.sim {B0 : Nat} {A B : World} {r : Nat} {f : Nat → Int × Int} {lb : Nat → Nat} (h : TreeI A r f lb) (hs : Sim B0 A B) : TreeI B r f lb := by
  obtain ⟨g0, L1, L2, h⟩ := h
  exact ⟨g0, L1, L2, hs.cells _ _ _ _ h.hdr, h.root.sim hs, fun k hk g hg => (h.mid k hk g hg).sim hs, fun j hj g hg => (h.leaf j hj g hg).sim hs, h.hole, h.par, h.lr, h.lg, h.l1, h.l2, fun b hb => by obtain ⟨cs, t, e⟩ := h.cel b hb; exact ⟨cs, t, hs.cells _ _ _ _ e⟩⟩
/-- the tree behind Sets of none at all offsets that have come -/
def clr (f : Nat → Int × Int) (pre : List (Nat × (Int × Int))) (i : Nat) : Int × Int := if i ∈ pre.map Prod.fst then (0, 0) else f i
theorem clr_snoc (f : Nat → Int × Int) (pre : List (Nat × (Int × Int))) (x : Nat × (Int × Int)) : clr f (pre ++ [x]) = upd (clr f pre) x.1 (0, 0) := by
  funext i
  by_cases e : i = x.1
  · subst e; rw [upd_same]; simp [clr]
  · rw [upd_other _ _ e]
    unfold clr
    have : (i ∈ List.map Prod.fst (pre ++ [x])) ↔ i ∈ List.map Prod.fst pre := by
      rw [List.map_append, List.mem_append]
      exact ⟨fun h => h.elim id (fun h => absurd (by simpa using h) e), .inl⟩
    simp only [this]
theorem items_mem {F : Nat → Int × Int} {off : Int} {n : Nat} {x : Nat × (Int × Int)} (h : x ∈ items F 0 off n) : x.1 < n ∧ off ≤ (x.1 : Int) ∧ F x.1 = x.2 ∧ x.2 ≠ (0, 0) := by
  unfold items at h
  rw [List.mem_filterMap] at h
  obtain ⟨i, hi, h⟩ := h
  rw [List.mem_range] at hi
  split at h
  · rename_i hc
    obtain rfl := Option.some.inj h
    simpa using ⟨hi, by simpa using hc.1, hc.2⟩
  · cases h
theorem items_has {F : Nat → Int × Int} {off : Int} {n i : Nat} (hi : i < n) (ho : off ≤ (i : Int)) (hf : F i ≠ (0, 0)) : (i, F i) ∈ items F 0 off n := by
  unfold items
  rw [List.mem_filterMap]
  refine ⟨i, List.mem_range.2 hi, ?_⟩
  rw [if_pos ⟨by simpa using ho, hf⟩, Nat.zero_add]
theorem items_len (F : Nat → Int × Int) (base : Nat) (off : Int) (n : Nat) : (items F base off n).length ≤ n := by
  unfold items
  have := List.length_filterMap_le (fun i => if off ≤ ((base + i : Nat) : Int) ∧ F i ≠ (0, 0) then some (base + i, F i) else none) (List.range n)
  rwa [List.length_range] at this
/-- what Cut leaves -/
def cutI (f : Nat → Int × Int) (off : Int) (i : Nat) : Int × Int := if off ≤ (i : Int) then (0, 0) else f i
theorem clr_all (f : Nat → Int × Int) (off : Int) (i : Nat) (hi : i < 512) : clr f (items f 0 off 512) i = cutI f off i := by
  unfold clr cutI
  by_cases h : i ∈ (items f 0 off 512).map Prod.fst
  · rw [if_pos h]
    obtain ⟨x, hx, rfl⟩ := List.mem_map.1 h
    rw [if_pos (items_mem hx).2.1]
  · rw [if_neg h]
    by_cases ho : off ≤ (i : Int)
    · rw [if_pos ho]
      by_cases hf : f i = (0, 0)
      · exact hf
      · exact (h (List.mem_map.2 ⟨_, items_has hi ho hf, rfl⟩)).elim
    · rw [if_neg ho]

end Go.Proofs.Ytfljnfmocmhhdaa.Spn
