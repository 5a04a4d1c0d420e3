/-
The document's way through a table of edges: two rows in a struct.
-/
import Derived.Test.YtpombeiabgbpiaaDoorWPlain
import Derived.Test.YtpombeiabgbpiaaDoorWRefL
import Derived.BigQuiet
namespace Go.Proofs.YtpombeiabgbpiaaDoor
open Go.RowKit

def iV (x : Int) : Value := .int .i64 x
def tV (x : Bool) : Value := .bool x
theorem info3 : (Tryd.prog.info? 3).map (fun i => (i.zero, i.size, i.bytes)) = some (some (.int .i64 0), 1, 8) := by kernel_rfl
theorem info4 : (Tryd.prog.info? 4).map (fun i => (i.zero, i.size, i.bytes)) = some (some (.bool false), 1, 1) := by kernel_rfl
/-- a way in memory: numbers, and whether each is a directory -/
structure WayG (B bx : Nat) (vI vS : Value) (is : List Int) (bs : List Bool) (W : World) : Prop where
  box : W.heap[bx]? = some (.cells #[vI, vS] 112 (0, 0))
  rI : W.ownsRow B 3 1 vI is.length (is.map iV)
  rS : W.ownsRow B 4 1 vS bs.length (bs.map tV)
  nI : ∀ g, vI.ownBlock = some g → g ≠ bx
  nS : ∀ g, vS.ownBlock = some g → g ≠ bx
  ne : ∀ g, vI.ownBlock = some g → vS.ownBlock ≠ some g
theorem WayG.below {B bx : Nat} {vI vS : Value} {is : List Int} {bs : List Bool} {W W' : World} (h : WayG B bx vI vS is bs W) (hb : Below W.heap.size W W') : WayG B bx vI vS is bs W' :=
  ⟨(hb.block _ (heap_lt h.box)).trans h.box, own_chg h.rI (Chg.of_below (fun _ => False) hb) (fun _ _ h => h), own_chg h.rS (Chg.of_below (fun _ => False) hb) (fun _ _ h => h), h.nI, h.nS, h.ne⟩
theorem own_pop' {W : World} {B g n cap : Nat} {e : TypeId} {xs : List Value} (h : W.ownsRow B e 1 (.slice (some ⟨g, 0, none⟩) (n + 1) cap) (n + 1) xs) : W.ownsRow B e 1 (.slice (some ⟨g, 0, none⟩) n cap) n xs.dropLast := by
  have hl : xs.length = n + 1 := by simpa using h.1
  refine ⟨by simp [hl], .inr ?_⟩
  rcases h.2 with ⟨h, _⟩ | ⟨g', cap', cur, hv, hb, hg, h1, h2, h3, h4⟩
  · cases h
  · injection hv with e1 _ e3
    injection e1 with e1
    injection e1 with e1
    subst e1 e3
    refine ⟨g, cap, cur, rfl, hb, hg, by omega, h2, h3, ?_⟩
    rw [List.dropLast_eq_take, hl, ← h4, List.take_take]
    congr 1
    omega
theorem WayG.popI {B bx g k cap : Nat} {vS : Value} {is : List Int} {bs : List Bool} {W : World} (h : WayG B bx (.slice (some ⟨g, 0, none⟩) (k + 1) cap) vS is bs W) (hk : is.length = k + 1) : WayG B bx (.slice (some ⟨g, 0, none⟩) k cap) vS is.dropLast bs (W.setCell ⟨bx, 0, none⟩ (.slice (some ⟨g, 0, none⟩) k cap)) := by
  have hc : Chg (fun x => x = bx) W (W.setCell ⟨bx, 0, none⟩ (.slice (some ⟨g, 0, none⟩) k cap)) := (Chg.refl (fun x => x = bx) W).setCell (p := ⟨bx, 0, none⟩) (fun _ => rfl) _
  have hr := h.rI
  rw [hk] at hr
  have hr := own_pop' hr
  rw [← List.map_dropLast] at hr
  refine ⟨heap_setCell_same _ _ 0 _ _ _ h.box, ?_, own_chg h.rS hc (fun g e => h.nS g e), fun g e => h.nI g e, h.nS, fun g e => h.ne g e⟩
  rw [List.length_dropLast, hk]
  exact own_chg hr hc (fun g e => h.nI g e)
theorem WayG.popS {B bx g k cap : Nat} {vI : Value} {is : List Int} {bs : List Bool} {W : World} (h : WayG B bx vI (.slice (some ⟨g, 0, none⟩) (k + 1) cap) is bs W) (hk : bs.length = k + 1) : WayG B bx vI (.slice (some ⟨g, 0, none⟩) k cap) is bs.dropLast (W.setCell ⟨bx, 1, none⟩ (.slice (some ⟨g, 0, none⟩) k cap)) := by
  have hc : Chg (fun x => x = bx) W (W.setCell ⟨bx, 1, none⟩ (.slice (some ⟨g, 0, none⟩) k cap)) := (Chg.refl (fun x => x = bx) W).setCell (p := ⟨bx, 1, none⟩) (fun _ => rfl) _
  have hr := h.rS
  rw [hk] at hr
  have hr := own_pop' hr
  rw [← List.map_dropLast] at hr
  refine ⟨heap_setCell_same _ _ 1 _ _ _ h.box, own_chg h.rI hc (fun g e => h.nI g e), ?_, h.nI, fun g e => h.nS g e, fun g e => h.ne g e⟩
  rw [List.length_dropLast, hk]
  exact own_chg hr hc (fun g e => h.nS g e)
theorem WayG.pushI {B bx : Nat} {vI vS v' : Value} {is : List Int} {bs : List Bool} {wa w' : World} {o : Obj} {x : Int} (h : WayG B bx vI vS is bs wa)
    (hown : w'.ownsRow B 3 1 v' (is.length + 1) (is.map iV ++ [.int .i64 x])) (hg : (wa.alloc o).grownBy w' vI.ownBlock) (hloc : v'.ownBlock = vI.ownBlock ∨ v'.ownBlock = some (wa.alloc o).heap.size) :
    w'.heap[bx]? = some (.cells #[vI, vS] 112 (0, 0)) ∧ WayG B bx v' vS (is ++ [x]) bs (w'.setCell ⟨bx, 0, none⟩ v') ∧ Chg (fun y => y = bx ∨ vI.ownBlock = some y) wa (w'.setCell ⟨bx, 0, none⟩ v') := by
  have hlt := heap_lt h.box
  have hch : Chg (fun y => vI.ownBlock = some y) wa w' := ((Chg.refl (fun y => vI.ownBlock = some y) wa).alloc o).grown hg (fun k e _ => e)
  have hb' : w'.heap[bx]? = some (.cells #[vI, vS] 112 (0, 0)) := hch.heap h.box (fun e => h.nI bx e rfl)
  have hc2 : Chg (fun x => x = bx) w' (w'.setCell ⟨bx, 0, none⟩ v') := (Chg.refl (fun x => x = bx) w').setCell (p := ⟨bx, 0, none⟩) (fun _ => rfl) _
  have hnew : ∀ g, v'.ownBlock = some g → vI.ownBlock = some g ∨ g = wa.heap.size + 1 := fun g e => by
    rcases hloc with k | k
    · exact .inl (k ▸ e)
    · rw [k] at e
      have := Option.some.inj e
      simp at this
      exact .inr this.symm
  have hnI : ∀ g, v'.ownBlock = some g → g ≠ bx := fun g e => by
    rcases hnew g e with k | k
    · exact h.nI g k
    · omega
  refine ⟨hb', ⟨heap_setCell_same _ _ 0 _ _ v' hb', ?_, own_chg (own_chg h.rS hch (fun g e k => h.ne g k e)) hc2 (fun g e => h.nS g e), hnI, h.nS, fun g e k => ?_⟩, (hch.mono (fun _ _ e => .inr e)).setCell (p := ⟨bx, 0, none⟩) (fun _ => .inl rfl) _⟩
  · rw [List.length_append, List.map_append]
    exact own_chg hown hc2 (fun g e => hnI g e)
  · rcases hnew g e with k2 | k2
    · exact h.ne g k2 k
    · have := (h.rS.lt g k).2; omega
theorem WayG.pushS {B bx : Nat} {vI vS v' : Value} {is : List Int} {bs : List Bool} {wa w' : World} {o : Obj} {x : Bool} (h : WayG B bx vI vS is bs wa)
    (hown : w'.ownsRow B 4 1 v' (bs.length + 1) (bs.map tV ++ [.bool x])) (hg : (wa.alloc o).grownBy w' vS.ownBlock) (hloc : v'.ownBlock = vS.ownBlock ∨ v'.ownBlock = some (wa.alloc o).heap.size) :
    w'.heap[bx]? = some (.cells #[vI, vS] 112 (0, 0)) ∧ WayG B bx vI v' is (bs ++ [x]) (w'.setCell ⟨bx, 1, none⟩ v') ∧ Chg (fun y => y = bx ∨ vS.ownBlock = some y) wa (w'.setCell ⟨bx, 1, none⟩ v') := by
  have hlt := heap_lt h.box
  have hch : Chg (fun y => vS.ownBlock = some y) wa w' := ((Chg.refl (fun y => vS.ownBlock = some y) wa).alloc o).grown hg (fun k e _ => e)
  have hb' : w'.heap[bx]? = some (.cells #[vI, vS] 112 (0, 0)) := hch.heap h.box (fun e => h.nS bx e rfl)
  have hc2 : Chg (fun x => x = bx) w' (w'.setCell ⟨bx, 1, none⟩ v') := (Chg.refl (fun x => x = bx) w').setCell (p := ⟨bx, 1, none⟩) (fun _ => rfl) _
  have hnew : ∀ g, v'.ownBlock = some g → vS.ownBlock = some g ∨ g = wa.heap.size + 1 := fun g e => by
    rcases hloc with k | k
    · exact .inl (k ▸ e)
    · rw [k] at e
      have := Option.some.inj e
      simp at this
      exact .inr this.symm
  have hnS : ∀ g, v'.ownBlock = some g → g ≠ bx := fun g e => by
    rcases hnew g e with k | k
    · exact h.nS g k
    · omega
  refine ⟨hb', ⟨heap_setCell_same _ _ 1 _ _ v' hb', own_chg (own_chg h.rI hch (fun g e k => h.ne g e k)) hc2 (fun g e => h.nI g e), ?_, h.nI, hnS, fun g e k => ?_⟩, (hch.mono (fun _ _ e => .inr e)).setCell (p := ⟨bx, 1, none⟩) (fun _ => .inl rfl) _⟩
  · rw [List.length_append, List.map_append]
    exact own_chg hown hc2 (fun g e => hnS g e)
  · rcases hnew g k with k2 | k2
    · exact h.ne g e k2
    · have := (h.rI.lt g e).2; omega
/-- the two values, and their last cells -/
theorem WayG.ends {B bx : Nat} {vI vS : Value} {way : List (Int × Bool)} {W : World} (h : WayG B bx vI vS (way.map (·.1)) (way.map (·.2)) W) (h0 : way ≠ []) :
    ∃ gI cI gS cS, vI = .slice (some ⟨gI, 0, none⟩) way.length cI ∧ vS = .slice (some ⟨gS, 0, none⟩) way.length cS ∧ way.length ≤ cI ∧ cI ≤ 9223372036854775807 ∧ way.length ≤ cS ∧ cS ≤ 9223372036854775807 ∧ gI < W.heap.size ∧ gS < W.heap.size ∧
      W.cell? ⟨gI, way.length - 1, none⟩ = some (.int .i64 (way.getLastD (0, false)).1) ∧ W.cell? ⟨gS, way.length - 1, none⟩ = some (.bool (way.getLastD (0, false)).2) ∧ B ≤ gI ∧ B ≤ gS := by
  have hl : 0 < way.length := List.length_pos_iff.2 h0
  have hlast : way[way.length - 1]? = some (way.getLastD (0, false)) := by
    rcases List.eq_nil_or_concat way with rfl | ⟨q, z, rfl⟩
    · exact absurd rfl h0
    · rw [List.concat_eq_append, List.getLastD_concat]; simp
  rcases h.rI.2 with ⟨_, e⟩ | ⟨gI, cI, curI, hvI, hbI, hgI, i1, i2, _⟩
  · exact absurd (by simpa using e) h0
  rcases h.rS.2 with ⟨_, e⟩ | ⟨gS, cS, curS, hvS, hbS, hgS, s1, s2, _⟩
  · exact absurd (by simpa using e) h0
  have cI' := h.rI.cells (g := gI) (by rw [hvI]; rfl) (way.length - 1) (iV (way.getLastD (0, false)).1) (by rw [List.getElem?_map, List.getElem?_map, hlast]; rfl)
  have cS' := h.rS.cells (g := gS) (by rw [hvS]; rfl) (way.length - 1) (tV (way.getLastD (0, false)).2) (by rw [List.getElem?_map, List.getElem?_map, hlast]; rfl)
  rw [Go.WideShapes.add_plain, Nat.zero_add] at cI' cS'
  simp only [List.length_map] at hvI hvS i1 s1
  exact ⟨gI, cI, gS, cS, hvI, hvS, i1, maxLen_eq ▸ i2, s1, maxLen_eq ▸ s2, heap_lt hgI, heap_lt hgS, cI', cS', hbI, hbS⟩

set_option maxRecDepth 100000 in
set_option maxHeartbeats 1000000 in
/-- last -/
theorem last_any (w : World) (B bx : Nat) (vI vS : Value) (way : List (Int × Bool)) (h : WayG B bx vI vS (way.map (·.1)) (way.map (·.2)) w) (h0 : way ≠ []) (hlen : way.length ≤ 8796093022208) :
    Calls Tryd.prog 64 #[.pointer (some ⟨bx, 0, none⟩)] w fun e w' => e = .returned (.bool (way.getLastD (0, false)).2) ∧ Below w.heap.size w w' := by
  obtain ⟨gI, cI, gS, cS, rfl, rfl, i1, i2, s1, s2, gl, gl2, cc, dd, _, _⟩ := h.ends h0
  have hl : 0 < way.length := List.length_pos_iff.2 h0
  have d1 := cell_of_row _ _ 1 _ _ _ h.box
  simp only [List.getElem?_toArray, List.getElem?_cons_zero, List.getElem?_cons_succ] at d1
  have hlt := heap_lt h.box
  have hw1 : IntKind.i64.wrap ((way.length : Int) - 1) = (way.length : Int) - 1 := IntWalk.i64_in _ (by omega)
  generalize way.getLastD (0, false) = z at *
  generalize way.length = n at *
  clear h h0 cc
  go_enter Tryd.func64, Tryd.ntmps64
  go_wp2_with fail
  go_quiet (fail)
  go_wp2_with fail
  go_ret
  exact ⟨rfl, show Below _ _ _ from ⟨rfl, rfl, rfl, Nat.le_refl _, fun _ _ => rfl⟩⟩

end Go.Proofs.YtpombeiabgbpiaaDoor
