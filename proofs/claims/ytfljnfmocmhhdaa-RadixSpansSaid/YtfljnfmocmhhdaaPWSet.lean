/-
Set of a tree of spans.
-/
import Derived.Test.YtfljnfmocmhhdaaPGrown
namespace Go.Proofs.Ytfljnfmocmhhdaa.Spn
open Go.RowKit

section
variable {w : World} {r : Nat} {c : Int} {f : Nat → Int × Int} {lb : Nat → Nat} {g0 : Nat} {L1 L2 : Nat → Option Nat}
theorem ShapeC.setv (h : ShapeC w r c f lb g0 L1 L2) {off g : Nat} (ho : off < 512) (hg : L2 (off / 8) = some g) (x y : Int) : ShapeC ((w.setCell ⟨g, 8 + off % 8 * 2, none⟩ (.int .i64 x)).setCell ⟨g, 8 + off % 8 * 2 + 1, none⟩ (.int .i64 y)) r c (upd f off (x, y)) lb g0 L1 L2 := by
  have hlg := h.l2 _ (by omega) _ hg
  have ne : ∀ b, lb b ≠ lb g → b ≠ g := fun b hb e => hb (by rw [e])
  refine ⟨?_, (h.root.far _ _ (ne _ (by rw [h.lg, hlg]; omega))).far _ _ (ne _ (by rw [h.lg, hlg]; omega)), fun k hk g' hg' => ((h.mid k hk g' hg').far _ _ (ne _ (by rw [h.l1 k hk g' hg', hlg]; omega))).far _ _ (ne _ (by rw [h.l1 k hk g' hg', hlg]; omega)), fun j hj g' hg' => ?_, fun j hj hn i hi => ?_, h.par, h.lr, h.lg, h.l1, h.l2, fun b hb => ?_⟩
  · exact (heap_setCell_other _ _ r _ (ne _ (by rw [h.lr, hlg]; omega))).trans ((heap_setCell_other w _ r _ (ne _ (by rw [h.lr, hlg]; omega))).trans h.hdr)
  · by_cases e : j = off / 8
    · subst e
      rw [hg] at hg'
      obtain rfl := Option.some.inj hg'
      refine ((h.leaf _ hj _ hg).setval (off % 8) (by omega) x y).congr (fun _ _ => rfl) (fun i hi => ?_)
      by_cases ei : i = off % 8
      · rw [ei, upd_same, show 8 * (off / 8) + off % 8 = off by omega, upd_same]
      · rw [upd_other _ _ ei, upd_other _ _ (by omega)]
    · refine (((h.leaf j hj g' hg').far _ _ (ne _ (by rw [h.l2 j hj g' hg', hlg]; omega))).far _ _ (ne _ (by rw [h.l2 j hj g' hg', hlg]; omega))).congr (fun _ _ => rfl) (fun i hi => ?_)
      rw [upd_other _ _ (by omega)]
  · have hj2 : j ≠ off / 8 := fun e => by subst e; rw [hg] at hn; cases hn
    rw [upd_other _ _ (by omega)]; exact h.hole j hj hn i hi
  · exact ((h.cel b hb).setCell _ _ _).setCell _ _ _
theorem ShapeC.many (h : ShapeC w r c f lb g0 L1 L2) (c' : Int) : ShapeC (w.setCell ⟨r, 1, none⟩ (.int .i64 c')) r c' f lb g0 L1 L2 := by
  have ne : ∀ b, lb b ≠ lb r → b ≠ r := fun b hb e => hb (by rw [e])
  refine ⟨?_, h.root.far _ _ (ne _ (by rw [h.lg, h.lr]; omega)), fun k hk g hg => (h.mid k hk g hg).far _ _ (ne _ (by rw [h.l1 k hk g hg, h.lr]; omega)), fun j hj g hg => (h.leaf j hj g hg).far _ _ (ne _ (by rw [h.l2 j hj g hg, h.lr]; omega)), h.hole, h.par, h.lr, h.lg, h.l1, h.l2, fun b hb => ?_⟩
  · exact heap_setCell_same w r 1 _ _ _ h.hdr
  · exact (h.cel b hb).setCell _ _ _
theorem ShapeC.count (h : ShapeC w r c f lb g0 L1 L2) (e : c = (cntI f : Nat)) : ShapeI w r f lb g0 L1 L2 := by subst e; exact h
theorem ShapeC.cells (h : ShapeC w r c f lb g0 L1 L2) {off g : Nat} (ho : off < 512) (hg : L2 (off / 8) = some g) :
    w.cell? ⟨g, 8 + off % 8 * 2, none⟩ = some (.int .i64 (f off).1) ∧ w.cell? ⟨g, 8 + off % 8 * 2 + 1, none⟩ = some (.int .i64 (f off).2) ∧ (∀ o, w.frozen? ⟨g, o, none⟩ = false) ∧ w.cell? ⟨r, 1, none⟩ = some (.int .i64 c) ∧ w.frozen? ⟨r, 1, none⟩ = false ∧ r ≠ g := by
  have hl := h.leaf _ (by omega) _ hg
  have hv := hl.val (off % 8) (by omega)
  rw [show 8 * (off / 8) + off % 8 = off by omega] at hv
  refine ⟨hv.1, hv.2, hl.free, by rw [cell_of_row w _ _ _ _ _ h.hdr]; rfl, frozen_of_row w r 1 _ _ h.hdr, fun e => ?_⟩
  have h1 := h.lr
  rw [e, h.l2 _ (by omega) _ hg] at h1
  omega
end

/-- behind Set's three own variables: what it was handed, its answer, none -/
def own3 (w : World) (x y : Int) : World := ((w.alloc (.cells #[.int .i64 x, .int .i64 y] 56)).alloc (.cells #[.int .i64 0, .int .i64 0] 56)).alloc (.cells #[.int .i64 0, .int .i64 0] 56)
theorem own3_below (w : World) (x y : Int) : Below w.heap.size w (own3 w x y) := ((Below.alloc (Below.refl _ _) (Nat.le_refl _) _).alloc (by simp) _).alloc (by simp; omega) _

theorem own3_cells (w : World) (v1 v2 : Int) (lb : Nat → Nat) (w1 : World) (hd : ∀ b, lb b ≠ 0 → b < w.heap.size) (hc : Chg (Of lb) (own3 w v1 v2) w1) :
    w1.cell? ⟨w.heap.size, 0, none⟩ = some (.int .i64 v1) ∧ w1.cell? ⟨w.heap.size, 1, none⟩ = some (.int .i64 v2) ∧
    w1.cell? ⟨w.heap.size + 1, 0, none⟩ = some (.int .i64 0) ∧ w1.cell? ⟨w.heap.size + 1, 1, none⟩ = some (.int .i64 0) ∧
    w1.cell? ⟨w.heap.size + 1 + 1, 0, none⟩ = some (.int .i64 0) ∧ w1.cell? ⟨w.heap.size + 1 + 1, 1, none⟩ = some (.int .i64 0) ∧
    w1.frozen? ⟨w.heap.size + 1, 0, none⟩ = false ∧ w1.frozen? ⟨w.heap.size + 1, 1, none⟩ = false ∧
    w.heap.size < w1.heap.size ∧ w.heap.size + 1 < w1.heap.size ∧ w.heap.size + 1 + 1 < w1.heap.size := by
  have hb0 : (own3 w v1 v2).heap[w.heap.size]? = some (.cells #[.int .i64 v1, .int .i64 v2] 56 (0, 0)) := (Below.heap_alloc _ _ _ (by simp; omega)).trans ((Below.heap_alloc _ _ _ (by simp)).trans (heap_alloc_new w _))
  have hb1 : (own3 w v1 v2).heap[w.heap.size + 1]? = some (.cells #[.int .i64 0, .int .i64 0] 56 (0, 0)) := by
    have := heap_alloc_new (w.alloc (.cells #[.int .i64 v1, .int .i64 v2] 56)) (.cells #[.int .i64 0, .int .i64 0] 56)
    simp only [World.size_alloc] at this
    exact (Below.heap_alloc _ _ _ (by simp)).trans this
  have hb2 : (own3 w v1 v2).heap[w.heap.size + 1 + 1]? = some (.cells #[.int .i64 0, .int .i64 0] 56 (0, 0)) := by
    have := heap_alloc_new ((w.alloc (.cells #[.int .i64 v1, .int .i64 v2] 56)).alloc (.cells #[.int .i64 0, .int .i64 0] 56)) (.cells #[.int .i64 0, .int .i64 0] 56)
    simp only [World.size_alloc] at this
    exact this
  have k0 := hc.heap hb0 (fun h => by have := hd _ h; omega)
  have k1 := hc.heap hb1 (fun h => by have := hd _ h; omega)
  have k2 := hc.heap hb2 (fun h => by have := hd _ h; omega)
  have hs := hc.size
  have hs3 : (own3 w v1 v2).heap.size = w.heap.size + 1 + 1 + 1 := by simp [own3]
  refine ⟨?_, ?_, ?_, ?_, ?_, ?_, frozen_of_row _ _ 0 _ _ k1, frozen_of_row _ _ 1 _ _ k1, by omega, by omega, by omega⟩
  · rw [cell_of_row _ _ _ _ _ _ k0]; rfl
  · rw [cell_of_row _ _ _ _ _ _ k0]; rfl
  · rw [cell_of_row _ _ _ _ _ _ k1]; rfl
  · rw [cell_of_row _ _ _ _ _ _ k1]; rfl
  · rw [cell_of_row _ _ _ _ _ _ k2]; rfl
  · rw [cell_of_row _ _ _ _ _ _ k2]; rfl
theorem own3_apart (w : World) (v1 v2 : Int) (lb lb' : Nat → Nat) (hd : ∀ b, lb b ≠ 0 → b < w.heap.size) (hx : Ext (own3 w v1 v2) lb lb') (g : Nat) (hg : lb' g ≠ 0) :
    w.heap.size ≠ g ∧ w.heap.size + 1 ≠ g ∧ w.heap.size + 1 + 1 ≠ g := by
  have hs3 : (own3 w v1 v2).heap.size = w.heap.size + 1 + 1 + 1 := by simp [own3]
  rcases hx.1 g hg with h | h
  · have := hd g h; omega
  · omega
theorem own3_chg (w : World) (v1 v2 : Int) (lb : Nat → Nat) (w1 : World) (hc : Chg (Of lb) (own3 w v1 v2) w1) : Chg (Of lb) w w1 := (Chg.of_below (Of lb) (own3_below w v1 v2)).trans hc (fun _ _ h => h)
theorem own3_ext (w : World) (v1 v2 : Int) (lb lb' : Nat → Nat) (hx : Ext (own3 w v1 v2) lb lb') : Ext w lb lb' :=
  ⟨fun b hb => (hx.1 b hb).imp id (fun h => by have := (own3_below w v1 v2).size; omega), hx.2⟩

theorem keep2 (w1 : World) (g a c : Nat) (x y : Value) (b i : Nat) (h : b ≠ g) : ((w1.setCell ⟨g, a, none⟩ x).setCell ⟨g, c, none⟩ y).cell? ⟨b, i, none⟩ = w1.cell? ⟨b, i, none⟩ := by
  rw [World.cell?_setCell_other (h := fun e => by injection e with e; exact h e.symm), World.cell?_setCell_other (h := fun e => by injection e with e; exact h e.symm)]

theorem keep1 (w1 : World) (g a : Nat) (x : Value) (b i : Nat) (h : b ≠ g) : (w1.setCell ⟨g, a, none⟩ x).cell? ⟨b, i, none⟩ = w1.cell? ⟨b, i, none⟩ :=
  World.cell?_setCell_other _ _ _ _ (fun e => by injection e with e; exact h e.symm)
theorem two_cells (X : World) (o : Obj) (b : Nat) (x y u v : Value) (h0 : X.cell? ⟨b, 0, none⟩ = some u) (h1 : X.cell? ⟨b, 1, none⟩ = some v) (hb : b < X.heap.size) :
    ((((X.setCell ⟨b, 0, none⟩ x).setCell ⟨b, 1, none⟩ y).alloc o).drew.cell? ⟨b, 0, none⟩ = some x) ∧ ((((X.setCell ⟨b, 0, none⟩ x).setCell ⟨b, 1, none⟩ y).alloc o).drew.cell? ⟨b, 1, none⟩ = some y) := by
  have n01 : (⟨b, 0, none⟩ : Addr) ≠ ⟨b, 1, none⟩ := fun e => by injection e with _ e; omega
  have k1 : (X.setCell ⟨b, 0, none⟩ x).cell? ⟨b, 1, none⟩ = some v := (World.cell?_setCell_other _ _ _ _ n01).trans h1
  have a0 : (((X.setCell ⟨b, 0, none⟩ x).setCell ⟨b, 1, none⟩ y).alloc o).cell? ⟨b, 0, none⟩ = some x := by
    rw [World.cell?_alloc_past _ _ _ (by simp only [World.size_setCell]; exact hb), World.cell?_setCell_other (h := n01.symm)]
    exact World.cell?_setCell_same _ _ _ h0
  have a1 : (((X.setCell ⟨b, 0, none⟩ x).setCell ⟨b, 1, none⟩ y).alloc o).cell? ⟨b, 1, none⟩ = some y := by
    rw [World.cell?_alloc_past _ _ _ (by simp only [World.size_setCell]; exact hb)]
    exact World.cell?_setCell_same _ _ _ k1
  exact ⟨a0, a1⟩
theorem ShapeC.box {W : World} {r : Nat} {c : Int} {f : Nat → Int × Int} {lb : Nat → Nat} {g0 : Nat} {L1 L2 : Nat → Option Nat} (h : ShapeC W r c f lb g0 L1 L2) (b : Nat) (hb : lb b = 0) (x y : Value) (o : Obj) :
    ShapeC (((W.setCell ⟨b, 0, none⟩ x).setCell ⟨b, 1, none⟩ y).alloc o).drew r c f lb g0 L1 L2 :=
  h.chg (D := fun z => z = b) ((((Chg.refl (fun z => z = b) W).setCell (p := ⟨b, 0, none⟩) (fun _ => rfl) x).setCell (p := ⟨b, 1, none⟩) (fun _ => rfl) y).alloc o).drew (fun z hz e => hz (by rw [e]; exact hb))
theorem Chg.box {D : Nat → Prop} {w W : World} (h : Chg D w W) (b : Nat) (hb : w.heap.size ≤ b) (x y : Value) (o : Obj) : Chg D w (((W.setCell ⟨b, 0, none⟩ x).setCell ⟨b, 1, none⟩ y).alloc o).drew :=
  (((h.setCell (p := ⟨b, 0, none⟩) (fun h => by simp only at h; omega) x).setCell (p := ⟨b, 1, none⟩) (fun h => by simp only at h; omega) y).alloc o).drew
theorem set_ret {R : Ending → World → Prop} {a : Act} {W : World} {b : Nat} {x y z : Int} (h6 : a.tmps[6]?.getD undef = .pointer (some ⟨b, 0, none⟩)) (h7 : a.tmps[7]?.getD undef = .int .i64 z) (hd : a.defers = [])
    (c : W.cell? ⟨b, 0, none⟩ = some (.int .i64 x) ∧ W.cell? ⟨b, 1, none⟩ = some (.int .i64 y)) (hR : R (.returned (.tuple #[.agg #[.int .i64 x, .int .i64 y], .int .i64 z])) W) : bodyPost Try.prog Try.f33 R .ret a W := by
  obtain ⟨c0, c1⟩ := c
  refine bodyPost_ret (v := .tuple #[.agg #[.int .i64 x, .int .i64 y], .int .i64 z]) ?_ hd hR
  simp [results, Try.results33, go_sem, h6, h7, c0, c1]

set_option maxHeartbeats 2000000 in
/-- a value that is none -/
theorem set_zero (w : World) (r : Nat) (f : Nat → Int × Int) (lb : Nat → Nat) (h : TreeI w r f lb) (off : Nat) (ho : off < 512) :
    Calls Try.prog 33 #[.pointer (some ⟨r, 0, none⟩), .int .i64 off, sp (0, 0)] w fun e w' => e = .returned (.tuple #[sp (f off), .int .i64 0]) ∧ TreeI w' r (upd f off (0, 0)) lb ∧ Chg (Of lb) w w' := by
  obtain ⟨g0, L1, L2, hs⟩ := h
  have hs3 := ShapeI.below hs (own3_below w 0 0)
  have HL := Lib.hid (leaf_find _ r f lb g0 L1 L2 hs3 off ho)
  have HI := Lib.hid (fun W => isOff_yes off W (by omega) (by omega))
  have e1 : (off : Int) % 8 = ((off % 8 : Nat) : Int) := by omega
  have hk : off % 8 < 8 := by omega
  have hcu := cntI_upd f off (0, 0) ho
  rw [if_pos rfl] at hcu
  rcases hL2 : L2 (off / 8) with _ | g
  · have hz := hs.hole (off / 8) (by omega) hL2 (off % 8) hk
    rw [show 8 * (off / 8) + off % 8 = off by omega] at hz
    have hf : upd f off (0, 0) = f := by
      funext i
      by_cases e : i = off
      · rw [e, upd_same, hz]
      · exact upd_other _ _ e
    rw [hz, hf]
    rw [hL2, opt_none] at HL
    have HS := Lib.hid (⟨g0, L1, L2, hs3⟩ : TreeI (own3 w 0 0) r f lb)
    have HC := Lib.hid (Chg.of_below (Of lb) (own3_below w 0 0))
    unfold sp
    clear hs hz hL2 hf hcu hs3
    unfold own3 at HL HS HC
    go_enter Try.func33, Try.ntmps33
    go_wp2_with fail
    refine (HI.out _).mono ?_
    rintro e w' ⟨rfl, rfl⟩
    go_wp2_with fail
    refine HL.out.mono ?_
    rintro e w' ⟨rfl, rfl⟩
    go_wp2_with fail
    go_returns
    exact ⟨rfl, HS.out, HC.out⟩
  · obtain ⟨c1, c2, c3, c4, c5, hne⟩ := hs.cells ho hL2
    have c6 := c3 (8 + off % 8 * 2)
    have c7 := c3 (8 + off % 8 * 2 + 1)
    clear c3
    rw [hL2, opt_some] at HL
    have hg : lb g ≠ 0 := by rw [hs.l2 _ (by omega) _ hL2]; omega
    have hr : lb r ≠ 0 := by rw [hs.lr]; decide
    have hgw := hs.dom g hg
    have hrw := hs.dom r hr
    have hg1 : g < w.heap.size + 1 := by omega
    have hg2 : g < w.heap.size + 1 + 1 := by omega
    have hg3 : g < w.heap.size + 1 + 1 + 1 := by omega
    have hr1 : r < w.heap.size + 1 := by omega
    have hr2 : r < w.heap.size + 1 + 1 := by omega
    have hr3 : r < w.heap.size + 1 + 1 + 1 := by omega
    have H1 := Lib.hid (hs.setv ho hL2 0 0)
    have HC := Lib.hid (((Chg.refl (Of lb) w).setCell (p := ⟨g, 8 + off % 8 * 2, none⟩) (fun _ => hg) (.int .i64 0)).setCell (p := ⟨g, 8 + off % 8 * 2 + 1, none⟩) (fun _ => hg) (.int .i64 0))
    have hd4 : ∀ W : World, TreeI W r (upd f off (0, 0)) lb → ∀ {o1 o2 o3 o4 : Obj}, TreeI ((((W.alloc o1).alloc o2).alloc o3).alloc o4).drew r (upd f off (0, 0)) lb := fun W h o1 o2 o3 o4 =>
      h.below (((((Below.refl _ _).alloc (Nat.le_refl _) _).alloc (by simp) _).alloc (by simp; omega) _).alloc (by simp; omega) _).drew
    have hc4 : ∀ W : World, Chg (Of lb) w W → ∀ {o1 o2 o3 o4 : Obj}, Chg (Of lb) w ((((W.alloc o1).alloc o2).alloc o3).alloc o4).drew := fun W h o1 o2 o3 o4 => ((((h.alloc _).alloc _).alloc _).alloc _).drew
    by_cases hw : f off = (0, 0)
    · rw [hw] at c1 c2 hcu
      simp only at c1 c2
      rw [if_pos rfl] at hcu
      have HE : Hid ((cntI f : Int) = (cntI (upd f off (0, 0)) : Nat)) := by unfold Hid; omega
      rw [hw]
      generalize off % 8 = k at *
      clear hs hs3 hL2 hcu
      unfold sp
      unfold own3 at *
      go_enter Try.func33, Try.ntmps33
      go_wp2_with fail
      refine (HI.out _).mono ?_
      rintro e w' ⟨rfl, rfl⟩
      go_wp2_with fail
      refine HL.out.mono ?_
      rintro e w' ⟨rfl, rfl⟩
      go_wp2_with fail
      go_region
      all_goals (go_wp2_with fail)
      go_returns
      exact ⟨rfl, hd4 _ (⟨g0, L1, L2, H1.out.count HE.out⟩), hc4 _ HC.out⟩
    · rw [if_neg hw] at hcu
      have hpos := cntI_pos f off ho hw
      have hle := cntI_le f
      have HE : Hid ((cntI f : Int) - 1 = (cntI (upd f off (0, 0)) : Nat)) := by unfold Hid; omega
      have H2 := Lib.hid (H1.out.many ((cntI f : Int) - 1))
      have HC2 := Lib.hid (HC.out.setCell (p := ⟨r, 1, none⟩) (fun _ => hr) (.int .i64 ((cntI f : Int) - 1)))
      obtain ⟨x, hx⟩ : ∃ x, f off = x := ⟨_, rfl⟩
      rw [hx] at c1 c2 hw ⊢
      obtain ⟨x1, x2⟩ := x
      simp only at c1 c2
      generalize off % 8 = k at *
      generalize cntI f = cf at *
      clear hs hs3 hL2 hcu hx
      unfold sp
      unfold own3 at *
      go_enter Try.func33, Try.ntmps33
      go_wp2_with fail
      refine (HI.out _).mono ?_
      rintro e w' ⟨rfl, rfl⟩
      go_wp2_with fail
      refine HL.out.mono ?_
      rintro e w' ⟨rfl, rfl⟩
      go_wp2_with fail
      go_region
      all_goals (go_wp2_with fail)
      all_goals go_returns
      · exfalso; simp_all
      · exact ⟨by simp_all, hd4 _ (⟨g0, L1, L2, H2.out.count HE.out⟩), hc4 _ HC2.out⟩
      · exact ⟨rfl, hd4 _ (⟨g0, L1, L2, H2.out.count HE.out⟩), hc4 _ HC2.out⟩

set_option maxRecDepth 100000 in
set_option maxHeartbeats 4000000 in
/-- a value whose first number is none of 0 -/
theorem set_one (w : World) (r : Nat) (f : Nat → Int × Int) (lb : Nat → Nat) (h : TreeI w r f lb) (off : Nat) (ho : off < 512) (v1 v2 : Int) (hv : v1 ≠ 0) :
    Calls Try.prog 33 #[.pointer (some ⟨r, 0, none⟩), .int .i64 off, sp (v1, v2)] w fun e w' => e = .returned (.tuple #[sp (f off), .int .i64 0]) ∧ ∃ lb', TreeI w' r (upd f off (v1, v2)) lb' ∧ Ext w lb lb' ∧ Chg (Of lb) w w' := by
  obtain ⟨g0, L1, L2, hs⟩ := h
  have hs3 := ShapeI.below hs (own3_below w v1 v2)
  have HL := Lib.hid (leaf_grow hs3 off ho)
  have HI := Lib.hid (fun W => isOff_yes off W (by omega) (by omega))
  have e1 : (off : Int) % 8 = ((off % 8 : Nat) : Int) := by omega
  have hk : off % 8 < 8 := by omega
  have hcu := Lib.hid (cntI_upd f off (v1, v2) ho)
  have hle := cntI_le f
  have hr : lb r ≠ 0 := by rw [hs.lr]; decide
  have hrw := hs.dom r hr
  have HOB := Lib.hid (fun w1 hc => own3_cells w v1 v2 lb w1 hs.dom hc)
  have HOG := Lib.hid (fun lb' hx g hg => own3_apart w v1 v2 lb lb' hs.dom hx g hg)
  have HOF := Lib.hid (fun w1 hc => own3_chg w v1 v2 lb w1 hc)
  have HOX := Lib.hid (fun lb' hx => own3_ext w v1 v2 lb lb' hx)
  have HG : Hid (∀ (w1 : World) (lb' : Nat → Nat), Ext (own3 w v1 v2) lb lb' → ∀ g, g < w.heap.size → lb' g ≠ 0 → lb g ≠ 0) := fun w1 lb' hx g hlt hg => (hx.1 g hg).elim id (fun h => by have := (own3_below w v1 v2).size; omega)
  have HPOS := Lib.hid (fun hw => cntI_pos f off ho hw)
  obtain ⟨x, hx⟩ : ∃ x, f off = x := ⟨_, rfl⟩
  have HX := Lib.hid hx
  rw [hx]
  obtain ⟨x1, x2⟩ := x
  have HV : Hid (((v1, v2) : Int × Int) ≠ (0, 0)) := fun e => by injection e with e1 e2; exact hv (by assumption)
  have hxc : (x1 = 0 ∧ x2 = 0) ∨ x1 ≠ 0 ∨ (x1 = 0 ∧ x2 ≠ 0) := by omega
  clear hs hs3 hx
  unfold sp
  rcases hxc with ⟨rfl, rfl⟩ | hx1 | ⟨rfl, hx2⟩
  · go_enter Try.func33, Try.ntmps33
    go_wp2_with fail
    refine (HI.out _).mono ?_
    rintro e w' ⟨rfl, rfl⟩
    go_wp2_with fail
    refine HL.out.mono ?_
    rintro e w1 ⟨g, lb', L1', L2', rfl, hs', hL2, hx, hc⟩
    obtain ⟨c1, c2, c3, c4, c5, hne⟩ := hs'.cells ho hL2
    rw [HX.out] at c1 c2
    simp only at c1 c2
    have c6 := c3 (8 + off % 8 * 2)
    have c7 := c3 (8 + off % 8 * 2 + 1)
    clear c3
    have hlg : lb' g ≠ 0 := by rw [hs'.l2 _ (by omega) _ hL2]; omega
    have hlr : lb' r ≠ 0 := by rw [hs'.lr]; decide
    obtain ⟨d0, d1, d2, d3, d4, d5, d6, d7, d8, d9, d10⟩ := HOB.out w1 hc
    obtain ⟨g1, g2, g3⟩ := HOG.out lb' hx g hlg
    obtain ⟨r1, r2, r3⟩ := HOG.out lb' hx r hlr
    have hgw := hs'.dom g hlg
    have hrw' := hs'.dom r hlr
    have HSH := Lib.hid hs'
    have HL2 := Lib.hid hL2
    have HE := Lib.hid hx
    have HC := Lib.hid hc
    have HBX : Hid (lb' (w.heap.size + 1) = 0) := by
      rcases Nat.eq_zero_or_pos (lb' (w.heap.size + 1)) with h | h
      · exact h
      · exact absurd rfl (HOG.out lb' hx _ (by omega)).2.1
    have HCN : Hid ((cntI f : Int) + 1 = (cntI (upd f off (v1, v2)) : Nat)) := by
      have := hcu.out
      rw [HX.out, if_neg HV.out, if_pos rfl] at this
      unfold Hid; omega
    have H1 := Lib.hid (HSH.out.setv ho HL2.out v1 v2)
    have HC1 := Lib.hid (((HOF.out w1 HC.out).setCell (p := ⟨g, 8 + off % 8 * 2, none⟩) (fun h => HG.out w1 lb' HE.out g h hlg) (.int .i64 v1)).setCell (p := ⟨g, 8 + off % 8 * 2 + 1, none⟩) (fun h => HG.out w1 lb' HE.out g h hlg) (.int .i64 v2))
    generalize off % 8 = k at *
    generalize cntI f = cf at *
    clear hs' hL2 hx hc
    go_wp2_with fail
    go_region
    have K := keep2 w1 g (8 + k * 2) (8 + k * 2 + 1) (.int .i64 v1) (.int .i64 v2)
    have HSZ : ((w1.setCell ⟨g, 8 + k * 2, none⟩ (.int .i64 v1)).setCell ⟨g, 8 + k * 2 + 1, none⟩ (.int .i64 v2)).heap.size = w1.heap.size := by simp only [World.size_setCell]
    have HFZ : ∀ a, ((w1.setCell ⟨g, 8 + k * 2, none⟩ (.int .i64 v1)).setCell ⟨g, 8 + k * 2 + 1, none⟩ (.int .i64 v2)).frozen? a = w1.frozen? a := fun a => by simp only [World.frozen?_setCell]
    replace d0 := (K _ _ g1).trans d0
    replace d1 := (K _ _ g1).trans d1
    replace d2 := (K _ _ g2).trans d2
    replace d3 := (K _ _ g2).trans d3
    replace d4 := (K _ _ g3).trans d4
    replace d5 := (K _ _ g3).trans d5
    replace c4 := (K _ _ hne).trans c4
    rw [← HFZ] at d6 d7 c5
    rw [← HSZ] at d8 d9 d10 hgw hrw'
    clear c1 c2 c6 c7 K HFZ HSH
    generalize (w1.setCell ⟨g, 8 + k * 2, none⟩ (.int .i64 v1)).setCell ⟨g, 8 + k * 2 + 1, none⟩ (.int .i64 v2) = w2 at *
    simp only [← HSZ]
    clear HSZ
    go_wp2_with fail
    refine set_ret (b := w.heap.size + 1) rfl rfl rfl (two_cells _ _ _ _ _ _ _ ((keep1 _ _ _ _ _ _ r2).trans d2) ((keep1 _ _ _ _ _ _ r2).trans d3) (by simp only [World.size_setCell]; exact d9)) ?_
    exact ⟨rfl, lb', ⟨g0, L1', L2', ((H1.out.many ((cf : Int) + 1)).box _ HBX.out _ _ _).count HCN.out⟩, HOX.out lb' HE.out, Chg.box (HC1.out.setCell (p := ⟨r, 1, none⟩) (fun _ => hr) _) _ (by omega) _ _ _⟩
  · go_enter Try.func33, Try.ntmps33
    go_wp2_with fail
    refine (HI.out _).mono ?_
    rintro e w' ⟨rfl, rfl⟩
    go_wp2_with fail
    refine HL.out.mono ?_
    rintro e w1 ⟨g, lb', L1', L2', rfl, hs', hL2, hx, hc⟩
    obtain ⟨c1, c2, c3, c4, c5, hne⟩ := hs'.cells ho hL2
    rw [HX.out] at c1 c2
    simp only at c1 c2
    have c6 := c3 (8 + off % 8 * 2)
    have c7 := c3 (8 + off % 8 * 2 + 1)
    clear c3
    have hlg : lb' g ≠ 0 := by rw [hs'.l2 _ (by omega) _ hL2]; omega
    have hlr : lb' r ≠ 0 := by rw [hs'.lr]; decide
    obtain ⟨d0, d1, d2, d3, d4, d5, d6, d7, d8, d9, d10⟩ := HOB.out w1 hc
    obtain ⟨g1, g2, g3⟩ := HOG.out lb' hx g hlg
    obtain ⟨r1, r2, r3⟩ := HOG.out lb' hx r hlr
    have hgw := hs'.dom g hlg
    have hrw' := hs'.dom r hlr
    have HSH := Lib.hid hs'
    have HL2 := Lib.hid hL2
    have HE := Lib.hid hx
    have HC := Lib.hid hc
    have HBX : Hid (lb' (w.heap.size + 1) = 0) := by
      rcases Nat.eq_zero_or_pos (lb' (w.heap.size + 1)) with h | h
      · exact h
      · exact absurd rfl (HOG.out lb' hx _ (by omega)).2.1
    have HCN : Hid ((cntI f : Int)  = (cntI (upd f off (v1, v2)) : Nat)) := by
      have := hcu.out
      rw [HX.out, if_neg HV.out, if_neg (fun e => by injection e with e1 e2; exact hx1 e1)] at this
      unfold Hid; omega
    have H1 := Lib.hid (HSH.out.setv ho HL2.out v1 v2)
    have HC1 := Lib.hid (((HOF.out w1 HC.out).setCell (p := ⟨g, 8 + off % 8 * 2, none⟩) (fun h => HG.out w1 lb' HE.out g h hlg) (.int .i64 v1)).setCell (p := ⟨g, 8 + off % 8 * 2 + 1, none⟩) (fun h => HG.out w1 lb' HE.out g h hlg) (.int .i64 v2))
    generalize off % 8 = k at *
    generalize cntI f = cf at *
    clear hs' hL2 hx hc
    go_wp2_with fail
    go_region
    have K := keep2 w1 g (8 + k * 2) (8 + k * 2 + 1) (.int .i64 v1) (.int .i64 v2)
    have HSZ : ((w1.setCell ⟨g, 8 + k * 2, none⟩ (.int .i64 v1)).setCell ⟨g, 8 + k * 2 + 1, none⟩ (.int .i64 v2)).heap.size = w1.heap.size := by simp only [World.size_setCell]
    have HFZ : ∀ a, ((w1.setCell ⟨g, 8 + k * 2, none⟩ (.int .i64 v1)).setCell ⟨g, 8 + k * 2 + 1, none⟩ (.int .i64 v2)).frozen? a = w1.frozen? a := fun a => by simp only [World.frozen?_setCell]
    replace d0 := (K _ _ g1).trans d0
    replace d1 := (K _ _ g1).trans d1
    replace d2 := (K _ _ g2).trans d2
    replace d3 := (K _ _ g2).trans d3
    replace d4 := (K _ _ g3).trans d4
    replace d5 := (K _ _ g3).trans d5
    replace c4 := (K _ _ hne).trans c4
    rw [← HFZ] at d6 d7 c5
    rw [← HSZ] at d8 d9 d10 hgw hrw'
    clear c1 c2 c6 c7 K HFZ HSH
    generalize (w1.setCell ⟨g, 8 + k * 2, none⟩ (.int .i64 v1)).setCell ⟨g, 8 + k * 2 + 1, none⟩ (.int .i64 v2) = w2 at *
    simp only [← HSZ]
    clear HSZ
    go_wp2_with fail
    refine set_ret (b := w.heap.size + 1) rfl rfl rfl (two_cells _ _ _ _ _ _ _ (((keep1 _ _ _ _ _ _ r2).trans (keep1 _ _ _ _ _ _ r2)).trans d2) (((keep1 _ _ _ _ _ _ r2).trans (keep1 _ _ _ _ _ _ r2)).trans d3) (by simp only [World.size_setCell]; exact d9)) ?_
    exact ⟨rfl, lb', ⟨g0, L1', L2', (((H1.out.many ((cf : Int) - 1)).many (cf : Int)).box _ HBX.out _ _ _).count HCN.out⟩, HOX.out lb' HE.out, Chg.box ((HC1.out.setCell (p := ⟨r, 1, none⟩) (fun _ => hr) _).setCell (p := ⟨r, 1, none⟩) (fun _ => hr) _) _ (by omega) _ _ _⟩
  · go_enter Try.func33, Try.ntmps33
    go_wp2_with fail
    refine (HI.out _).mono ?_
    rintro e w' ⟨rfl, rfl⟩
    go_wp2_with fail
    refine HL.out.mono ?_
    rintro e w1 ⟨g, lb', L1', L2', rfl, hs', hL2, hx, hc⟩
    obtain ⟨c1, c2, c3, c4, c5, hne⟩ := hs'.cells ho hL2
    rw [HX.out] at c1 c2
    simp only at c1 c2
    have c6 := c3 (8 + off % 8 * 2)
    have c7 := c3 (8 + off % 8 * 2 + 1)
    clear c3
    have hlg : lb' g ≠ 0 := by rw [hs'.l2 _ (by omega) _ hL2]; omega
    have hlr : lb' r ≠ 0 := by rw [hs'.lr]; decide
    obtain ⟨d0, d1, d2, d3, d4, d5, d6, d7, d8, d9, d10⟩ := HOB.out w1 hc
    obtain ⟨g1, g2, g3⟩ := HOG.out lb' hx g hlg
    obtain ⟨r1, r2, r3⟩ := HOG.out lb' hx r hlr
    have hgw := hs'.dom g hlg
    have hrw' := hs'.dom r hlr
    have HSH := Lib.hid hs'
    have HL2 := Lib.hid hL2
    have HE := Lib.hid hx
    have HC := Lib.hid hc
    have HBX : Hid (lb' (w.heap.size + 1) = 0) := by
      rcases Nat.eq_zero_or_pos (lb' (w.heap.size + 1)) with h | h
      · exact h
      · exact absurd rfl (HOG.out lb' hx _ (by omega)).2.1
    have HCN : Hid ((cntI f : Int)  = (cntI (upd f off (v1, v2)) : Nat)) := by
      have := hcu.out
      rw [HX.out, if_neg HV.out, if_neg (fun e => by injection e with e1 e2; exact hx2 e2)] at this
      unfold Hid; omega
    have H1 := Lib.hid (HSH.out.setv ho HL2.out v1 v2)
    have HC1 := Lib.hid (((HOF.out w1 HC.out).setCell (p := ⟨g, 8 + off % 8 * 2, none⟩) (fun h => HG.out w1 lb' HE.out g h hlg) (.int .i64 v1)).setCell (p := ⟨g, 8 + off % 8 * 2 + 1, none⟩) (fun h => HG.out w1 lb' HE.out g h hlg) (.int .i64 v2))
    generalize off % 8 = k at *
    generalize cntI f = cf at *
    clear hs' hL2 hx hc
    go_wp2_with fail
    go_region
    have K := keep2 w1 g (8 + k * 2) (8 + k * 2 + 1) (.int .i64 v1) (.int .i64 v2)
    have HSZ : ((w1.setCell ⟨g, 8 + k * 2, none⟩ (.int .i64 v1)).setCell ⟨g, 8 + k * 2 + 1, none⟩ (.int .i64 v2)).heap.size = w1.heap.size := by simp only [World.size_setCell]
    have HFZ : ∀ a, ((w1.setCell ⟨g, 8 + k * 2, none⟩ (.int .i64 v1)).setCell ⟨g, 8 + k * 2 + 1, none⟩ (.int .i64 v2)).frozen? a = w1.frozen? a := fun a => by simp only [World.frozen?_setCell]
    replace d0 := (K _ _ g1).trans d0
    replace d1 := (K _ _ g1).trans d1
    replace d2 := (K _ _ g2).trans d2
    replace d3 := (K _ _ g2).trans d3
    replace d4 := (K _ _ g3).trans d4
    replace d5 := (K _ _ g3).trans d5
    replace c4 := (K _ _ hne).trans c4
    rw [← HFZ] at d6 d7 c5
    rw [← HSZ] at d8 d9 d10 hgw hrw'
    clear c1 c2 c6 c7 K HFZ HSH
    generalize (w1.setCell ⟨g, 8 + k * 2, none⟩ (.int .i64 v1)).setCell ⟨g, 8 + k * 2 + 1, none⟩ (.int .i64 v2) = w2 at *
    simp only [← HSZ]
    clear HSZ
    go_wp2_with fail
    refine set_ret (b := w.heap.size + 1) rfl rfl rfl (two_cells _ _ _ _ _ _ _ (((keep1 _ _ _ _ _ _ r2).trans (keep1 _ _ _ _ _ _ r2)).trans d2) (((keep1 _ _ _ _ _ _ r2).trans (keep1 _ _ _ _ _ _ r2)).trans d3) (by simp only [World.size_setCell]; exact d9)) ?_
    exact ⟨rfl, lb', ⟨g0, L1', L2', (((H1.out.many ((cf : Int) - 1)).many (cf : Int)).box _ HBX.out _ _ _).count HCN.out⟩, HOX.out lb' HE.out, Chg.box ((HC1.out.setCell (p := ⟨r, 1, none⟩) (fun _ => hr) _).setCell (p := ⟨r, 1, none⟩) (fun _ => hr) _) _ (by omega) _ _ _⟩

set_option maxRecDepth 100000 in
set_option maxHeartbeats 4000000 in
/-- a value whose first number alone is 0 -/
theorem set_two (w : World) (r : Nat) (f : Nat → Int × Int) (lb : Nat → Nat) (h : TreeI w r f lb) (off : Nat) (ho : off < 512) (v2 : Int) (hv : v2 ≠ 0) :
    Calls Try.prog 33 #[.pointer (some ⟨r, 0, none⟩), .int .i64 off, sp (0, v2)] w fun e w' => e = .returned (.tuple #[sp (f off), .int .i64 0]) ∧ ∃ lb', TreeI w' r (upd f off (0, v2)) lb' ∧ Ext w lb lb' ∧ Chg (Of lb) w w' := by
  obtain ⟨g0, L1, L2, hs⟩ := h
  have hs3 := ShapeI.below hs (own3_below w 0 v2)
  have HL := Lib.hid (leaf_grow hs3 off ho)
  have HI := Lib.hid (fun W => isOff_yes off W (by omega) (by omega))
  have e1 : (off : Int) % 8 = ((off % 8 : Nat) : Int) := by omega
  have hk : off % 8 < 8 := by omega
  have hcu := Lib.hid (cntI_upd f off (0, v2) ho)
  have hle := cntI_le f
  have hr : lb r ≠ 0 := by rw [hs.lr]; decide
  have hrw := hs.dom r hr
  have HOB := Lib.hid (fun w1 hc => own3_cells w 0 v2 lb w1 hs.dom hc)
  have HOG := Lib.hid (fun lb' hx g hg => own3_apart w 0 v2 lb lb' hs.dom hx g hg)
  have HOF := Lib.hid (fun w1 hc => own3_chg w 0 v2 lb w1 hc)
  have HOX := Lib.hid (fun lb' hx => own3_ext w 0 v2 lb lb' hx)
  have HG : Hid (∀ (w1 : World) (lb' : Nat → Nat), Ext (own3 w 0 v2) lb lb' → ∀ g, g < w.heap.size → lb' g ≠ 0 → lb g ≠ 0) := fun w1 lb' hx g hlt hg => (hx.1 g hg).elim id (fun h => by have := (own3_below w 0 v2).size; omega)
  have HPOS := Lib.hid (fun hw => cntI_pos f off ho hw)
  obtain ⟨x, hx⟩ : ∃ x, f off = x := ⟨_, rfl⟩
  have HX := Lib.hid hx
  rw [hx]
  obtain ⟨x1, x2⟩ := x
  have HV : Hid (((0, v2) : Int × Int) ≠ (0, 0)) := fun e => by injection e with e1 e2; exact hv (by assumption)
  have hxc : (x1 = 0 ∧ x2 = 0) ∨ x1 ≠ 0 ∨ (x1 = 0 ∧ x2 ≠ 0) := by omega
  clear hs hs3 hx
  unfold sp
  rcases hxc with ⟨rfl, rfl⟩ | hx1 | ⟨rfl, hx2⟩
  · go_enter Try.func33, Try.ntmps33
    go_wp2_with fail
    refine (HI.out _).mono ?_
    rintro e w' ⟨rfl, rfl⟩
    go_wp2_with fail
    refine HL.out.mono ?_
    rintro e w1 ⟨g, lb', L1', L2', rfl, hs', hL2, hx, hc⟩
    obtain ⟨c1, c2, c3, c4, c5, hne⟩ := hs'.cells ho hL2
    rw [HX.out] at c1 c2
    simp only at c1 c2
    have c6 := c3 (8 + off % 8 * 2)
    have c7 := c3 (8 + off % 8 * 2 + 1)
    clear c3
    have hlg : lb' g ≠ 0 := by rw [hs'.l2 _ (by omega) _ hL2]; omega
    have hlr : lb' r ≠ 0 := by rw [hs'.lr]; decide
    obtain ⟨d0, d1, d2, d3, d4, d5, d6, d7, d8, d9, d10⟩ := HOB.out w1 hc
    obtain ⟨g1, g2, g3⟩ := HOG.out lb' hx g hlg
    obtain ⟨r1, r2, r3⟩ := HOG.out lb' hx r hlr
    have hgw := hs'.dom g hlg
    have hrw' := hs'.dom r hlr
    have HSH := Lib.hid hs'
    have HL2 := Lib.hid hL2
    have HE := Lib.hid hx
    have HC := Lib.hid hc
    have HBX : Hid (lb' (w.heap.size + 1) = 0) := by
      rcases Nat.eq_zero_or_pos (lb' (w.heap.size + 1)) with h | h
      · exact h
      · exact absurd rfl (HOG.out lb' hx _ (by omega)).2.1
    have HCN : Hid ((cntI f : Int) + 1 = (cntI (upd f off (0, v2)) : Nat)) := by
      have := hcu.out
      rw [HX.out, if_neg HV.out, if_pos rfl] at this
      unfold Hid; omega
    have H1 := Lib.hid (HSH.out.setv ho HL2.out 0 v2)
    have HC1 := Lib.hid (((HOF.out w1 HC.out).setCell (p := ⟨g, 8 + off % 8 * 2, none⟩) (fun h => HG.out w1 lb' HE.out g h hlg) (.int .i64 0)).setCell (p := ⟨g, 8 + off % 8 * 2 + 1, none⟩) (fun h => HG.out w1 lb' HE.out g h hlg) (.int .i64 v2))
    generalize off % 8 = k at *
    generalize cntI f = cf at *
    clear hs' hL2 hx hc
    go_wp2_with fail
    go_region
    have K := keep2 w1 g (8 + k * 2) (8 + k * 2 + 1) (.int .i64 0) (.int .i64 v2)
    have HSZ : ((w1.setCell ⟨g, 8 + k * 2, none⟩ (.int .i64 0)).setCell ⟨g, 8 + k * 2 + 1, none⟩ (.int .i64 v2)).heap.size = w1.heap.size := by simp only [World.size_setCell]
    have HFZ : ∀ a, ((w1.setCell ⟨g, 8 + k * 2, none⟩ (.int .i64 0)).setCell ⟨g, 8 + k * 2 + 1, none⟩ (.int .i64 v2)).frozen? a = w1.frozen? a := fun a => by simp only [World.frozen?_setCell]
    replace d0 := (K _ _ g1).trans d0
    replace d1 := (K _ _ g1).trans d1
    replace d2 := (K _ _ g2).trans d2
    replace d3 := (K _ _ g2).trans d3
    replace d4 := (K _ _ g3).trans d4
    replace d5 := (K _ _ g3).trans d5
    replace c4 := (K _ _ hne).trans c4
    rw [← HFZ] at d6 d7 c5
    rw [← HSZ] at d8 d9 d10 hgw hrw'
    clear c1 c2 c6 c7 K HFZ HSH
    generalize (w1.setCell ⟨g, 8 + k * 2, none⟩ (.int .i64 0)).setCell ⟨g, 8 + k * 2 + 1, none⟩ (.int .i64 v2) = w2 at *
    simp only [← HSZ]
    clear HSZ
    go_wp2_with fail
    refine set_ret (b := w.heap.size + 1) rfl rfl rfl (two_cells _ _ _ _ _ _ _ ((keep1 _ _ _ _ _ _ r2).trans d2) ((keep1 _ _ _ _ _ _ r2).trans d3) (by simp only [World.size_setCell]; exact d9)) ?_
    exact ⟨rfl, lb', ⟨g0, L1', L2', ((H1.out.many ((cf : Int) + 1)).box _ HBX.out _ _ _).count HCN.out⟩, HOX.out lb' HE.out, Chg.box (HC1.out.setCell (p := ⟨r, 1, none⟩) (fun _ => hr) _) _ (by omega) _ _ _⟩
  · go_enter Try.func33, Try.ntmps33
    go_wp2_with fail
    refine (HI.out _).mono ?_
    rintro e w' ⟨rfl, rfl⟩
    go_wp2_with fail
    refine HL.out.mono ?_
    rintro e w1 ⟨g, lb', L1', L2', rfl, hs', hL2, hx, hc⟩
    obtain ⟨c1, c2, c3, c4, c5, hne⟩ := hs'.cells ho hL2
    rw [HX.out] at c1 c2
    simp only at c1 c2
    have c6 := c3 (8 + off % 8 * 2)
    have c7 := c3 (8 + off % 8 * 2 + 1)
    clear c3
    have hlg : lb' g ≠ 0 := by rw [hs'.l2 _ (by omega) _ hL2]; omega
    have hlr : lb' r ≠ 0 := by rw [hs'.lr]; decide
    obtain ⟨d0, d1, d2, d3, d4, d5, d6, d7, d8, d9, d10⟩ := HOB.out w1 hc
    obtain ⟨g1, g2, g3⟩ := HOG.out lb' hx g hlg
    obtain ⟨r1, r2, r3⟩ := HOG.out lb' hx r hlr
    have hgw := hs'.dom g hlg
    have hrw' := hs'.dom r hlr
    have HSH := Lib.hid hs'
    have HL2 := Lib.hid hL2
    have HE := Lib.hid hx
    have HC := Lib.hid hc
    have HBX : Hid (lb' (w.heap.size + 1) = 0) := by
      rcases Nat.eq_zero_or_pos (lb' (w.heap.size + 1)) with h | h
      · exact h
      · exact absurd rfl (HOG.out lb' hx _ (by omega)).2.1
    have HCN : Hid ((cntI f : Int)  = (cntI (upd f off (0, v2)) : Nat)) := by
      have := hcu.out
      rw [HX.out, if_neg HV.out, if_neg (fun e => by injection e with e1 e2; exact hx1 e1)] at this
      unfold Hid; omega
    have H1 := Lib.hid (HSH.out.setv ho HL2.out 0 v2)
    have HC1 := Lib.hid (((HOF.out w1 HC.out).setCell (p := ⟨g, 8 + off % 8 * 2, none⟩) (fun h => HG.out w1 lb' HE.out g h hlg) (.int .i64 0)).setCell (p := ⟨g, 8 + off % 8 * 2 + 1, none⟩) (fun h => HG.out w1 lb' HE.out g h hlg) (.int .i64 v2))
    generalize off % 8 = k at *
    generalize cntI f = cf at *
    clear hs' hL2 hx hc
    go_wp2_with fail
    go_region
    have K := keep2 w1 g (8 + k * 2) (8 + k * 2 + 1) (.int .i64 0) (.int .i64 v2)
    have HSZ : ((w1.setCell ⟨g, 8 + k * 2, none⟩ (.int .i64 0)).setCell ⟨g, 8 + k * 2 + 1, none⟩ (.int .i64 v2)).heap.size = w1.heap.size := by simp only [World.size_setCell]
    have HFZ : ∀ a, ((w1.setCell ⟨g, 8 + k * 2, none⟩ (.int .i64 0)).setCell ⟨g, 8 + k * 2 + 1, none⟩ (.int .i64 v2)).frozen? a = w1.frozen? a := fun a => by simp only [World.frozen?_setCell]
    replace d0 := (K _ _ g1).trans d0
    replace d1 := (K _ _ g1).trans d1
    replace d2 := (K _ _ g2).trans d2
    replace d3 := (K _ _ g2).trans d3
    replace d4 := (K _ _ g3).trans d4
    replace d5 := (K _ _ g3).trans d5
    replace c4 := (K _ _ hne).trans c4
    rw [← HFZ] at d6 d7 c5
    rw [← HSZ] at d8 d9 d10 hgw hrw'
    clear c1 c2 c6 c7 K HFZ HSH
    generalize (w1.setCell ⟨g, 8 + k * 2, none⟩ (.int .i64 0)).setCell ⟨g, 8 + k * 2 + 1, none⟩ (.int .i64 v2) = w2 at *
    simp only [← HSZ]
    clear HSZ
    go_wp2_with fail
    refine set_ret (b := w.heap.size + 1) rfl rfl rfl (two_cells _ _ _ _ _ _ _ (((keep1 _ _ _ _ _ _ r2).trans (keep1 _ _ _ _ _ _ r2)).trans d2) (((keep1 _ _ _ _ _ _ r2).trans (keep1 _ _ _ _ _ _ r2)).trans d3) (by simp only [World.size_setCell]; exact d9)) ?_
    exact ⟨rfl, lb', ⟨g0, L1', L2', (((H1.out.many ((cf : Int) - 1)).many (cf : Int)).box _ HBX.out _ _ _).count HCN.out⟩, HOX.out lb' HE.out, Chg.box ((HC1.out.setCell (p := ⟨r, 1, none⟩) (fun _ => hr) _).setCell (p := ⟨r, 1, none⟩) (fun _ => hr) _) _ (by omega) _ _ _⟩
  · go_enter Try.func33, Try.ntmps33
    go_wp2_with fail
    refine (HI.out _).mono ?_
    rintro e w' ⟨rfl, rfl⟩
    go_wp2_with fail
    refine HL.out.mono ?_
    rintro e w1 ⟨g, lb', L1', L2', rfl, hs', hL2, hx, hc⟩
    obtain ⟨c1, c2, c3, c4, c5, hne⟩ := hs'.cells ho hL2
    rw [HX.out] at c1 c2
    simp only at c1 c2
    have c6 := c3 (8 + off % 8 * 2)
    have c7 := c3 (8 + off % 8 * 2 + 1)
    clear c3
    have hlg : lb' g ≠ 0 := by rw [hs'.l2 _ (by omega) _ hL2]; omega
    have hlr : lb' r ≠ 0 := by rw [hs'.lr]; decide
    obtain ⟨d0, d1, d2, d3, d4, d5, d6, d7, d8, d9, d10⟩ := HOB.out w1 hc
    obtain ⟨g1, g2, g3⟩ := HOG.out lb' hx g hlg
    obtain ⟨r1, r2, r3⟩ := HOG.out lb' hx r hlr
    have hgw := hs'.dom g hlg
    have hrw' := hs'.dom r hlr
    have HSH := Lib.hid hs'
    have HL2 := Lib.hid hL2
    have HE := Lib.hid hx
    have HC := Lib.hid hc
    have HBX : Hid (lb' (w.heap.size + 1) = 0) := by
      rcases Nat.eq_zero_or_pos (lb' (w.heap.size + 1)) with h | h
      · exact h
      · exact absurd rfl (HOG.out lb' hx _ (by omega)).2.1
    have HCN : Hid ((cntI f : Int)  = (cntI (upd f off (0, v2)) : Nat)) := by
      have := hcu.out
      rw [HX.out, if_neg HV.out, if_neg (fun e => by injection e with e1 e2; exact hx2 e2)] at this
      unfold Hid; omega
    have H1 := Lib.hid (HSH.out.setv ho HL2.out 0 v2)
    have HC1 := Lib.hid (((HOF.out w1 HC.out).setCell (p := ⟨g, 8 + off % 8 * 2, none⟩) (fun h => HG.out w1 lb' HE.out g h hlg) (.int .i64 0)).setCell (p := ⟨g, 8 + off % 8 * 2 + 1, none⟩) (fun h => HG.out w1 lb' HE.out g h hlg) (.int .i64 v2))
    generalize off % 8 = k at *
    generalize cntI f = cf at *
    clear hs' hL2 hx hc
    go_wp2_with fail
    go_region
    have K := keep2 w1 g (8 + k * 2) (8 + k * 2 + 1) (.int .i64 0) (.int .i64 v2)
    have HSZ : ((w1.setCell ⟨g, 8 + k * 2, none⟩ (.int .i64 0)).setCell ⟨g, 8 + k * 2 + 1, none⟩ (.int .i64 v2)).heap.size = w1.heap.size := by simp only [World.size_setCell]
    have HFZ : ∀ a, ((w1.setCell ⟨g, 8 + k * 2, none⟩ (.int .i64 0)).setCell ⟨g, 8 + k * 2 + 1, none⟩ (.int .i64 v2)).frozen? a = w1.frozen? a := fun a => by simp only [World.frozen?_setCell]
    replace d0 := (K _ _ g1).trans d0
    replace d1 := (K _ _ g1).trans d1
    replace d2 := (K _ _ g2).trans d2
    replace d3 := (K _ _ g2).trans d3
    replace d4 := (K _ _ g3).trans d4
    replace d5 := (K _ _ g3).trans d5
    replace c4 := (K _ _ hne).trans c4
    rw [← HFZ] at d6 d7 c5
    rw [← HSZ] at d8 d9 d10 hgw hrw'
    clear c1 c2 c6 c7 K HFZ HSH
    generalize (w1.setCell ⟨g, 8 + k * 2, none⟩ (.int .i64 0)).setCell ⟨g, 8 + k * 2 + 1, none⟩ (.int .i64 v2) = w2 at *
    simp only [← HSZ]
    clear HSZ
    go_wp2_with fail
    refine set_ret (b := w.heap.size + 1) rfl rfl rfl (two_cells _ _ _ _ _ _ _ (((keep1 _ _ _ _ _ _ r2).trans (keep1 _ _ _ _ _ _ r2)).trans d2) (((keep1 _ _ _ _ _ _ r2).trans (keep1 _ _ _ _ _ _ r2)).trans d3) (by simp only [World.size_setCell]; exact d9)) ?_
    exact ⟨rfl, lb', ⟨g0, L1', L2', (((H1.out.many ((cf : Int) - 1)).many (cf : Int)).box _ HBX.out _ _ _).count HCN.out⟩, HOX.out lb' HE.out, Chg.box ((HC1.out.setCell (p := ⟨r, 1, none⟩) (fun _ => hr) _).setCell (p := ⟨r, 1, none⟩) (fun _ => hr) _) _ (by omega) _ _ _⟩

/-- Set of an offset -/
theorem set_any (w : World) (r : Nat) (f : Nat → Int × Int) (lb : Nat → Nat) (h : TreeI w r f lb) (off : Nat) (ho : off < 512) (v : Int × Int) :
    Calls Try.prog 33 #[.pointer (some ⟨r, 0, none⟩), .int .i64 off, sp v] w fun e w' => e = .returned (.tuple #[sp (f off), .int .i64 0]) ∧ ∃ lb', TreeI w' r (upd f off v) lb' ∧ Ext w lb lb' ∧ Chg (Of lb) w w' := by
  obtain ⟨v1, v2⟩ := v
  by_cases h1 : v1 = 0
  · subst h1
    by_cases h2 : v2 = 0
    · subst h2
      exact (set_zero w r f lb h off ho).mono fun _ _ ⟨he, ht, hc⟩ => ⟨he, lb, ht, Ext.refl _ _, hc⟩
    · exact set_two w r f lb h off ho v2 h2
  · exact set_one w r f lb h off ho v1 v2 h1
end Go.Proofs.Ytfljnfmocmhhdaa.Spn
