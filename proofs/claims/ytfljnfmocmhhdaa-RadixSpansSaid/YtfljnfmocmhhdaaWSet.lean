/-
Set of a tree of ints.
-/
import Derived.Test.YtfljnfmocmhhdaaGrown
namespace Go.Proofs.Ytfljnfmocmhhdaa
open Go.RowKit

section
variable {w : World} {r : Nat} {c : Int} {f : Nat → Int} {lb : Nat → Nat} {g0 : Nat} {L1 L2 : Nat → Option Nat}
theorem ShapeC.setv (h : ShapeC w r c f lb g0 L1 L2) {off g : Nat} (ho : off < 512) (hg : L2 (off / 8) = some g) (v : Int) : ShapeC (w.setCell ⟨g, 8 + off % 8, none⟩ (.int .i64 v)) r c (upd f off v) lb g0 L1 L2 := by
  have hlg := h.l2 _ (by omega) _ hg
  have ne : ∀ b, lb b ≠ lb g → b ≠ g := fun b hb e => hb (by rw [e])
  refine ⟨?_, h.root.far _ _ (ne _ (by rw [h.lg, hlg]; omega)), fun k hk g' hg' => (h.mid k hk g' hg').far _ _ (ne _ (by rw [h.l1 k hk g' hg', hlg]; omega)), fun j hj g' hg' => ?_, fun j hj hn i hi => ?_, h.par, h.lr, h.lg, h.l1, h.l2, fun b hb => ?_⟩
  · exact (heap_setCell_other w _ r _ (ne _ (by rw [h.lr, hlg]; omega))).trans h.hdr
  · by_cases e : j = off / 8
    · subst e
      rw [hg] at hg'
      obtain rfl := Option.some.inj hg'
      refine ((h.leaf _ hj _ hg).setval (off % 8) (by omega) v).congr (fun _ _ => rfl) (fun i hi => ?_)
      by_cases ei : i = off % 8
      · rw [ei, upd_same, show 8 * (off / 8) + off % 8 = off by omega, upd_same]
      · rw [upd_other _ _ ei, upd_other _ _ (by omega)]
    · refine ((h.leaf j hj g' hg').far _ _ (ne _ (by rw [h.l2 j hj g' hg', hlg]; omega))).congr (fun _ _ => rfl) (fun i hi => ?_)
      rw [upd_other _ _ (by omega)]
  · have hj2 : j ≠ off / 8 := fun e => by subst e; rw [hg] at hn; cases hn
    rw [upd_other _ _ (by omega)]; exact h.hole j hj hn i hi
  · exact (h.cel b hb).setCell _ _ _
theorem ShapeC.many (h : ShapeC w r c f lb g0 L1 L2) (c' : Int) : ShapeC (w.setCell ⟨r, 1, none⟩ (.int .i64 c')) r c' f lb g0 L1 L2 := by
  have ne : ∀ b, lb b ≠ lb r → b ≠ r := fun b hb e => hb (by rw [e])
  refine ⟨?_, h.root.far _ _ (ne _ (by rw [h.lg, h.lr]; omega)), fun k hk g hg => (h.mid k hk g hg).far _ _ (ne _ (by rw [h.l1 k hk g hg, h.lr]; omega)), fun j hj g hg => (h.leaf j hj g hg).far _ _ (ne _ (by rw [h.l2 j hj g hg, h.lr]; omega)), h.hole, h.par, h.lr, h.lg, h.l1, h.l2, fun b hb => ?_⟩
  · exact heap_setCell_same w r 1 _ _ _ h.hdr
  · exact (h.cel b hb).setCell _ _ _
theorem ShapeC.count (h : ShapeC w r c f lb g0 L1 L2) (e : c = (cntI f : Nat)) : ShapeI w r f lb g0 L1 L2 := by subst e; exact h
theorem ShapeC.cells (h : ShapeC w r c f lb g0 L1 L2) {off g : Nat} (ho : off < 512) (hg : L2 (off / 8) = some g) :
    w.cell? ⟨g, 8 + off % 8, none⟩ = some (.int .i64 (f off)) ∧ w.frozen? ⟨g, 8 + off % 8, none⟩ = false ∧ w.cell? ⟨r, 1, none⟩ = some (.int .i64 c) ∧ w.frozen? ⟨r, 1, none⟩ = false ∧ r ≠ g := by
  have hl := h.leaf _ (by omega) _ hg
  have hv := hl.val (off % 8) (by omega)
  rw [show 8 * (off / 8) + off % 8 = off by omega] at hv
  refine ⟨hv, hl.free _, by rw [cell_of_row w _ _ _ _ _ h.hdr]; rfl, frozen_of_row w r 1 _ _ h.hdr, fun e => ?_⟩
  have h1 := h.lr
  rw [e, h.l2 _ (by omega) _ hg] at h1
  omega
end

theorem set_out (w : World) (r : Nat) (off v : Int) (h : off < 0 ∨ 512 ≤ off) :
    Calls Try.prog 21 #[.pointer (some ⟨r, 0, none⟩), .int .i64 off, .int .i64 v] w fun e w' => e = .returned (.tuple #[.int .i64 0, .int .i64 70]) ∧ w = w' := by
  have HI := Lib.hid (isOff_no off w h)
  clear h
  go_enter Try.func21, Try.ntmps21
  go_wp2_with fail
  refine HI.out.mono ?_
  rintro e w' ⟨rfl, rfl⟩
  go_wp2_with fail
  go_ret2
  exact ⟨rfl, rfl⟩

set_option maxHeartbeats 2000000 in
/-- a value that is none -/
theorem set_zero (w : World) (r : Nat) (f : Nat → Int) (lb : Nat → Nat) (h : TreeI w r f lb) (off : Nat) (ho : off < 512) :
    Calls Try.prog 21 #[.pointer (some ⟨r, 0, none⟩), .int .i64 off, .int .i64 0] w fun e w' => e = .returned (.tuple #[.int .i64 (f off), .int .i64 0]) ∧ TreeI w' r (upd f off 0) lb ∧ Chg (Of lb) w w' := by
  obtain ⟨g0, L1, L2, hs⟩ := h
  have HL := Lib.hid (leaf_find w r f lb g0 L1 L2 hs off ho)
  have HI := Lib.hid (isOff_yes off w (by omega) (by omega))
  have e1 : (off : Int) % 8 = ((off % 8 : Nat) : Int) := by omega
  have hk : off % 8 < 8 := by omega
  have hcu := cntI_upd f off 0 ho
  rw [if_pos rfl] at hcu
  rcases hL2 : L2 (off / 8) with _ | g
  · have hz := hs.hole (off / 8) (by omega) hL2 (off % 8) hk
    rw [show 8 * (off / 8) + off % 8 = off by omega] at hz
    have hf : upd f off 0 = f := by funext i; by_cases e : i = off
                                    · rw [e, upd_same, hz]
                                    · exact upd_other _ _ e
    rw [hz, hf]
    rw [hL2, opt_none] at HL
    have HS := Lib.hid (⟨g0, L1, L2, hs⟩ : TreeI w r f lb)
    clear hs hz hL2 hf hcu
    go_enter Try.func21, Try.ntmps21
    go_wp2_with fail
    refine HI.out.mono ?_
    rintro e w' ⟨rfl, rfl⟩
    go_wp2_with fail
    refine HL.out.mono ?_
    rintro e w' ⟨rfl, rfl⟩
    go_wp2_with fail
    go_ret2
    exact ⟨rfl, HS.out, Chg.refl _ _⟩
  · obtain ⟨c1, c2, c3, c4, hne⟩ := hs.cells ho hL2
    rw [hL2, opt_some] at HL
    have hg : lb g ≠ 0 := by rw [hs.l2 _ (by omega) _ hL2]; omega
    have hr : lb r ≠ 0 := by rw [hs.lr]; decide
    have H1 := Lib.hid (hs.setv ho hL2 0)
    have HC := Lib.hid (((Chg.refl (Of lb) w).setCell (p := ⟨g, 8 + off % 8, none⟩) (fun _ => hg) (.int .i64 0)))
    by_cases hw : f off = 0
    · rw [hw] at c1 hcu
      rw [if_pos rfl] at hcu
      have HE : Hid ((cntI f : Int) = (cntI (upd f off 0) : Nat)) := by unfold Hid; omega
      rw [hw]
      generalize off % 8 = k at *
      clear hs hL2 hcu
      go_enter Try.func21, Try.ntmps21
      go_wp2_with fail
      refine HI.out.mono ?_
      rintro e w' ⟨rfl, rfl⟩
      go_wp2_with fail
      refine HL.out.mono ?_
      rintro e w' ⟨rfl, rfl⟩
      go_wp2_with fail
      go_ret2
      exact ⟨rfl, ⟨g0, L1, L2, H1.out.count HE.out⟩, HC.out⟩
    · rw [if_neg hw] at hcu
      have hpos := cntI_pos f off ho hw
      have hle := cntI_le f
      have hb : (f off != 0) = true := by simpa using hw
      have HE : Hid ((cntI f : Int) - 1 = (cntI (upd f off 0) : Nat)) := by unfold Hid; omega
      have H2 := Lib.hid (H1.out.many ((cntI f : Int) - 1))
      have HC2 := Lib.hid (HC.out.setCell (p := ⟨r, 1, none⟩) (fun _ => hr) (.int .i64 ((cntI f : Int) - 1)))
      generalize off % 8 = k at *
      generalize cntI f = cf at *
      clear hs hL2 hcu
      go_enter Try.func21, Try.ntmps21
      go_wp2_with fail
      refine HI.out.mono ?_
      rintro e w' ⟨rfl, rfl⟩
      go_wp2_with fail
      refine HL.out.mono ?_
      rintro e w' ⟨rfl, rfl⟩
      go_wp2_with fail
      go_ret2
      exact ⟨rfl, ⟨g0, L1, L2, H2.out.count HE.out⟩, HC2.out⟩

set_option maxHeartbeats 2000000 in
/-- a value that is one -/
theorem set_some (w : World) (r : Nat) (f : Nat → Int) (lb : Nat → Nat) (h : TreeI w r f lb) (off : Nat) (ho : off < 512) (v : Int) (hv : v ≠ 0) :
    Calls Try.prog 21 #[.pointer (some ⟨r, 0, none⟩), .int .i64 off, .int .i64 v] w fun e w' => e = .returned (.tuple #[.int .i64 (f off), .int .i64 0]) ∧ ∃ lb', TreeI w' r (upd f off v) lb' ∧ Ext w lb lb' ∧ Chg (Of lb) w w' := by
  obtain ⟨g0, L1, L2, hs⟩ := h
  have HL := Lib.hid (leaf_grow hs off ho)
  have HI := Lib.hid (isOff_yes off w (by omega) (by omega))
  have e1 : (off : Int) % 8 = ((off % 8 : Nat) : Int) := by omega
  have hk : off % 8 < 8 := by omega
  have hcu := Lib.hid (cntI_upd f off v ho)
  have hvb : (v != 0) = true := by simpa using hv
  have HV := Lib.hid hv
  have hle := cntI_le f
  have HSZ := Lib.hid hs.dom
  have hr : lb r ≠ 0 := by rw [hs.lr]; decide
  have HB : Hid (∀ (w1 : World) (g : Nat) (lb' : Nat → Nat), Ext w lb lb' → Chg (Of lb) w w1 → lb' g ≠ 0 → ∀ (x y : Value) (o : Nat), Chg (Of lb) w ((w1.setCell ⟨g, o, none⟩ x).setCell ⟨r, 1, none⟩ y)) := fun w1 g lb' hx hc hg x y o =>
    (hc.setCell (p := ⟨g, o, none⟩) (fun hl => (hx.1 g hg).elim id (fun e => by simp at hl; omega)) x).setCell (p := ⟨r, 1, none⟩) (fun _ => hr) y
  by_cases hw : f off = 0
  · have hwb : (f off != 0) = false := by simp [hw]
    have HE : Hid ((cntI f : Int) + 1 = (cntI (upd f off v) : Nat)) := by
      have := hcu.out
      rw [if_pos hw, if_neg HV.out] at this
      unfold Hid; omega
    have HW := Lib.hid hw
    clear hs hw hcu hv
    go_enter Try.func21, Try.ntmps21
    go_wp2_with fail
    refine HI.out.mono ?_
    rintro e w' ⟨rfl, rfl⟩
    go_wp2_with fail
    refine HL.out.mono ?_
    rintro e w1 ⟨g, lb', L1', L2', rfl, hs', hL2, hx, hc⟩
    obtain ⟨c1, c2, c3, c4, hne⟩ := hs'.cells ho hL2
    have H2 := Lib.hid ((hs'.setv ho hL2 v).many ((cntI f : Int) + 1))
    have HC := Lib.hid (HB.out w1 g lb' hx hc (by rw [hs'.l2 _ (by omega) _ hL2]; omega) (.int .i64 v) (.int .i64 ((cntI f : Int) + 1)) (8 + off % 8))
    have HX := Lib.hid hx
    generalize off % 8 = k at *
    generalize cntI f = cf at *
    clear hs' hL2 hx hc
    go_wp2_with fail
    go_ret2
    exact ⟨rfl, lb', ⟨g0, L1', L2', H2.out.count HE.out⟩, HX.out, HC.out⟩
  · have hwb : (f off != 0) = true := by simpa using hw
    have HE : Hid ((cntI f : Int) = (cntI (upd f off v) : Nat)) := by
      have := hcu.out
      rw [if_neg hw, if_neg HV.out] at this
      unfold Hid; omega
    have hpos := cntI_pos f off ho hw
    have HW := Lib.hid hw
    clear hs hw hcu hv
    go_enter Try.func21, Try.ntmps21
    go_wp2_with fail
    refine HI.out.mono ?_
    rintro e w' ⟨rfl, rfl⟩
    go_wp2_with fail
    refine HL.out.mono ?_
    rintro e w1 ⟨g, lb', L1', L2', rfl, hs', hL2, hx, hc⟩
    obtain ⟨c1, c2, c3, c4, hne⟩ := hs'.cells ho hL2
    have H2 := Lib.hid (((hs'.setv ho hL2 v).many ((cntI f : Int) - 1)).many (cntI f : Int))
    have HC := Lib.hid ((HB.out w1 g lb' hx hc (by rw [hs'.l2 _ (by omega) _ hL2]; omega) (.int .i64 v) (.int .i64 ((cntI f : Int) - 1)) (8 + off % 8)).setCell (p := ⟨r, 1, none⟩) (fun _ => hr) (.int .i64 (cntI f : Int)))
    have HX := Lib.hid hx
    generalize off % 8 = k at *
    generalize cntI f = cf at *
    clear hs' hL2 hx hc
    go_wp2_with fail
    go_ret2
    exact ⟨rfl, lb', ⟨g0, L1', L2', H2.out.count HE.out⟩, HX.out, HC.out⟩

/-- Set of an offset -/
theorem set_any (w : World) (r : Nat) (f : Nat → Int) (lb : Nat → Nat) (h : TreeI w r f lb) (off : Nat) (ho : off < 512) (v : Int) :
    Calls Try.prog 21 #[.pointer (some ⟨r, 0, none⟩), .int .i64 off, .int .i64 v] w fun e w' => e = .returned (.tuple #[.int .i64 (f off), .int .i64 0]) ∧ ∃ lb', TreeI w' r (upd f off v) lb' ∧ Ext w lb lb' ∧ Chg (Of lb) w w' := by
  by_cases hv : v = 0
  · subst hv
    exact (set_zero w r f lb h off ho).mono fun _ _ ⟨he, ht, hc⟩ => ⟨he, lb, ht, Ext.refl _ _, hc⟩
  · exact set_some w r f lb h off ho v hv

end Go.Proofs.Ytfljnfmocmhhdaa
