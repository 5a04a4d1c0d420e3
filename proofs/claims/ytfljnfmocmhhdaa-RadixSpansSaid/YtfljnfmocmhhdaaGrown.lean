/-
What a leaf more makes of a tree (plain).
-/
import Derived.Test.YtfljnfmocmhhdaaWGrow
namespace Go.Proofs.Ytfljnfmocmhhdaa
open Go.RowKit

section
variable {w : World} {r : Nat} {c : Int} {f : Nat → Int} {lb : Nat → Nat} {g0 : Nat} {L1 L2 : Nat → Option Nat}

theorem ShapeC.one (h : ShapeC w r c f lb g0 L1 L2) {j : Nat} (hj : j < 64) {g1 : Nat} (h1 : L1 (j / 8) = some g1) (h2 : L2 j = none) :
    ShapeC (more w g1 (j % 8)) r c f (upd lb w.heap.size (11 + j)) g0 L1 (upd L2 j (some w.heap.size)) := by
  have hk : j / 8 < 8 := by omega
  have hlg := h.l1 _ hk _ h1
  have hc := more_chg w g1 (j % 8)
  have hz := more_size w g1 (j % 8)
  have hm := h.mid _ hk _ h1
  have hdom : ∀ b, lb b ≠ 0 → b ≠ w.heap.size := fun b hb e => by have := h.dom b hb; omega
  have hlb : ∀ b, lb b ≠ 0 → upd lb w.heap.size (11 + j) b = lb b := fun b hb => upd_other _ _ (hdom b hb)
  refine ⟨hc.heap h.hdr (fun e => ?_), h.root.chg hc (fun e => ?_), fun k hk' g hg => ?_, fun i hi g hg => ?_, fun i hi hn q hq => ?_, fun i hi hn => ?_, ?_, ?_, fun k hk' g hg => ?_, fun i hi g hg => ?_, fun b hb => ?_⟩
  · have := h.lr; rw [e, hlg] at this; omega
  · have := h.lg; rw [e, hlg] at this; omega
  · have hlg' := h.l1 k hk' g hg
    by_cases e : k = j / 8
    · subst e
      rw [h1] at hg
      obtain rfl := Option.some.inj hg
      refine (more_at hm (j % 8) (by omega)).congr (fun i hi => ?_) (fun _ _ => rfl)
      by_cases ei : i = j % 8
      · rw [ei, upd_same, show 8 * (j / 8) + j % 8 = j by omega, upd_same]
      · rw [upd_other _ _ ei, upd_other _ _ (by omega)]
    · refine ((h.mid k hk' g hg).chg hc (fun e' => ?_)).congr (fun i hi => ?_) (fun _ _ => rfl)
      · rw [e', hlg] at hlg'; omega
      · rw [upd_other _ _ (by omega)]
  · by_cases e : i = j
    · subst e
      rw [upd_same] at hg
      obtain rfl := Option.some.inj hg
      exact (more_new w g1 (i % 8)).congr (fun _ _ => rfl) (fun q hq => (h.hole i hi h2 q hq).symm)
    · rw [upd_other _ _ e] at hg
      have := h.l2 i hi g hg
      exact (h.leaf i hi g hg).chg hc (fun e' => by rw [e', hlg] at this; omega)
  · by_cases e : i = j
    · subst e; rw [upd_same] at hn; cases hn
    · rw [upd_other _ _ e] at hn; exact h.hole i hi hn q hq
  · have := h.par i hi hn
    rw [upd_other _ _ (fun e => by subst e; rw [h1] at hn; cases hn)]; exact this
  · rw [hlb _ (by rw [h.lr]; decide)]; exact h.lr
  · rw [hlb _ (by rw [h.lg]; decide)]; exact h.lg
  · rw [hlb _ (by rw [h.l1 k hk' g hg]; omega)]; exact h.l1 k hk' g hg
  · by_cases e : i = j
    · subst e
      rw [upd_same] at hg
      obtain rfl := Option.some.inj hg
      exact upd_same _ _ _
    · rw [upd_other _ _ e] at hg
      rw [hlb _ (by rw [h.l2 i hi g hg]; omega)]; exact h.l2 i hi g hg
  · by_cases e : b = w.heap.size
    · subst e; exact ⟨_, _, more_new w _ _⟩
    · rw [upd_other _ _ e] at hb; exact ((h.cel b hb).setCell _ _ _).alloc _

theorem ShapeC.two (h : ShapeC w r c f lb g0 L1 L2) {j : Nat} (hj : j < 64) (h1 : L1 (j / 8) = none) :
    ShapeC (more w g0 (j / 8)) r c f (upd lb w.heap.size (3 + j / 8)) g0 (upd L1 (j / 8) (some w.heap.size)) L2 := by
  have hk : j / 8 < 8 := by omega
  have hlg := h.lg
  have hc := more_chg w g0 (j / 8)
  have hz := more_size w g0 (j / 8)
  have hdom : ∀ b, lb b ≠ 0 → b ≠ w.heap.size := fun b hb e => by have := h.dom b hb; omega
  have hlb : ∀ b, lb b ≠ 0 → upd lb w.heap.size (3 + j / 8) b = lb b := fun b hb => upd_other _ _ (hdom b hb)
  refine ⟨hc.heap h.hdr (fun e => ?_), more_at h.root (j / 8) hk, fun k hk' g hg => ?_, fun i hi g hg => ?_, fun i hi hn q hq => ?_, fun i hi hn => ?_, ?_, ?_, fun k hk' g hg => ?_, fun i hi g hg => ?_, fun b hb => ?_⟩
  · have := h.lr; rw [e, hlg] at this; omega
  · by_cases e : k = j / 8
    · subst e
      rw [upd_same] at hg
      obtain rfl := Option.some.inj hg
      exact (more_new w g0 (j / 8)).congr (fun i hi => (h.par _ (by omega) (by rw [show (8 * (j / 8) + i) / 8 = j / 8 by omega]; exact h1)).symm) (fun _ _ => rfl)
    · rw [upd_other _ _ e] at hg
      have := h.l1 k hk' g hg
      exact (h.mid k hk' g hg).chg hc (fun e' => by rw [e', hlg] at this; omega)
  · have := h.l2 i hi g hg
    exact (h.leaf i hi g hg).chg hc (fun e' => by rw [e', hlg] at this; omega)
  · exact h.hole i hi hn q hq
  · by_cases e : i / 8 = j / 8
    · rw [e, upd_same] at hn; cases hn
    · rw [upd_other _ _ e] at hn; exact h.par i hi hn
  · rw [hlb _ (by rw [h.lr]; decide)]; exact h.lr
  · rw [hlb _ (by rw [h.lg]; decide)]; exact h.lg
  · by_cases e : k = j / 8
    · subst e
      rw [upd_same] at hg
      obtain rfl := Option.some.inj hg
      exact upd_same _ _ _
    · rw [upd_other _ _ e] at hg
      rw [hlb _ (by rw [h.l1 k hk' g hg]; omega)]; exact h.l1 k hk' g hg
  · rw [hlb _ (by rw [h.l2 i hi g hg]; omega)]; exact h.l2 i hi g hg
  · by_cases e : b = w.heap.size
    · subst e; exact ⟨_, _, more_new w _ _⟩
    · rw [upd_other _ _ e] at hb; exact ((h.cel b hb).setCell _ _ _).alloc _

/-- what a step on a tree leaves of its blocks: the old ones and new ones -/
def Ext (w : World) (lb lb' : Nat → Nat) : Prop := (∀ b, lb' b ≠ 0 → lb b ≠ 0 ∨ w.heap.size ≤ b) ∧ ∀ b, lb b ≠ 0 → lb' b = lb b
theorem Ext.refl (w : World) (lb : Nat → Nat) : Ext w lb lb := ⟨fun _ h => .inl h, fun _ _ => rfl⟩
theorem Ext.trans {a b : World} {l m n : Nat → Nat} (h : Ext a l m) (k : Ext b m n) (hs : a.heap.size ≤ b.heap.size) : Ext a l n :=
  ⟨fun x hx => (k.1 x hx).elim (h.1 x) (fun e => .inr (by omega)), fun x hx => (k.2 x (by rw [h.2 x hx]; exact hx)).trans (h.2 x hx)⟩
theorem Ext.new (w : World) (lb : Nat → Nat) (hd : ∀ b, lb b ≠ 0 → b < w.heap.size) (x : Nat) : Ext w lb (upd lb w.heap.size x) :=
  ⟨fun b hb => by
    by_cases e : b = w.heap.size
    · exact .inr (by omega)
    · rw [upd_other _ _ e] at hb; exact .inl hb, fun b hb => upd_other _ _ (fun e => by have := hd b hb; omega)⟩

/-- leaf, growing -/
theorem leaf_grow (h : ShapeI w r f lb g0 L1 L2) (off : Nat) (ho : off < 512) :
    Calls Try.prog 55 #[.pointer (some ⟨r, 0, none⟩), .int .i64 off, .bool true] w fun e w' => ∃ g lb' L1' L2', e = .returned (.pointer (some ⟨g, 0, none⟩)) ∧
      ShapeI w' r f lb' g0 L1' L2' ∧ L2' (off / 8) = some g ∧ Ext w lb lb' ∧ Chg (Of lb) w w' := by
  have c0 : w.cell? ⟨r, 0, none⟩ = some (.pointer (some ⟨g0, 0, none⟩)) := by rw [cell_of_row w _ _ _ _ _ h.hdr]; rfl
  have ej : off / 8 / 8 = off / 64 := by omega
  rcases hL1 : L1 (off / 64) with _ | g1
  · have h1 := h.two (j := off / 8) (by omega) (by rw [ej]; exact hL1)
    have h2 := h1.one (j := off / 8) (by omega) (g1 := w.heap.size) (by rw [upd_same]) (h.par _ (by omega) (by rw [ej]; exact hL1))
    refine (grow_both w r g0 off L1 c0 h.root ho hL1).mono ?_
    rintro e w' ⟨rfl, rfl⟩
    rw [ej] at h1 h2
    rw [more_size] at h2
    refine ⟨_, _, _, _, rfl, h2, upd_same _ _ _, ?_, ?_⟩
    · refine (Ext.new w lb h.dom (3 + off / 64)).trans (b := more w g0 (off / 64)) ?_ (by rw [more_size]; omega)
      have := Ext.new (more w g0 (off / 64)) _ h1.dom (11 + off / 8)
      rwa [more_size] at this
    · have k1 := more_chg w g0 (off / 64)
      have k2 := more_chg (more w g0 (off / 64)) w.heap.size (off / 8 % 8)
      exact (k1.mono (fun x _ e => by subst e; show lb _ ≠ 0; rw [h.lg]; decide)).trans k2 (fun x hx e => by omega)
  · have hm := h.mid _ (by omega) _ hL1
    rcases hL2 : L2 (off / 8) with _ | g2
    · have h2 := h.one (j := off / 8) (by omega) (g1 := g1) (by rw [ej]; exact hL1) hL2
      refine (grow_one w r g0 g1 off L1 _ c0 h.root hm ho hL1 (by rw [show 8 * (off / 64) + off / 8 % 8 = off / 8 by omega]; exact hL2)).mono ?_
      rintro e w' ⟨rfl, rfl⟩
      refine ⟨_, _, _, _, rfl, h2, upd_same _ _ _, Ext.new w lb h.dom _, ?_⟩
      exact (more_chg w g1 (off / 8 % 8)).mono (fun x _ e => by subst e; show lb _ ≠ 0; rw [h.l1 _ (by omega) _ hL1]; omega)
    · refine (grow_none w r g0 g1 g2 off L1 _ c0 h.root hm ho hL1 (by rw [show 8 * (off / 64) + off / 8 % 8 = off / 8 by omega]; exact hL2)).mono ?_
      rintro e w' ⟨rfl, rfl⟩
      exact ⟨_, _, _, _, rfl, h, hL2, Ext.refl _ _, Chg.refl _ _⟩
end

end Go.Proofs.Ytfljnfmocmhhdaa
