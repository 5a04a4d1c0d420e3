/-
New, leaf, Set, Get, Len of a tree of spans.
-/
import Derived.Test.YtfljnfmocmhhdaaPBase
import Derived.Test.YtfljnfmocmhhdaaWTree
namespace Go.Proofs.Ytfljnfmocmhhdaa.Spn
open Go.RowKit

set_option maxHeartbeats 1000000 in
theorem new_any (w : World) : Calls Try.prog 31 #[] w fun e w' => e = .returned (.pointer (some ⟨w.heap.size + 1, 0, none⟩)) ∧
    w' = (w.alloc (.cells #[.pointer none, .pointer none, .pointer none, .pointer none, .pointer none, .pointer none, .pointer none, .pointer none, .int .i64 0, .int .i64 0, .int .i64 0, .int .i64 0, .int .i64 0, .int .i64 0, .int .i64 0, .int .i64 0, .int .i64 0, .int .i64 0, .int .i64 0, .int .i64 0, .int .i64 0, .int .i64 0, .int .i64 0, .int .i64 0] 119)).alloc (.cells #[.pointer (some ⟨w.heap.size, 0, none⟩), .int .i64 0] 121) := by
  go_enter Try.func31, Try.ntmps31
  go_wp2_with fail
  go_ret
  exact ⟨rfl, rfl⟩

set_option maxHeartbeats 1000000 in
theorem len_any (w : World) (r : Nat) (f : Nat → Int × Int) (lb : Nat → Nat) (h : TreeI w r f lb) : Calls Try.prog 34 #[.pointer (some ⟨r, 0, none⟩)] w fun e w' => e = .returned (.int .i64 (cntI f)) ∧ w = w' := by
  obtain ⟨g0, L1, L2, hs⟩ := h
  have hc : w.cell? ⟨r, 1, none⟩ = some (.int .i64 (cntI f)) := by rw [cell_of_row w _ _ _ _ _ hs.hdr]; rfl
  clear hs
  go_enter Try.func34, Try.ntmps34
  go_wp2_with fail
  go_ret
  exact ⟨rfl, rfl⟩

set_option maxHeartbeats 1000000 in
/-- without growing: the leaf, if it is there -/
theorem leaf_find (w : World) (r : Nat) (f : Nat → Int × Int) (lb : Nat → Nat) (g0 : Nat) (L1 L2 : Nat → Option Nat) (h : ShapeI w r f lb g0 L1 L2) (off : Nat) (ho : off < 512) :
    Calls Try.prog 58 #[.pointer (some ⟨r, 0, none⟩), .int .i64 off, .bool false] w fun e w' => e = .returned (opt (L2 (off / 8))) ∧ w = w' := by
  have c0 : w.cell? ⟨r, 0, none⟩ = some (.pointer (some ⟨g0, 0, none⟩)) := by rw [cell_of_row w _ _ _ _ _ h.hdr]; rfl
  have c1 := h.root.ptr (off / 64) (by omega)
  have e1 : (off : Int) / 64 % 8 = ((off / 64 : Nat) : Int) := by omega
  have e2 : (off : Int) / 8 % 8 = ((off / 8 % 8 : Nat) : Int) := by omega
  have e3 : 8 * (off / 64) + off / 8 % 8 = off / 8 := by omega
  have hk1 : off / 64 < 8 := by omega
  have hk2 : off / 8 % 8 < 8 := by omega
  have hp := h.par (off / 8) (by omega)
  rw [show off / 8 / 8 = off / 64 by omega] at hp
  rcases hL1 : L1 (off / 64) with _ | g1
  · rw [hL1] at c1
    rw [hp hL1]
    rw [opt_none] at c1 ⊢
    generalize off / 64 = k1 at *
    clear h hp hL1 e3
    go_enter Try.func58, Try.ntmps58
    go_wp2_with fail
    refine wp_loop_rounds 3 ?_
    rw [rounds_succ]
    go_wp2_with fail
    go_ret
    exact ⟨rfl, rfl⟩
  · rw [hL1] at c1
    have c2 := (h.mid (off / 64) hk1 g1 hL1).ptr (off / 8 % 8) hk2
    rw [e3] at c2
    rw [opt_some] at c1
    rcases hL2 : L2 (off / 8) with _ | g2
    · rw [hL2, opt_none] at c2
      rw [opt_none]
      generalize off / 64 = k1 at *
      generalize off / 8 % 8 = k2 at *
      clear h hp hL1 e3 hL2
      go_enter Try.func58, Try.ntmps58
      go_wp2_with fail
      refine wp_loop_rounds 3 ?_
      rw [rounds_succ]
      go_wp2_with fail
      rw [rounds_succ]
      go_wp2_with fail
      go_ret
      exact ⟨rfl, rfl⟩
    · rw [hL2, opt_some] at c2
      rw [opt_some]
      generalize off / 64 = k1 at *
      generalize off / 8 % 8 = k2 at *
      clear h hp hL1 e3 hL2
      go_enter Try.func58, Try.ntmps58
      go_wp2_with fail
      refine wp_loop_rounds 3 ?_
      rw [rounds_succ]
      go_wp2_with fail
      rw [rounds_succ]
      go_wp2_with fail
      rw [rounds_succ]
      go_wp2_with fail
      go_ret
      exact ⟨rfl, rfl⟩

theorem ShapeI.below {w W : World} {r : Nat} {f : Nat → Int × Int} {lb : Nat → Nat} {g0 : Nat} {L1 L2 : Nat → Option Nat} (h : ShapeI w r f lb g0 L1 L2) (hb : Below w.heap.size w W) : ShapeI W r f lb g0 L1 L2 :=
  ShapeC.chg h (Chg.of_below (fun _ => False) hb) (fun _ _ h => h)

set_option maxHeartbeats 1000000 in
/-- Get -/
theorem get_any (w : World) (r : Nat) (f : Nat → Int × Int) (lb : Nat → Nat) (h : TreeI w r f lb) (off : Nat) (ho : off < 512) :
    Calls Try.prog 32 #[.pointer (some ⟨r, 0, none⟩), .int .i64 off] w fun e w' => e = .returned (sp (f off)) ∧ Below w.heap.size w w' := by
  obtain ⟨g0, L1, L2, hs⟩ := h
  have HL := Lib.hid (fun W (hb : Below w.heap.size w W) => leaf_find W r f lb g0 L1 L2 (ShapeI.below hs hb) off ho)
  have HI := Lib.hid (fun W => isOff_yes off W (by omega) (by omega))
  have e1 : (off : Int) % 8 = ((off % 8 : Nat) : Int) := by omega
  have hk : off % 8 < 8 := by omega
  have e2 : 8 * (off / 8) + off % 8 = off := by omega
  obtain ⟨x, hx⟩ : ∃ x, f off = x := ⟨_, rfl⟩
  rcases hL2 : L2 (off / 8) with _ | g
  · have hz := hs.hole (off / 8) (by omega) hL2 (off % 8) hk
    rw [e2] at hz
    rw [hz]
    rw [hL2, opt_none] at HL
    unfold sp
    clear hs hz hL2 e2 hx
    go_enter Try.func32, Try.ntmps32
    go_wp2_with fail
    refine (HI.out _).mono ?_
    rintro e w' ⟨rfl, rfl⟩
    go_wp2_with fail
    refine (HL.out _ (((Below.refl _ _).alloc (Nat.le_refl _) _).alloc (by simp) _)).mono ?_
    rintro e w' ⟨rfl, rfl⟩
    go_wp2_with fail
    go_returns
    exact ⟨rfl, ((Below.refl _ _).alloc (Nat.le_refl _) _).alloc (by simp) _⟩
  · have c : ∀ W, Below w.heap.size w W → W.cell? ⟨g, 8 + off % 8 * 2, none⟩ = some (.int .i64 x.1) ∧ W.cell? ⟨g, 8 + off % 8 * 2 + 1, none⟩ = some (.int .i64 x.2) := fun W hb => by
      have := ((ShapeI.below hs hb).leaf (off / 8) (by omega) g hL2).val (off % 8) hk
      rw [e2, hx] at this
      exact this
    rw [hL2, opt_some] at HL
    rw [hx]
    generalize off % 8 = k at *
    obtain ⟨x1, x2⟩ := x
    unfold sp
    simp only at c ⊢
    clear hs hL2 e2 hx
    have HB := Lib.hid ((((Below.refl _ _).alloc (Nat.le_refl _) (.cells #[.int .i64 0, .int .i64 0] 56)).alloc (by simp) (.cells #[.int .i64 0, .int .i64 0] 56) : Below w.heap.size w ((w.alloc (.cells #[.int .i64 0, .int .i64 0] 56)).alloc (.cells #[.int .i64 0, .int .i64 0] 56))))
    obtain ⟨c1, c2⟩ := c _ HB.out
    clear c
    go_enter Try.func32, Try.ntmps32
    go_wp2_with fail
    refine (HI.out _).mono ?_
    rintro e w' ⟨rfl, rfl⟩
    go_wp2_with fail
    refine (HL.out _ HB.out).mono ?_
    rintro e w' ⟨rfl, rfl⟩
    go_wp2_with fail
    go_returns
    exact ⟨rfl, ((Below.refl _ _).alloc (Nat.le_refl _) _).alloc (by simp) _⟩
theorem get_out (w : World) (r : Nat) (off : Int) (h : off < 0 ∨ 512 ≤ off) :
    Calls Try.prog 32 #[.pointer (some ⟨r, 0, none⟩), .int .i64 off] w fun e w' => e = .returned (sp (0, 0)) ∧ Below w.heap.size w w' := by
  have HI := Lib.hid (fun W => isOff_no off W h)
  clear h
  unfold sp
  go_enter Try.func32, Try.ntmps32
  go_wp2_with fail
  refine (HI.out _).mono ?_
  rintro e w' ⟨rfl, rfl⟩
  go_wp2_with fail
  go_returns
  exact ⟨rfl, ((Below.refl _ _).alloc (Nat.le_refl _) _).alloc (by simp) _⟩

end Go.Proofs.Ytfljnfmocmhhdaa.Spn
