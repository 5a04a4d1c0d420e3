/-
New, leaf, Set, Get, Len of a tree of ints.
-/
import Derived.Test.YtfljnfmocmhhdaaBase
namespace Go.Proofs.Ytfljnfmocmhhdaa
open Go.RowKit

theorem isOff_yes (off : Int) (w : World) (h0 : 0 ≤ off) (h1 : off < 512) : Calls Try.prog 54 #[.int .i64 off] w fun e w' => e = .returned (.bool true) ∧ w = w' := by
  go_enter Try.func54, Try.ntmps54
  go_wp2_with fail
  go_ret
  exact ⟨rfl, rfl⟩
theorem isOff_no (off : Int) (w : World) (h : off < 0 ∨ 512 ≤ off) : Calls Try.prog 54 #[.int .i64 off] w fun e w' => e = .returned (.bool false) ∧ w = w' := by
  by_cases h0 : off < 0
  · go_enter Try.func54, Try.ntmps54
    go_wp2_with fail
    go_ret
    exact ⟨rfl, rfl⟩
  · have h1 : 512 ≤ off := by omega
    have h2 : 0 ≤ off := by omega
    have h3 : decide (off < 512) = false := by simp; omega
    go_enter Try.func54, Try.ntmps54
    go_wp2_with fail
    go_ret
    exact ⟨rfl, rfl⟩

set_option maxHeartbeats 1000000 in
theorem new_any (w : World) : Calls Try.prog 50 #[] w fun e w' => e = .returned (.pointer (some ⟨w.heap.size + 1, 0, none⟩)) ∧
    w' = (w.alloc (.cells #[.pointer none, .pointer none, .pointer none, .pointer none, .pointer none, .pointer none, .pointer none, .pointer none, .int .i64 0, .int .i64 0, .int .i64 0, .int .i64 0, .int .i64 0, .int .i64 0, .int .i64 0, .int .i64 0] 102)).alloc (.cells #[.pointer (some ⟨w.heap.size, 0, none⟩), .int .i64 0] 94) := by
  go_enter Try.func50, Try.ntmps50
  go_wp2_with fail
  go_ret
  exact ⟨rfl, rfl⟩

set_option maxHeartbeats 1000000 in
theorem len_any (w : World) (r : Nat) (f : Nat → Int) (lb : Nat → Nat) (h : TreeI w r f lb) : Calls Try.prog 24 #[.pointer (some ⟨r, 0, none⟩)] w fun e w' => e = .returned (.int .i64 (cntI f)) ∧ w = w' := by
  obtain ⟨g0, L1, L2, hs⟩ := h
  have hc : w.cell? ⟨r, 1, none⟩ = some (.int .i64 (cntI f)) := by rw [cell_of_row w _ _ _ _ _ hs.hdr]; rfl
  clear hs
  go_enter Try.func24, Try.ntmps24
  go_wp2_with fail
  go_ret
  exact ⟨rfl, rfl⟩

set_option maxHeartbeats 1000000 in
/-- without growing: the leaf, if it is there -/
theorem leaf_find (w : World) (r : Nat) (f : Nat → Int) (lb : Nat → Nat) (g0 : Nat) (L1 L2 : Nat → Option Nat) (h : ShapeI w r f lb g0 L1 L2) (off : Nat) (ho : off < 512) :
    Calls Try.prog 55 #[.pointer (some ⟨r, 0, none⟩), .int .i64 off, .bool false] w fun e w' => e = .returned (opt (L2 (off / 8))) ∧ w = w' := by
  have c0 : w.cell? ⟨r, 0, none⟩ = some (.pointer (some ⟨g0, 0, none⟩)) := by rw [cell_of_row w _ _ _ _ _ h.hdr]; rfl
  have c1 := h.root.ptr (off / 64) (by omega)
  have e1 : (off : Int) / 64 % 8 = ((off / 64 : Nat) : Int) := by omega
  have e2 : (off : Int) / 8 % 8 = ((off / 8 % 8 : Nat) : Int) := by omega
  have e3 : 8 * (off / 64) + off / 8 % 8 = off / 8 := by omega
  have hk1 : off / 64 < 8 := by omega
  have hk2 : off / 8 % 8 < 8 := by omega
  have hp := h.par (off / 8) (by omega)
  rw [show off / 8 / 8 = off / 64 by omega] at hp
  rcases hL1 : L1 (off / 64) with _ | g1
  · rw [hL1] at c1
    rw [hp hL1]
    rw [opt_none] at c1 ⊢
    generalize off / 64 = k1 at *
    clear h hp hL1 e3
    go_enter Try.func55, Try.ntmps55
    go_wp2_with fail
    refine wp_loop_rounds 3 ?_
    rw [rounds_succ]
    go_wp2_with fail
    go_ret
    exact ⟨rfl, rfl⟩
  · rw [hL1] at c1
    have c2 := (h.mid (off / 64) hk1 g1 hL1).ptr (off / 8 % 8) hk2
    rw [e3] at c2
    rw [opt_some] at c1
    rcases hL2 : L2 (off / 8) with _ | g2
    · rw [hL2, opt_none] at c2
      rw [opt_none]
      generalize off / 64 = k1 at *
      generalize off / 8 % 8 = k2 at *
      clear h hp hL1 e3 hL2
      go_enter Try.func55, Try.ntmps55
      go_wp2_with fail
      refine wp_loop_rounds 3 ?_
      rw [rounds_succ]
      go_wp2_with fail
      rw [rounds_succ]
      go_wp2_with fail
      go_ret
      exact ⟨rfl, rfl⟩
    · rw [hL2, opt_some] at c2
      rw [opt_some]
      generalize off / 64 = k1 at *
      generalize off / 8 % 8 = k2 at *
      clear h hp hL1 e3 hL2
      go_enter Try.func55, Try.ntmps55
      go_wp2_with fail
      refine wp_loop_rounds 3 ?_
      rw [rounds_succ]
      go_wp2_with fail
      rw [rounds_succ]
      go_wp2_with fail
      rw [rounds_succ]
      go_wp2_with fail
      go_ret
      exact ⟨rfl, rfl⟩

set_option maxHeartbeats 1000000 in
/-- Get -/
theorem get_any (w : World) (r : Nat) (f : Nat → Int) (lb : Nat → Nat) (h : TreeI w r f lb) (off : Nat) (ho : off < 512) :
    Calls Try.prog 23 #[.pointer (some ⟨r, 0, none⟩), .int .i64 off] w fun e w' => e = .returned (.int .i64 (f off)) ∧ w = w' := by
  obtain ⟨g0, L1, L2, hs⟩ := h
  have HL := Lib.hid (leaf_find w r f lb g0 L1 L2 hs off ho)
  have HI := Lib.hid (isOff_yes off w (by omega) (by omega))
  have e1 : (off : Int) % 8 = ((off % 8 : Nat) : Int) := by omega
  have hk : off % 8 < 8 := by omega
  have e2 : 8 * (off / 8) + off % 8 = off := by omega
  rcases hL2 : L2 (off / 8) with _ | g
  · have hz := hs.hole (off / 8) (by omega) hL2 (off % 8) hk
    rw [e2] at hz
    rw [hz]
    rw [hL2, opt_none] at HL
    clear hs hz hL2 e2
    go_enter Try.func23, Try.ntmps23
    go_wp2_with fail
    refine HI.out.mono ?_
    rintro e w' ⟨rfl, rfl⟩
    go_wp2_with fail
    refine HL.out.mono ?_
    rintro e w' ⟨rfl, rfl⟩
    go_wp2_with fail
    go_ret
    exact ⟨rfl, rfl⟩
  · have c := (hs.leaf (off / 8) (by omega) g hL2).val (off % 8) hk
    rw [e2] at c
    rw [hL2, opt_some] at HL
    generalize off % 8 = k at *
    clear hs hL2 e2
    go_enter Try.func23, Try.ntmps23
    go_wp2_with fail
    refine HI.out.mono ?_
    rintro e w' ⟨rfl, rfl⟩
    go_wp2_with fail
    refine HL.out.mono ?_
    rintro e w' ⟨rfl, rfl⟩
    go_wp2_with fail
    go_ret
    exact ⟨rfl, rfl⟩
theorem get_out (w : World) (r : Nat) (off : Int) (h : off < 0 ∨ 512 ≤ off) :
    Calls Try.prog 23 #[.pointer (some ⟨r, 0, none⟩), .int .i64 off] w fun e w' => e = .returned (.int .i64 0) ∧ w = w' := by
  have HI := Lib.hid (isOff_no off w h)
  clear h
  go_enter Try.func23, Try.ntmps23
  go_wp2_with fail
  refine HI.out.mono ?_
  rintro e w' ⟨rfl, rfl⟩
  go_wp2_with fail
  go_ret
  exact ⟨rfl, rfl⟩

end Go.Proofs.Ytfljnfmocmhhdaa
