/-
The first call of the statements: the sum of the nine bytes of the text 123456789, and of none.
-/
import Derived.Test.YtelhmddigogmgaaDoorWSum
import Derived.Lib.AppendStr
import Derived.KernelRfl
namespace Go.Proofs.YtelhmddigogmgaaDoor
open Go.RowKit

theorem info5 : (Tryd.prog.info? 5).map (fun i => (i.zero, i.size, i.bytes)) = some (some (.int .u8 0), 1, 1) := by kernel_rfl

theorem Below.own {w w' : World} {v : Value} (hg : w.grownBy w' v.ownBlock) (hv : ∀ k, v.ownBlock = some k → w.heap.size ≤ k) : Below w.heap.size w w' :=
  ⟨hg.os, hg.tape, hg.output, hg.size, fun k hk => hg.block k hk (fun e => by have := hv k e.symm; omega)⟩

/-- what a row of the call's own reads as -/
theorem Rd.own {w : World} {B e n : Nat} {k : IntKind} {v : Value} {l : List Nat} (h : w.ownsRow B e 1 v n (vals k l)) (hn : n ≤ 140737488355328) : ∃ A c, v = .slice A n c ∧ Rd w k A n c l := by
  have hl : l.length = n := by have := h.1; rw [vals_len] at this; omega
  rcases h.2 with ⟨rfl, h0⟩ | ⟨g, cap, cur, rfl, _, hg, h1, h2, h3, h4⟩
  · subst h0
    obtain rfl : l = [] := List.eq_nil_of_length_eq_zero hl
    exact ⟨none, 0, rfl, Rd.nil w k⟩
  · exact ⟨_, cap, rfl, Rd.block n cap hg (by simpa using h4) hl h1 (by simpa [maxLen] using h2) hn⟩

set_option maxHeartbeats 400000 in
theorem fixed_any (w : World) (ht : Tab w) :
    Calls Tryd.prog 21 #[] w fun e w' => e = .returned (.bool true) ∧ Below w.heap.size w w' := by
  have Ht := Lib.hid ht
  clear ht
  obtain ⟨i0, hi, hz0, hz1, hz2⟩ := info_parts info5
  have f1 : Hid (((sumN [49, 50, 51, 52, 53, 54, 55, 56, 57] : Nat) : Int) = 3421780262) := by unfold Hid; kernel_rfl
  have f2 : Hid (((sumN [] : Nat) : Int) = 0) := by unfold Hid; kernel_rfl
  go_enter Tryd.func21, Tryd.ntmps21
  go_wp2_with (at_builtin; refine Lib.wpList_append_own_string _ rfl _ _ 23 9 rfl w.heap.size 5 i0 Tryd.underlying23 Tryd.underlying9 hi hz0 hz1 hz2 (.slice none 0 0) 0 [] rfl (World.ownsRow_nil _ _ _ _) _ rfl ?c1 ?c2 ?c3 ?_)
  case c1 => decide
  case c2 => decide
  case c3 => exact Nat.le_refl _
  intro v1 w1 hown hg _
  have hb : Below w.heap.size w w1 := (Below.refl _ _).grown hg (Nat.le_refl _) (fun k h => by simp [Value.ownBlock] at h)
  obtain ⟨A, c, rfl, hr⟩ := Rd.own (l := [49, 50, 51, 52, 53, 54, 55, 56, 57]) (B := w.heap.size) (e := 5) (n := 9) (k := .u8) hown (by omega)
  have T1 := Lib.hid (Ht.out.below hb)
  have R1 := Lib.hid hr
  have HB := Lib.hid hb
  clear hown hg hr hb
  go_wp2_with fail
  refine (sum_any [49, 50, 51, 52, 53, 54, 55, 56, 57] (by decide) _ _ _ _ R1.out T1.out).mono ?_
  rintro e w2 ⟨rfl, rfl⟩
  rw [f1.out]
  go_wp2_with fail
  refine (sum_any [] (by simp) _ 0 0 _ (Rd.nil _ _) T1.out).mono ?_
  rintro e w2 ⟨rfl, rfl⟩
  rw [f2.out]
  go_wp2_with fail
  go_ret
  exact ⟨rfl, HB.out⟩

end Go.Proofs.YtelhmddigogmgaaDoor
