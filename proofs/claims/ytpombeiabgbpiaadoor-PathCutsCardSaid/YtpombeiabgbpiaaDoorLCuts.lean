/-
PathCuts: just the texts that may be are taken, with the right error else; what is taken has as parts the text's own runs, and Slash as its last byte shows.
-/
import Derived.Test.YtpombeiabgbpiaaDoorWCuts
import Derived.Test.YtpombeiabgbpiaaDoorWOpen
namespace Go.Proofs.YtpombeiabgbpiaaDoor
open Go.RowKit

set_option maxRecDepth 100000 in
set_option maxHeartbeats 4000000 in
theorem PathCuts.walk (W : World) (s : ByteArray) (_hs : s.size ≤ 140737488351232) : Calls Tryd.prog 4 #[.string s] W fun e W' => e = .returned (.bool true) ∧ Below W.heap.size W W' := by
  go_enter Tryd.func4, Tryd.ntmps4
  go_wp2_with fail
  refine (first_any W).mono ?_
  rintro e w1 ⟨rfl, hb1⟩
  have HB1 := Lib.hid hb1
  clear hb1
  go_wp2_with fail
  refine (parse_any w1 s).mono ?_
  rintro e w2 ⟨hb2, hp⟩
  have HB2 := Lib.hid (below_lift HB1.out hb2)
  clear hb2 HB1
  obtain ⟨R, hR⟩ : ∃ R, errOf s = R := ⟨_, rfl⟩
  have HR := Lib.hid hR
  rw [hR] at hp
  by_cases h0 : R = 0
  · subst h0
    rw [if_pos rfl] at hp
    obtain ⟨v, rfl, ho⟩ := hp
    obtain ⟨A, c, rfl⟩ := own_form ho
    obtain ⟨g1, g2, g3, g4⟩ := parse_good hR
    rw [show (!(partsOf s).isEmpty && endsSlash s) = slashOf s from rfl]
    have hst : ∀ W', Below w2.heap.size w2 W' → Calls Tryd.prog 19 #[.string s, .slice A (partsOf s).length c] W' fun e w' => e = .returned (.bool true) ∧ Below W'.heap.size W' w' := fun W' hb => stands_any W' s _ _ ((RdS.of_own ho).below hb) g3 (parts_bys s)
    have hsl : (partsOf s).length = 0 ∧ slashOf s = false ∨ 0 < (partsOf s).length ∧ slashOf s = (((s[s.size - 1]'(by omega)).toNat : Int) == 47) := by
      unfold slashOf
      rw [ends_at s g4]
      cases partsOf s with
      | nil => exact .inl ⟨rfl, rfl⟩
      | cons a l => exact .inr ⟨by simp, rfl⟩
    have hcm : (partsOf s).length ≤ c := by
      obtain ⟨_, _, e, k1, _⟩ := RdS.of_own ho
      injection e with _ _ e
      rw [e]; exact k1
    generalize (partsOf s).length = n at *
    generalize slashOf s = b at *
    have HST := Lib.hid hst
    clear hst ho g1 g2
    go_wp2_with fail
    refine (takes_any _ s).mono ?_
    rintro e w3 ⟨rfl, hb3⟩
    rw [hR]
    have hb0 : Below w2.heap.size w2 (w2.alloc (.cells #[.slice A n c, .bool b] 25)) := (Below.refl _ _).alloc (Nat.le_refl _) _
    have hbx := (hb3.block _ (by simp)).trans (heap_alloc_new w2 (.cells #[.slice A n c, .bool b] 25))
    have d0 := cell_of_row _ _ 0 _ _ _ hbx
    have d1 := cell_of_row _ _ 1 _ _ _ hbx
    simp only [List.getElem?_toArray, List.getElem?_cons_zero, List.getElem?_cons_succ] at d0 d1
    have hlt := heap_lt hbx
    have HB3 := Lib.hid (below_lift hb0 hb3)
    have HBX := Lib.hid hbx
    clear hb3 hbx hb0
    go_wp2_with fail
    refine (HST.out w3 HB3.out).mono ?_
    rintro e w4 ⟨rfl, hb4⟩
    have hbx := (hb4.block _ hlt).trans HBX.out
    have d0 := cell_of_row _ _ 0 _ _ _ hbx
    have d1 := cell_of_row _ _ 1 _ _ _ hbx
    simp only [List.getElem?_toArray, List.getElem?_cons_zero, List.getElem?_cons_succ] at d0 d1
    have hlt := heap_lt hbx
    have HB4 := Lib.hid (below_lift HB2.out (below_lift HB3.out hb4))
    clear hb4 hbx HB3 HST HBX
    go_wp2_with fail
    rcases hsl with ⟨rfl, rfl⟩ | ⟨hn, hb⟩
    · go_quiet (fail)
      go_wp2_with fail
      go_ret
      exact ⟨rfl, Below.drewN HB4.out _⟩
    · have hn0 : (0 : Int) < n := by omega
      have hw1 : IntKind.i64.wrap ((s.size : Int) - 1) = (s.size : Int) - 1 := IntWalk.i64_in _ (by omega)
      have hix : ∀ W : World, (Instr.index 9 (.string s) (.int .i64 ((s.size : Int) - 1))).run Tryd.prog W = .ok (.int .u8 (s[s.size - 1]'(by omega)).toNat) W := fun W => by
        rw [run_index_string (P := Tryd.prog) (w := W) 9 s .i64 _ Tryd.underlying9, dif_pos (by omega)]
        simp only [show ((s.size : Int) - 1).toNat = s.size - 1 by omega]
      generalize s[s.size - 1].toNat = x at *
      have HBB := Lib.hid hb
      clear hb
      go_quiet (fail)
      go_wp2_with fail
      go_ret
      exact ⟨by rw [HBB.out]; simp, Below.drewN HB4.out _⟩
  · rw [if_neg h0] at hp
    subst hp
    go_wp2_with fail
    refine (takes_any _ s).mono ?_
    rintro e w3 ⟨rfl, hb3⟩
    rw [hR]
    have hbx := (hb3.block _ (by simp)).trans (heap_alloc_new w2 (.cells #[.slice none 0 0, .bool false] 25))
    have d0 := cell_of_row _ _ 0 _ _ _ hbx
    have d1 := cell_of_row _ _ 1 _ _ _ hbx
    simp only [List.getElem?_toArray, List.getElem?_cons_zero, List.getElem?_cons_succ] at d0 d1
    have hlt := heap_lt hbx
    have HB3 := Lib.hid (below_lift (below_lift HB2.out ((Below.refl w2.heap.size w2).alloc (Nat.le_refl _) _)) hb3)
    clear hb3 hbx
    go_wp2_with fail
    go_ret
    exact ⟨rfl, HB3.out⟩

end Go.Proofs.YtpombeiabgbpiaaDoor
