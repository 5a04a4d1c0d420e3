/-
The document's Load of runs.
-/
import Derived.Test.YtfljnfmocmhhdaaWRefRuns
namespace Go.Proofs.Ytfljnfmocmhhdaa
open Go.RowKit

/-- how the document's Load ends -/
def RefLoadPost (w : World) (l : List Run) (e : Ending) (w' : World) : Prop :=
  Below w.heap.size w w' ∧ ((loadUp l (fun _ => 0) = none ∧ e = .returned (.tuple #[.pointer none, .int .i64 70])) ∨
    ∃ f q, loadUp l (fun _ => 0) = some f ∧ e = .returned (.tuple #[.pointer (some ⟨q, 0, none⟩), .int .i64 0]) ∧ RefT w' q f ∧ w.heap.size ≤ q)

/-- behind k rounds -/
structure RfL (w : World) (q : Nat) (fo : Option (Nat → Int)) (W : World) : Prop where
  out : ∃ f, fo = some f ∧ RefT W q f
  bel : Below w.heap.size w W

/-- in the inner loop -/
structure RfM (w : World) (q gB : Nat) (o p c : Int) (g : Nat → Int) (W : World) : Prop where
  box : W.heap[gB]? = some (.cells #[.int .i64 o, .int .i64 p, .int .i64 c] 66 (0, 0))
  tree : RefT W q g
  bel : Below w.heap.size w W
  big : w.heap.size ≤ q
  ne : q ≠ gB
theorem RfM.cells {w W : World} {q gB : Nat} {o p c : Int} {g : Nat → Int} (h : RfM w q gB o p c g W) : W.cell? ⟨gB, 0, none⟩ = some (.int .i64 o) ∧ W.cell? ⟨gB, 1, none⟩ = some (.int .i64 p) ∧ W.cell? ⟨gB, 2, none⟩ = some (.int .i64 c) := by
  refine ⟨?_, ?_, ?_⟩ <;> rw [cell_of_row W _ _ _ _ _ h.box] <;> rfl
theorem RfM.step {w W : World} {q gB : Nat} {o p c : Int} {g : Nat → Int} (h : RfM w q gB o p c g W) (a : Nat) (x : Int) : RfM w q gB o p c (upd g a x) (W.drew.setCell ⟨q, a, none⟩ (.int .i64 x)) := by
  have hc : Chg (fun b => b = q) W (W.drew.setCell ⟨q, a, none⟩ (.int .i64 x)) := ((Chg.refl (fun b => b = q) W).drew).setCell (p := ⟨q, a, none⟩) (fun _ => rfl) _
  exact ⟨hc.heap h.box (fun e => h.ne e.symm), RefT.set (w := W.drew) h.tree a x, h.bel.trans (hc.below _ h.bel.size (fun b hb e => by have := h.big; omega)), h.big, h.ne⟩

set_option maxRecDepth 100000 in
set_option maxHeartbeats 4000000 in
theorem ref_load (l : List Run) (A : Option Addr) (n c : Nat) (w : World) (hr : RdR w A n c l) : Calls Try.prog 74 #[.slice A n c] w (RefLoadPost w l) := by
  have hn : n ≤ 140737488355328 := by have := hr.2.2.2.1; omega
  have hcap := hr.2.1
  have hln := hr.1
  have HR := Lib.hid hr
  clear hr
  go_enter Try.func74, Try.ntmps74
  go_wp2_with fail
  refine (ref_new_tree w).mono ?_
  rintro e w1 ⟨rfl, ht1, hb1, hs1⟩
  have HS0 : Hid (RfL w w.heap.size (loadUp (l.take 0) (fun _ => 0)) w1) := ⟨⟨_, rfl, ht1⟩, hb1⟩
  clear ht1 hb1 hs1
  go_wp2_with fail
  go_loopw [5] (fun v5 wr => ∃ k : Nat, k ≤ n ∧ v5 = .int .i64 k ∧ Hid (RfL w w.heap.size (loadUp (l.take k) (fun _ => 0)) wr)) (fun v5 _ => n - (intOf v5).toNat)
  case atStart => exact ⟨0, by omega, rfl, HS0⟩
  case round =>
    clear HS0
    obtain ⟨k, hk, rfl, HS⟩ := hrel
    by_cases hlt : k < n
    · obtain ⟨x, hx⟩ : ∃ x, l[k]? = some x := ⟨_, List.getElem?_eq_getElem (by omega)⟩
      have hts := take_succ_get l k x hx
      have hlo := loadUp_append (l.take k) [x] (fun _ => 0)
      rw [← hts] at hlo
      obtain ⟨f, hf, ht⟩ := HS.out.out
      rw [hf, Option.bind_some, loadUp_one] at hlo
      obtain ⟨b, off, rfl, hc⟩ := (HR.out.below HS.out.bel).at_ (by omega)
      obtain ⟨d0, d1, d2⟩ := hc k x hx
      obtain ⟨o, p, q⟩ := x
      simp only at d0 d1 d2 hlo
      have hlall : loadUp l (fun _ => 0) = (loadUp (l.take (k + 1)) (fun _ => 0)).bind (loadUp (l.drop (k + 1))) := by rw [← loadUp_append, List.take_append_drop]
      have HBEL := Lib.hid HS.out.bel
      have HT := Lib.hid ht
      clear ht hc hts hf hx HS
      by_cases hbad : bad (o, p, q)
      · rw [if_pos hbad] at hlo
        rw [hlo] at hlall
        have HALL : Hid (loadUp l (fun _ => 0) = none) := hlall
        clear hlall hlo
        have hcase : q < 1 ∨ (1 ≤ q ∧ p < 1) ∨ (1 ≤ q ∧ 1 ≤ p ∧ o < 0) ∨ (1 ≤ q ∧ 1 ≤ p ∧ 0 ≤ o ∧ 512 ≤ o) ∨ (1 ≤ q ∧ 1 ≤ p ∧ 0 ≤ o ∧ o < 512 ∧ 512 - o < q) := by
          unfold bad at hbad
          simp only at hbad
          omega
        clear hbad
        rcases hcase with h1 | ⟨h1, h2⟩ | ⟨h1, h2, h3⟩ | ⟨h1, h2, h3, h4⟩ | ⟨h1, h2, h3, h4, h5⟩
        all_goals
          go_wp2_with fail
          go_ret2
          exact ⟨HBEL.out.alloc HBEL.out.size _, .inl ⟨HALL.out, rfl⟩⟩
      · rw [if_neg hbad] at hlo
        have HLO := Lib.hid hlo
        clear hlall hlo
        obtain ⟨h1, h2, h3, h4, h5⟩ : 1 ≤ q ∧ 1 ≤ p ∧ 0 ≤ o ∧ o < 512 ∧ q ≤ 512 - o := by
          unfold bad at hbad
          simp only at hbad
          omega
        clear hbad
        obtain ⟨on, rfl⟩ := Int.eq_ofNat_of_zero_le h3
        go_wp2_with fail
        obtain ⟨wo, rfl⟩ : ∃ wo : World, wo = wr := ⟨_, rfl⟩
        have hlq := HT.out.lt
        have HJ : Hid (RfM w w.heap.size wo.heap.size on p q (setRun f on p 0) (wo.alloc (.cells #[.int .i64 on, .int .i64 p, .int .i64 q] 66))) :=
          ⟨heap_alloc_new wo _, HT.out.below ((Below.refl _ _).alloc (Nat.le_refl _) _), HBEL.out.alloc HBEL.out.size _, Nat.le_refl _, by omega⟩
        clear d0 d1 d2 h3
        go_loopw [7] (fun v7 wr => ∃ i : Nat, (i : Int) ≤ q ∧ v7 = .int .i64 i ∧ Hid (RfM w w.heap.size wo.heap.size on p q (setRun f on p i) wr)) (fun v7 _ => (q - intOf v7).toNat)
        case atStart => exact ⟨0, by omega, rfl, HJ⟩
        case round =>
          clear HJ
          obtain ⟨i, hi, rfl, HS⟩ := hrel
          by_cases hil : (i : Int) < q
          · obtain ⟨d0, d1, d2⟩ := HS.out.cells
            have f3 := HS.out.tree.free (on + i)
            have c3 := HS.out.tree.cell (on + i) (by omega)
            have HE := Lib.hid (HS.out.step (on + i) (wrap64 (p + i)))
            clear HS
            go_wp2_with fail
            have hs : (fun W : World => W.cell? ⟨wo.heap.size, 0, none⟩ = some (.int .i64 (on : Int)) ∧ W.cell? ⟨wo.heap.size, 1, none⟩ = some (.int .i64 p)) wr.drew := ⟨d0, d1⟩
            refine wp_region_held_drew (S := fun W => W.cell? ⟨wo.heap.size, 0, none⟩ = some (.int .i64 (on : Int)) ∧ W.cell? ⟨wo.heap.size, 1, none⟩ = some (.int .i64 p)) (by kernel_rfl) hs (fun hS => ?_)
            refine takeD (i := 0) (v := .pointer (some ⟨w.heap.size, 0, none⟩)) 51 rfl rfl (by kernel_rfl) (by kernel_rfl) (by kernel_rfl) (fun _ _ _ h => h) (Or.inl ⟨by rfl, fun W hW => by go_simp⟩) hS ?_
            simp only [Act.put, List.setIfInBounds_toArray, List.set_cons_zero, List.set_cons_succ]
            refine takeD (i := 1) (v := .pointer (some ⟨wo.heap.size, 0, none⟩)) 52 rfl rfl (by kernel_rfl) (by kernel_rfl) (by kernel_rfl) (fun _ _ _ h => h) (Or.inl ⟨by rfl, fun W hW => by go_simp⟩) hS ?_
            simp only [Act.put, List.setIfInBounds_toArray, List.set_cons_zero, List.set_cons_succ]
            refine takeD (i := 2) (v := .int .i64 (on : Int)) 53 rfl rfl (by kernel_rfl) (by kernel_rfl) (by kernel_rfl) (fun _ _ _ h => h) (Or.inl ⟨by rfl, fun W hW => by have h1 := hW.1; go_simp⟩) hS ?_
            simp only [Act.put, List.setIfInBounds_toArray, List.set_cons_zero, List.set_cons_succ]
            refine takeD (i := 3) (v := .int .i64 (i : Int)) 54 rfl rfl (by kernel_rfl) (by kernel_rfl) (by kernel_rfl) (fun _ _ _ h => h) (Or.inl ⟨by rfl, fun W hW => by go_simp⟩) hS ?_
            simp only [Act.put, List.setIfInBounds_toArray, List.set_cons_zero, List.set_cons_succ]
            refine takeD (i := 4) (v := .int .i64 ((on : Int) + (i : Int))) 55 rfl rfl (by kernel_rfl) (by kernel_rfl) (by kernel_rfl) (fun _ _ _ h => h) (Or.inl ⟨by rfl, fun W hW => by go_simp; rw [IntKind.wrap_i64]; omega⟩) hS ?_
            simp only [Act.put, List.setIfInBounds_toArray, List.set_cons_zero, List.set_cons_succ]
            refine takeD (i := 5) (v := .pointer (some ⟨wo.heap.size, 1, none⟩)) 56 rfl rfl (by kernel_rfl) (by kernel_rfl) (by kernel_rfl) (fun _ _ _ h => h) (Or.inl ⟨by rfl, fun W hW => by go_simp⟩) hS ?_
            simp only [Act.put, List.setIfInBounds_toArray, List.set_cons_zero, List.set_cons_succ]
            refine takeD (i := 6) (v := .int .i64 p) 57 rfl rfl (by kernel_rfl) (by kernel_rfl) (by kernel_rfl) (fun _ _ _ h => h) (Or.inl ⟨by rfl, fun W hW => by have h1 := hW.2; go_simp⟩) hS ?_
            simp only [Act.put, List.setIfInBounds_toArray, List.set_cons_zero, List.set_cons_succ]
            refine takeD (i := 7) (v := .int .i64 (i : Int)) 58 rfl rfl (by kernel_rfl) (by kernel_rfl) (by kernel_rfl) (fun _ _ _ h => h) (Or.inl ⟨by rfl, fun W hW => by go_simp⟩) hS ?_
            simp only [Act.put, List.setIfInBounds_toArray, List.set_cons_zero, List.set_cons_succ]
            refine takeD (i := 8) (v := .int .i64 (wrap64 (p + (i : Int)))) 59 rfl rfl (by kernel_rfl) (by kernel_rfl) (by kernel_rfl) (fun _ _ _ h => h) (Or.inl ⟨by rfl, fun W hW => by go_simp; rw [IntKind.wrap_i64]; unfold wrap64; omega⟩) hS ?_
            simp only [Act.put, List.setIfInBounds_toArray, List.set_cons_zero, List.set_cons_succ]
            refine takeD (i := 9) (v := .pointer (some ⟨w.heap.size, 0, none⟩)) 60 rfl rfl (by kernel_rfl) (by kernel_rfl) (by kernel_rfl) (fun _ _ _ h => h) (Or.inl ⟨by rfl, fun W hW => by go_simp⟩) hS ?_
            simp only [Act.put, List.setIfInBounds_toArray, List.set_cons_zero, List.set_cons_succ]
            refine takeD (i := 10) (v := .pointer (some ⟨w.heap.size, 0, none⟩)) 61 rfl rfl (by kernel_rfl) (by kernel_rfl) (by kernel_rfl) (fun _ _ _ h => h) (Or.inl ⟨by rfl, fun W hW => by go_simp⟩) hS ?_
            simp only [Act.put, List.setIfInBounds_toArray, List.set_cons_zero, List.set_cons_succ]
            refine takeD (i := 11) (v := .pointer (some ⟨w.heap.size, on + i, none⟩)) 62 rfl rfl (by kernel_rfl) (by kernel_rfl) (by kernel_rfl) (fun _ _ _ h => h) (Or.inl ⟨by rfl, fun W hW => by
              have e : ((on : Int) + (i : Int)).toNat = on + i := by omega
              go_simp; intro h; omega⟩) hS ?_
            simp only [Act.put, List.setIfInBounds_toArray, List.set_cons_zero, List.set_cons_succ]
            refine wpAnyH_ready (rs := [12]) (by kernel_rfl) (by simp) (AllReadyH.cons rfl (fun K hK => ?_) AllReadyH.nil)
            go_simp
            refine hK.out _ _ ?_ (fun h3 => ?_)
            · exact ⟨HE.out.cells.1, HE.out.cells.2.1⟩
            clear hK K
            refine wpAnyH_done (by kernel_rfl) ?_ _
            go_wp2_with fail
            go_roundw
            case rel => exact ⟨i + 1, by omega, by go_num, HE⟩
            case measure => simp [intOf]; omega
          · have hiq : i = q.toNat := by omega
            have HE : Hid (RfL w w.heap.size (loadUp (l.take (k + 1)) (fun _ => 0)) wr) := by
              rw [HLO.out, ← hiq]
              exact ⟨⟨_, rfl, HS.out.tree⟩, HS.out.bel⟩
            have d2 := HS.out.cells.2.2
            clear hiq HS
            go_wp2_with fail
            go_roundw
            case rel => exact ⟨k + 1, by omega, by go_num, HE⟩
            case measure => simp [intOf]; omega
    · obtain rfl : n = k := by omega
      have HE : Hid (RfL w w.heap.size (loadUp l (fun _ => 0)) wr) := by
        have := HS.out
        rwa [List.take_of_length_le (Nat.le_of_eq hln)] at this
      clear HS
      go_wp2_with fail
      go_ret2
      obtain ⟨f, hf, ht⟩ := HE.out.out
      exact ⟨HE.out.bel, .inr ⟨f, _, hf, rfl, ht, Nat.le_refl _⟩⟩

end Go.Proofs.Ytfljnfmocmhhdaa
