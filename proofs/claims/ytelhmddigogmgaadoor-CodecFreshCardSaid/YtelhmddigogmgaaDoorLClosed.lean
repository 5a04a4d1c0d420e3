/-
What the statement CodecClosed computes: true.
-/
import Derived.Test.YtelhmddigogmgaaDoorLines
import Derived.Test.YtelhmddigogmgaaDoorOpen
namespace Go.Proofs.YtelhmddigogmgaaDoor
open Go.RowKit Go.Extern.Stop

/-- two blocks that hold lines, in a world that has only grown -/
def Two (w : World) (l c : List Nat) (g1 g3 : Nat) (W : World) : Prop := W.rangeAt g1 0 (vals .u8 l) ∧ W.rangeAt g3 0 (vals .u8 c) ∧ Below w.heap.size w W ∧ Tab W
theorem Two.below {w W W' : World} {l c : List Nat} {g1 g3 : Nat} (h : Two w l c g1 g3 W) (hb : Below W.heap.size W W') : Two w l c g1 g3 W' :=
  ⟨rangeAt_below h.1 hb, rangeAt_below h.2.1 hb, h.2.2.1.trans (hb.mono h.2.2.1.size), h.2.2.2.below hb⟩
theorem Two.drew {w W : World} {l c : List Nat} {g1 g3 : Nat} (h : Two w l c g1 g3 W) : Two w l c g1 g3 W.drew := h.below (Below.refl _ _).drew
theorem rangeAt_cell {W : World} {g : Nat} {l : List Nat} (h : W.rangeAt g 0 (vals .u8 l)) (j : Nat) (hj : j < l.length) : W.cell? ⟨g, j, none⟩ = some (.int .u8 (nth l j : Nat)) := by
  have := h j _ (vals_get .u8 l j hj)
  rwa [Nat.zero_add] at this
theorem rangeAt_rd {W : World} {g : Nat} {l : List Nat} (h : W.rangeAt g 0 (vals .u8 l)) (n : Nat) (hl : l.length = n) (hn : n ≤ 140737488355328) : Rd W .u8 (some ⟨g, 0, none⟩) n n l :=
  ⟨hl, Nat.le_refl _, by omega, hn, .inr ⟨g, 0, rfl, fun j hj => by rw [Nat.zero_add]; exact rangeAt_cell h j (by omega)⟩⟩

set_option maxRecDepth 100000 in
set_option maxHeartbeats 4000000 in
theorem CodecClosed.at_ (l : List Nat) (hn : l.length = 64) (hl : ∀ x ∈ l, x < 256) (w : World) (ht : Tab w) :
    Calls Tryd.prog 7 #[.agg (u8s l)] w fun e w' => e = .returned (.bool true) ∧ Below w.heap.size w w' := by
  have HC := Lib.hid (fun (W : World) (hW : Tab W) => close_any l hn hl W hW)
  have hcb := closeN_byte hl
  have hcn := closeN_len l hn
  have HD := Lib.hid (fun (W : World) (hW : Tab W) => close_any (closeN l) hcn hcb W hW)
  have HW := Lib.hid (fun (W : World) (hW : Tab W) => whole_any (closeN l) hcn hcb W hW)
  have HV := Lib.hid (fun (W : World) (hW : Tab W) => whole_any l hn hl W hW)
  have hcc := close_close l hn
  rw [hcc] at HD
  rw [whole_close l hn] at HW
  have hhead := Lib.hid (close_head l hn)
  have hsum := closed_sum hl
  have hwl := whole_sum hn hl
  have hwd : wholeB l = decide (closeN l = l) := rfl
  have hwi : (((sumN l : Nat) : Int) == 558161692) = decide (closeN l = l) := by
    rw [← hwl, Bool.eq_iff_iff]; simp; omega
  have hsi : ((sumN (closeN l) : Nat) : Int) = 558161692 := by omega
  clear hwl hsum
  have neqcc : ∀ (o : Oper) (x y : Operand) (_ : o.op = .binOp .neq 33 x y 33) (a : Act) (_ : a.eval x = .agg (u8s (closeN l))) (_ : a.eval y = .agg (u8s (closeN l))), ∀ W : World, (execOp a.eval o).run Tryd.prog W = .ok (.value (.bool false)) W := fun o x y ho a hx hy W => by
    have := neq_u8s o x y ho a _ _ hx hy hcn hcn hcb hcb W
    simpa using this
  have eqcl : ∀ (o : Oper) (x y : Operand) (_ : o.op = .binOp .eql 33 x y 33) (a : Act) (_ : a.eval x = .agg (u8s (closeN l))) (_ : a.eval y = .agg (u8s l)), ∀ W : World, (execOp a.eval o).run Tryd.prog W = .ok (.value (.bool (decide (closeN l = l)))) W := fun o x y ho a hx hy W =>
    eql_u8s o x y ho a _ _ hx hy hcn hn hcb hl W
  generalize hcdef : closeN l = c at *
  have hu := Tryd.underlying33
  have hi : (Tryd.prog.info? 33).map (·.size) = some (vals .u8 l).length := by rw [vals_len, hn]; exact size33
  have hc : (Tryd.prog.info? 33).map (·.size) = some (vals .u8 c).length := by rw [vals_len, hcn]; exact size33
  have hk := Keeps.first w l 33
  have Ht := Lib.hid ht
  have NEQ := Lib.hid neqcc
  have EQL := Lib.hid eqcl
  clear ht neqcc eqcl hcc hcdef
  go_enter Tryd.func7, Tryd.ntmps7
  go_wp2_with (refine wpList_load_mid rfl 33 (.tmp 1) rfl w.heap.size 0 rfl (vals .u8 l) _ hk.1 hu rfl hi ?_)
  refine (HC.out _ (Ht.out.below hk.2.1)).mono ?_
  rintro e w1 ⟨rfl, hb⟩
  have hT : Two w l c w.heap.size w1.heap.size (w1.alloc (.cells (u8s c) 33)) :=
    ⟨rangeAt_below (rangeAt_below hk.1 hb) ((Below.refl _ _).alloc (Nat.le_refl _) _), fun j v hv => by
      rw [World.cell?_alloc_at _ _ _ _ rfl, Nat.zero_add]
      simpa [u8s] using hv, (hk.2.1.trans (hb.mono hk.2.1.size)).alloc (Nat.le_trans hk.2.1.size hb.size) _, ((Ht.out.below hk.2.1).below hb).below ((Below.refl _ _).alloc (Nat.le_refl _) _)⟩
  have hcs : (u8s c).size = 64 := by rw [u8s_size]; exact hcn
  have hone : (u8s c).all (·.oneCell') = true := all_oneCell_toArray (fun v hv => by simp only [vals, List.mem_map] at hv; obtain ⟨x, _, rfl⟩ := hv; rfl)
  have hst := run_storeCells_new (P := Tryd.prog) w1 33 (u8s (List.replicate 64 0)) (u8s c) (by rw [hcs]; exact size33) (by rw [hcs, u8s_size]; simp) hone
  rw [zero64] at hst
  have HT := Lib.hid hT
  have HK := Lib.hid hk
  clear hT hk hb hone
  go_wp2_with fail
  generalize w1.alloc (.cells (u8s c) 33) = w2 at *
  clear hst hcs
  go_loopw [4] (fun v4 wr => ∃ k : Nat, k ≤ 60 ∧ v4 = .int .i64 k ∧ Two w l c w.heap.size w1.heap.size wr) (fun v4 _ => 60 - (intOf v4).toNat)
  case atStart => exact ⟨0, by omega, rfl, HT.out⟩
  case round =>
    obtain ⟨k, hk, rfl, hT⟩ := hrel
    by_cases hlt : k < 60
    · have c1 := rangeAt_cell hT.1 k (by omega)
      have c2 := rangeAt_cell hT.2.1 k (by omega)
      rw [hhead.out k hlt] at c2
      have HT := Lib.hid hT
      clear hT
      go_wp2_with fail
      go_quiet (fail)
      go_wp2_with fail
      go_roundw
      case rel => exact ⟨k + 1, by omega, by go_num, HT.out.below (below_drewN (Below.refl _ _) _)⟩
      case measure => simp [intOf]; omega
    · have h0 := hT
      clear hT
      go_wp2_with fail
      refine wp_region_held_drew (S := Two w l c w.heap.size w1.heap.size) (by kernel_rfl) h0.drew (fun hS => ?_)
      refine takeD (i := 0) 18 rfl rfl (by kernel_rfl) (by kernel_rfl) (by kernel_rfl) (fun _ _ _ h => h) (yieldsIf_load_mid (by rfl) 33 (.tmp 3) rfl w1.heap.size 0 rfl (vals .u8 c) _ (fun _ h => h.2.1) hu rfl hc) hS ?_
      simp only [Act.put, List.setIfInBounds_toArray, List.set_cons_zero, List.set_cons_succ]
      refine wpAnyH_ready (rs := [1]) (by kernel_rfl) (by simp) (AllReadyH.cons rfl (fun K hK => ?_) AllReadyH.nil)
      go_simp
      refine (HW.out _ hS.2.2.2).mono ?_
      rintro e w' ⟨rfl, hb⟩
      refine hK.out _ _ (hS.below hb) (fun h2 => ?_)
      clear hK K hS hb
      refine takeD (i := 2) (v := .bool false) 20 rfl rfl (by kernel_rfl) (by kernel_rfl) (by kernel_rfl) (fun _ _ _ h => h) (Or.inl ⟨by rfl, ?_⟩) h2 ?_
      · intro W _
        go_simp
      simp only [Act.put, List.setIfInBounds_toArray, List.set_cons_zero, List.set_cons_succ]
      refine takeD (i := 3) (v := .bool false) 21 rfl rfl (by kernel_rfl) (by kernel_rfl) (by kernel_rfl) (fun _ _ _ h => h) (Or.inl ⟨by rfl, ?_⟩) h2 ?_
      · intro W _
        go_simp
      simp only [Act.put, List.setIfInBounds_toArray, List.set_cons_zero, List.set_cons_succ]
      refine takeD (i := 4) 22 rfl rfl (by kernel_rfl) (by kernel_rfl) (by kernel_rfl) (fun _ _ _ h => h) (yieldsIf_load_mid (by rfl) 33 (.tmp 3) rfl w1.heap.size 0 rfl (vals .u8 c) _ (fun _ h => h.2.1) hu rfl hc) h2 ?_
      simp only [Act.put, List.setIfInBounds_toArray, List.set_cons_zero, List.set_cons_succ]
      refine takeD (i := 6) 24 rfl rfl (by kernel_rfl) (by kernel_rfl) (by kernel_rfl) (fun _ _ _ h => h) (yieldsIf_load_mid (by rfl) 33 (.tmp 3) rfl w1.heap.size 0 rfl (vals .u8 c) _ (fun _ h => h.2.1) hu rfl hc) h2 ?_
      simp only [Act.put, List.setIfInBounds_toArray, List.set_cons_zero, List.set_cons_succ]
      refine wpAnyH_ready (rs := [5]) (by kernel_rfl) (by simp) (AllReadyH.cons rfl (fun K hK => ?_) AllReadyH.nil)
      go_simp
      refine (HD.out _ h2.2.2.2).mono ?_
      rintro e w' ⟨rfl, hb⟩
      refine hK.out _ _ (h2.below hb) (fun h3 => ?_)
      clear hK K h2 hb
      refine takeD (i := 7) (v := .bool false) 25 rfl rfl (by kernel_rfl) (by kernel_rfl) (by kernel_rfl) (fun _ _ _ h => h) (Or.inl ⟨by rfl, ?_⟩) h3 ?_
      · intro W _
        exact NEQ.out _ (.tmp 23) (.tmp 24) rfl _ rfl rfl W
      simp only [Act.put, List.setIfInBounds_toArray, List.set_cons_zero, List.set_cons_succ]
      refine takeD (i := 8) (v := .bool false) 26 rfl rfl (by kernel_rfl) (by kernel_rfl) (by kernel_rfl) (fun _ _ _ h => h) (Or.inl ⟨by rfl, ?_⟩) h3 ?_
      · intro W _
        go_simp
      simp only [Act.put, List.setIfInBounds_toArray, List.set_cons_zero, List.set_cons_succ]
      refine wpAnyH_done (by kernel_rfl) ?_ _
      go_wp2_with fail
      refine wp_region_held_drew (S := Two w l c w.heap.size w1.heap.size) (by kernel_rfl) h3.drew (fun hS => ?_)
      refine takeD (i := 0) 27 rfl rfl (by kernel_rfl) (by kernel_rfl) (by kernel_rfl) (fun _ _ _ h => h) (yieldsIf_load_mid (by rfl) 33 (.tmp 1) rfl w.heap.size 0 rfl (vals .u8 l) _ (fun _ h => h.1) hu rfl hi) hS ?_
      simp only [Act.put, List.setIfInBounds_toArray, List.set_cons_zero, List.set_cons_succ]
      refine takeD (i := 2) 29 rfl rfl (by kernel_rfl) (by kernel_rfl) (by kernel_rfl) (fun _ _ _ h => h) (yieldsIf_load_mid (by rfl) 33 (.tmp 3) rfl w1.heap.size 0 rfl (vals .u8 c) _ (fun _ h => h.2.1) hu rfl hc) hS ?_
      simp only [Act.put, List.setIfInBounds_toArray, List.set_cons_zero, List.set_cons_succ]
      refine takeD (i := 3) 30 rfl rfl (by kernel_rfl) (by kernel_rfl) (by kernel_rfl) (fun _ _ _ h => h) (yieldsIf_load_mid (by rfl) 33 (.tmp 1) rfl w.heap.size 0 rfl (vals .u8 l) _ (fun _ h => h.1) hu rfl hi) hS ?_
      simp only [Act.put, List.setIfInBounds_toArray, List.set_cons_zero, List.set_cons_succ]
      refine takeD (i := 4) (v := .bool (decide (c = l))) 31 rfl rfl (by kernel_rfl) (by kernel_rfl) (by kernel_rfl) (fun _ _ _ h => h) (Or.inl ⟨by rfl, ?_⟩) hS ?_
      · intro W _
        exact EQL.out _ (.tmp 29) (.tmp 30) rfl _ rfl rfl W
      simp only [Act.put, List.setIfInBounds_toArray, List.set_cons_zero, List.set_cons_succ]
      refine wpAnyH_ready (rs := [1]) (by kernel_rfl) (by simp) (AllReadyH.cons rfl (fun K hK => ?_) AllReadyH.nil)
      go_simp
      refine (HV.out _ hS.2.2.2).mono ?_
      rintro e w' ⟨rfl, hb⟩
      refine hK.out _ _ (hS.below hb) (fun h4 => ?_)
      clear hK K hS hb
      refine takeD (i := 5) (v := .bool false) 32 rfl rfl (by kernel_rfl) (by kernel_rfl) (by kernel_rfl) (fun _ _ _ h => h) (Or.inl ⟨by rfl, ?_⟩) h4 ?_
      · intro W _
        go_simp
      simp only [Act.put, List.setIfInBounds_toArray, List.set_cons_zero, List.set_cons_succ]
      refine wpAnyH_done (by kernel_rfl) ?_ _
      go_wp2_with fail
      refine wp_region_held_drew (S := Two w l c w.heap.size w1.heap.size) (by kernel_rfl) h4.drew (fun hS => ?_)
      refine takeD (i := 0) (v := .slice (some ⟨w1.heap.size, 0, none⟩) 64 64) 33 rfl rfl (by kernel_rfl) (by kernel_rfl) (by kernel_rfl) (fun _ _ _ h => h) (Or.inl ⟨by rfl, ?_⟩) hS ?_
      · intro W _
        go_simp
      simp only [Act.put, List.setIfInBounds_toArray, List.set_cons_zero, List.set_cons_succ]
      refine wpAnyH_ready (rs := [1]) (by kernel_rfl) (by simp) (AllReadyH.cons rfl (fun K hK => ?_) AllReadyH.nil)
      go_simp
      refine (sum_any c hcb _ 64 64 _ (rangeAt_rd hS.2.1 64 hcn (by omega)) hS.2.2.2).mono ?_
      rintro e w' ⟨rfl, rfl⟩
      refine hK.out _ _ hS (fun h5 => ?_)
      clear hK K
      refine takeD (i := 2) (v := .bool true) 35 rfl rfl (by kernel_rfl) (by kernel_rfl) (by kernel_rfl) (fun _ _ _ h => h) (Or.inl ⟨by rfl, ?_⟩) h5 ?_
      · intro W _
        go_simp
      simp only [Act.put, List.setIfInBounds_toArray, List.set_cons_zero, List.set_cons_succ]
      refine takeD (i := 3) (v := .bool true) 36 rfl rfl (by kernel_rfl) (by kernel_rfl) (by kernel_rfl) (fun _ _ _ h => h) (Or.inl ⟨by rfl, ?_⟩) h5 ?_
      · intro W _
        go_simp
      simp only [Act.put, List.setIfInBounds_toArray, List.set_cons_zero, List.set_cons_succ]
      refine takeD (i := 4) (v := .slice (some ⟨w.heap.size, 0, none⟩) 64 64) 37 rfl rfl (by kernel_rfl) (by kernel_rfl) (by kernel_rfl) (fun _ _ _ h => h) (Or.inl ⟨by rfl, ?_⟩) h5 ?_
      · intro W _
        go_simp
      simp only [Act.put, List.setIfInBounds_toArray, List.set_cons_zero, List.set_cons_succ]
      refine takeD (i := 7) 40 rfl rfl (by kernel_rfl) (by kernel_rfl) (by kernel_rfl) (fun _ _ _ h => h) (yieldsIf_load_mid (by rfl) 33 (.tmp 3) rfl w1.heap.size 0 rfl (vals .u8 c) _ (fun _ h => h.2.1) hu rfl hc) h5 ?_
      simp only [Act.put, List.setIfInBounds_toArray, List.set_cons_zero, List.set_cons_succ]
      refine takeD (i := 8) 41 rfl rfl (by kernel_rfl) (by kernel_rfl) (by kernel_rfl) (fun _ _ _ h => h) (yieldsIf_load_mid (by rfl) 33 (.tmp 1) rfl w.heap.size 0 rfl (vals .u8 l) _ (fun _ h => h.1) hu rfl hi) h5 ?_
      simp only [Act.put, List.setIfInBounds_toArray, List.set_cons_zero, List.set_cons_succ]
      refine takeD (i := 9) (v := .bool (decide (c = l))) 42 rfl rfl (by kernel_rfl) (by kernel_rfl) (by kernel_rfl) (fun _ _ _ h => h) (Or.inl ⟨by rfl, ?_⟩) h5 ?_
      · intro W _
        exact EQL.out _ (.tmp 40) (.tmp 41) rfl _ rfl rfl W
      simp only [Act.put, List.setIfInBounds_toArray, List.set_cons_zero, List.set_cons_succ]
      refine wpAnyH_ready (rs := [5]) (by kernel_rfl) (by simp) (AllReadyH.cons rfl (fun K hK => ?_) AllReadyH.nil)
      go_simp
      refine (sum_any l hl _ 64 64 _ (rangeAt_rd h5.1 64 hn (by omega)) h5.2.2.2).mono ?_
      rintro e w' ⟨rfl, rfl⟩
      refine hK.out _ _ h5 (fun h6 => ?_)
      clear hK K
      refine takeD (i := 6) (v := .bool (decide (c = l))) 39 rfl rfl (by kernel_rfl) (by kernel_rfl) (by kernel_rfl) (fun _ _ _ h => h) (Or.inl ⟨by rfl, ?_⟩) h6 ?_
      · intro W _
        go_simp
      simp only [Act.put, List.setIfInBounds_toArray, List.set_cons_zero, List.set_cons_succ]
      refine takeD (i := 10) (v := .bool true) 43 rfl rfl (by kernel_rfl) (by kernel_rfl) (by kernel_rfl) (fun _ _ _ h => h) (Or.inl ⟨by rfl, ?_⟩) h6 ?_
      · intro W _
        go_simp
      simp only [Act.put, List.setIfInBounds_toArray, List.set_cons_zero, List.set_cons_succ]
      refine takeD (i := 11) (v := .bool true) 44 rfl rfl (by kernel_rfl) (by kernel_rfl) (by kernel_rfl) (fun _ _ _ h => h) (Or.inl ⟨by rfl, ?_⟩) h6 ?_
      · intro W _
        go_simp
      simp only [Act.put, List.setIfInBounds_toArray, List.set_cons_zero, List.set_cons_succ]
      refine takeD (i := 12) (v := .bool true) 2 rfl rfl (by kernel_rfl) (by kernel_rfl) (by kernel_rfl) (fun _ _ _ h => h) (Or.inl ⟨by rfl, ?_⟩) h6 ?_
      · intro W _
        go_simp
      simp only [Act.put, List.setIfInBounds_toArray, List.set_cons_zero, List.set_cons_succ]
      refine wpAnyH_done (by kernel_rfl) ?_ _
      go_wp2_with fail
      go_ret
      exact ⟨rfl, h6.2.2.1⟩

theorem CodecClosed.walk (W : World) (v0 : Value) (o0 : Line v0) (ht : Tab W) :
    Calls Tryd.prog 7 #[v0] W fun e w' => e = .returned (.bool true) ∧ Below W.heap.size W w' := by
  obtain ⟨l, rfl, hn, hl⟩ := o0
  exact CodecClosed.at_ l hn hl W ht

end Go.Proofs.YtelhmddigogmgaaDoor
