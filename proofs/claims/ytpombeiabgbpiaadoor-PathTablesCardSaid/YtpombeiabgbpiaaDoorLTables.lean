/-
PathTables: one more edge at the end of a list changes just what it is about.
-/
import Derived.Test.YtpombeiabgbpiaaDoorWPlain
import Derived.Test.YtpombeiabgbpiaaDoorWOpen
import Derived.Deep.CutRange
import Derived.BigQuiet
namespace Go.Proofs.YtpombeiabgbpiaaDoor
open Go.RowKit

theorem edgesC_snoc (l : List EdgeV) (e : EdgeV) : edgesC l ++ e.cells = edgesC (l ++ [e]) := by simp [edgesC]
theorem edgeC_cells (a : Int) (s : ByteArray) (b : Int) (c : Bool) : EdgeV.cells (a, s, b, c) = [.int .i64 a, .string s, .int .i64 b, .bool c] := rfl
/-- an edge with an inode leads somewhere -/
theorem lookT_mem {l : List EdgeV} {e : EdgeV} (h : e ∈ l) (hi : 1 ≤ e.2.2.1) : 1 ≤ (lookT l e.1 e.2.1).1 := by
  suffices ∀ (l : List EdgeV) (a : Int × Bool), (1 ≤ a.1 ∨ e ∈ l) → 1 ≤ (l.foldl (fun a x => if 1 ≤ x.2.2.1 ∧ x.1 = e.1 ∧ x.2.1 = e.2.1 then (x.2.2.1, x.2.2.2) else a) a).1 from this l (0, false) (.inr h)
  intro l
  induction l with
  | nil => intro a h; simpa using h
  | cons x l ih =>
    intro a h
    refine ih _ ?_
    simp only
    split
    · rename_i hx; exact .inl hx.1
    · rename_i hx
      rcases h with h | h
      · exact .inl h
      · rcases List.mem_cons.1 h with rfl | h
        · exact absurd ⟨hi, rfl, rfl⟩ hx
        · exact .inr h
/-- two tables, and an edge in a variable -/
structure TbsS (t u b : Nat) (es : List EdgeV) (e1 : Int) (e2 : ByteArray) (e3 : Int) (e4 : Bool) (W : World) : Prop where
  t1 : TabT W t es
  t2 : TabT W u (es ++ [(e1, e2, e3, e4)])
  box : W.heap[b]? = some (.cells #[.int .i64 e1, .string e2, .int .i64 e3, .bool e4] 44 (0, 0))
theorem TbsS.below {t u b : Nat} {es : List EdgeV} {e1 : Int} {e2 : ByteArray} {e3 : Int} {e4 : Bool} {W W' : World} (h : TbsS t u b es e1 e2 e3 e4 W) (hb : Below W.heap.size W W') : TbsS t u b es e1 e2 e3 e4 W' :=
  ⟨h.t1.below hb, h.t2.below hb, (hb.block _ (heap_lt h.box)).trans h.box⟩
theorem box44 {b : Nat} {e1 : Int} {e2 : ByteArray} {e3 : Int} {e4 : Bool} {W : World} (h : W.heap[b]? = some (.cells #[.int .i64 e1, .string e2, .int .i64 e3, .bool e4] 44 (0, 0))) :
    W.cell? ⟨b, 0, none⟩ = some (.int .i64 e1) ∧ W.cell? ⟨b, 1, none⟩ = some (.string e2) ∧ W.cell? ⟨b, 2, none⟩ = some (.int .i64 e3) ∧ W.cell? ⟨b, 3, none⟩ = some (.bool e4) :=
  ⟨by rw [cell_of_row _ _ _ _ _ _ h]; rfl, by rw [cell_of_row _ _ _ _ _ _ h]; rfl, by rw [cell_of_row _ _ _ _ _ _ h]; rfl, by rw [cell_of_row _ _ _ _ _ _ h]; rfl⟩

set_option maxRecDepth 100000 in
set_option maxHeartbeats 8000000 in
theorem tables_any (W : World) (A : Option Addr) (n c : Nat) (es : List EdgeV) (e1 : Int) (e2 : ByteArray) (e3 : Int) (e4 : Bool) (he : RdE W (.slice A n c) es) (hz : Nz (.slice A n c)) (hlen : n ≤ 3518437208780) (hok : EdgeV.Ok (e1, e2, e3, e4)) :
    Calls Tryd.prog 9 #[.slice A n c, .agg #[.int .i64 e1, .string e2, .int .i64 e3, .bool e4]] W fun e W' => e = .returned (.bool true) ∧ Below W.heap.size W W' := by
  obtain ⟨i0, hi, hz0, hz1, hz2⟩ := info_parts info44
  have hn : es.length = n := by obtain ⟨_, _, e, _⟩ := he; injection e with _ e; exact e.symm
  have hcm : n ≤ c ∧ c ≤ 9223372036854775807 := by
    obtain ⟨_, _, e, k1, k2, _⟩ := he
    injection e with _ e1 e
    exact ⟨by rw [e, e1]; exact k1, by rw [e]; exact maxLen_eq ▸ k2⟩
  obtain ⟨hc1, hc2⟩ := hcm
  have HN := Lib.hid hn
  have HOK : Hid ((∀ e ∈ es, e.Ok) ∧ EdgeV.Ok (e1, e2, e3, e4)) := Lib.hid ⟨by obtain ⟨_, _, _, _, _, o, _⟩ := he; exact o, hok⟩
  have HZ := Lib.hid hz
  have hb0 : Below W.heap.size W (W.alloc (.cells #[.int .i64 e1, .string e2, .int .i64 e3, .bool e4] 44)) := (Below.refl _ _).alloc (Nat.le_refl _) _
  have HB : Hid (∀ W', Below (W.heap.size + 1) (W.alloc (.cells #[.int .i64 e1, .string e2, .int .i64 e3, .bool e4] 44)) W' → Below W.heap.size W W' ∧ W'.heap[W.heap.size]? = some (.cells #[.int .i64 e1, .string e2, .int .i64 e3, .bool e4] 44 (0, 0)) ∧ RdE W' (.slice A n c) es) := Lib.hid (fun W' hb => by
    have hb2 := below_lift hb0 (by simpa using hb)
    exact ⟨hb2, (hb.block _ (by simp)).trans (heap_alloc_new W _), he.below hb2⟩)
  have HQ0 : Hid (Below (W.heap.size + 1) (W.alloc (.cells #[.int .i64 e1, .string e2, .int .i64 e3, .bool e4] 44)) (W.alloc (.cells #[.int .i64 e1, .string e2, .int .i64 e3, .bool e4] 44))) := Lib.hid (Below.refl _ _)
  clear hb0 he hn hz hok
  go_enter Tryd.func9, Tryd.ntmps9
  go_wp2_with fail
  refine (newTable_any _ _ es (HB.out _ HQ0.out).2.2).mono ?_
  rintro e w1 ⟨t, rfl, ht, _, hb1⟩
  have HQ1 := Lib.hid (below_up (by simp) HQ0.out hb1)
  have HT := Lib.hid ht
  clear hb1 ht HQ0
  go_upto_region 2 with fail
  go_cut [6] from 18 to 153 (fun v6 wx => ∃ u, v6 = .pointer (some ⟨u, 0, none⟩) ∧ Hid (Below (W.heap.size + 1) (W.alloc (.cells #[.int .i64 e1, .string e2, .int .i64 e3, .bool e4] 44)) wx ∧ TbsS t u W.heap.size es e1 e2 e3 e4 wx))
  case first =>
    have hr : Below w1.heap.size w1 w1.drew := (Below.refl _ _).drew
    obtain ⟨d0, d1, d2, d3⟩ := box44 (HB.out _ (below_up (by simp) HQ1.out hr)).2.1
    refine wp_region_held_drew (S := fun W' => W'.cell? ⟨W.heap.size, 0, none⟩ = some (.int .i64 e1) ∧ W'.cell? ⟨W.heap.size, 1, none⟩ = some (.string e2) ∧ W'.cell? ⟨W.heap.size, 2, none⟩ = some (.int .i64 e3) ∧ W'.cell? ⟨W.heap.size, 3, none⟩ = some (.bool e4)) (by kernel_rfl) ⟨d0, d1, d2, d3⟩ (fun hHeld => ?_)
    refine takeD (i := 0) (v := .slice A n c) 18 rfl rfl (by kernel_rfl) (by kernel_rfl) (by kernel_rfl) (fun _ _ _ h => h) (Or.inl ⟨by rfl, fun W hW => by obtain ⟨k0, k1, k2, k3⟩ := hW; go_simp⟩) hHeld ?_
    simp only [Act.put, List.setIfInBounds_toArray, List.set_cons_zero, List.set_cons_succ]
    refine takeD (i := 2) (v := .agg #[.int .i64 e1, .string e2, .int .i64 e3, .bool e4]) 20 rfl rfl (by kernel_rfl) (by kernel_rfl) (by kernel_rfl) (fun _ _ _ h => h) (Or.inl ⟨by rfl, fun W hW => by obtain ⟨k0, k1, k2, k3⟩ := hW; go_simp⟩) hHeld ?_
    simp only [Act.put, List.setIfInBounds_toArray, List.set_cons_zero, List.set_cons_succ]
    refine wpAnyH_ready (rs := [1, 3]) (by kernel_rfl) (by simp) (AllReadyH.cons rfl (fun K hK => ?_) (AllReadyH.cons rfl (fun K hK => ?_) AllReadyH.nil))
    · go_simp
      go_wp2_with (go_at_call 28; refine (copyEdges_any _ A n c es (HB.out _ (below_up (by simp) HQ1.out hr)).2.2 HZ.out (by omega)).mono ?_; rintro e w2 ⟨v2, rfl, ho2, hb2⟩; obtain ⟨A2, c2, rfl⟩ := own_form ho2; have hr := below_lift hr hb2; obtain ⟨d0, d1, d2, d3⟩ := box44 (HB.out _ (below_up (by simp) HQ1.out hr)).2.1)
      refine hK.out _ _ ⟨d0, d1, d2, d3⟩ (fun hHeld => ?_)
      clear hK K
      try simp only [Act.put, List.setIfInBounds_toArray, List.set_cons_zero, List.set_cons_succ]
      refine wpAnyH_ready (rs := [3]) (by kernel_rfl) (by simp) (AllReadyH.cons rfl (fun K hK => ?_) AllReadyH.nil)
      have hr := hr.alloc hr.size (.cells #[.int .i64 e1, .string e2, .int .i64 e3, .bool e4] 44)
      obtain ⟨d0, d1, d2, d3⟩ := box44 (HB.out _ (below_up (by simp) HQ1.out hr)).2.1
      go_simp
      refine hK.out _ _ ⟨d0, d1, d2, d3⟩ (fun hHeld => ?_)
      clear hK K
      try simp only [Act.put, List.setIfInBounds_toArray, List.set_cons_zero, List.set_cons_succ]
      have HBK := heap_alloc_new w2 (.cells #[.int .i64 e1, .string e2, .int .i64 e3, .bool e4] 44)
      refine wpAnyH_ready (rs := [4]) (by kernel_rfl) (by simp) (AllReadyH.cons rfl (fun K hK => ?_) AllReadyH.nil)
      rw [if_pos (by rfl)]
      refine wp_append_own _ _ _ 35 rfl w1.heap.size 44 i0 (.agg #[.int .i64 0, .string ByteArray.empty, .int .i64 0, .bool false]) 4 40 Tryd.underlying35 hi hz0 hz1 hz2 rfl (by decide) (.slice A2 n c2) n (edgesC es) rfl (ho2.alloc _) ⟨w2.heap.size, 0, none⟩ 1 1 [.int .i64 e1, .string e2, .int .i64 e3, .bool e4] rfl rfl (World.news_of_block (cs := #[.int .i64 e1, .string e2, .int .i64 e3, .bool e4]) (t := 44) (fr := (0, 0)) HBK) (by simp [Value.oneCell']) (by rw [maxLen_eq]; omega) (by omega) (by have := hb2.size; simp at this ⊢; omega) ?_
      intro v4 w4 hown4 hg4 _
      obtain ⟨A4, c4, rfl⟩ := own_form hown4
      have hown4 : w4.ownsRow w1.heap.size 44 4 (.slice A4 (n + 1) c4) (n + 1) (edgesC es ++ [.int .i64 e1, .string e2, .int .i64 e3, .bool e4]) := hown4
      have hr4 : RdE w4 (.slice A4 (n + 1) c4) (es ++ [(e1, e2, e3, e4)]) := by
        refine RdE.of_own (B := w1.heap.size) ?_ (fun x hx => (List.mem_append.1 hx).elim (HOK.out.1 x) (fun h => by rw [List.mem_singleton.1 h]; exact HOK.out.2))
        rw [List.length_append, HN.out, ← edgesC_snoc, edgeC_cells]
        exact hown4
      have hr := hr.trans ((below_grown0 (ho2.alloc _) (by have := hb2.size; simp at this ⊢; omega) hg4).mono (by simp))
      obtain ⟨d0, d1, d2, d3⟩ := box44 (HB.out _ (below_up (by simp) HQ1.out hr)).2.1
      clear hown4 hg4
      refine hK.out _ _ ⟨d0, d1, d2, d3⟩ (fun hHeld => ?_)
      clear hK K
      try simp only [Act.put, List.setIfInBounds_toArray]
      refine wpAnyH_ready (rs := [5]) (by kernel_rfl) (by simp) (AllReadyH.cons rfl (fun K hK => ?_) AllReadyH.nil)
      go_simp
      go_wp2_with (go_at_call 22; refine (newTable_any _ _ _ hr4).mono ?_; rintro e w5 ⟨u, rfl, hu, _, hb5⟩; have hr := below_lift hr hb5; obtain ⟨d0, d1, d2, d3⟩ := box44 (HB.out _ (below_up (by simp) HQ1.out hr)).2.1)
      have HR := Lib.hid (show Below (W.heap.size + 1) (W.alloc (.cells #[.int .i64 e1, .string e2, .int .i64 e3, .bool e4] 44)) w5 ∧ TbsS t u W.heap.size es e1 e2 e3 e4 w5 from ⟨below_up (by simp) HQ1.out hr, HT.out.below hr, hu, (HB.out _ (below_up (by simp) HQ1.out hr)).2.1⟩)
      refine hK.out _ _ ⟨d0, d1, d2, d3⟩ (fun hHeld => ?_)
      clear hK K
      try simp only [Act.put, List.setIfInBounds_toArray, List.set_cons_zero, List.set_cons_succ]
      refine takeD (i := 6) (v := .pointer (some ⟨u, 0, none⟩)) 6 rfl rfl (by kernel_rfl) (by kernel_rfl) (by kernel_rfl) (fun _ _ _ h => h) (Or.inl ⟨by rfl, fun W hW => by obtain ⟨k0, k1, k2, k3⟩ := hW; go_simp⟩) hHeld ?_
      try simp only [Act.put, List.setIfInBounds_toArray, List.set_cons_zero, List.set_cons_succ]
      refine wpAnyH_done (by kernel_rfl) ?_ _
      go_wp2_with fail
      go_meet
      case rel => exact ⟨u, rfl, HR⟩
    · have hr := hr.alloc hr.size (.cells #[.int .i64 e1, .string e2, .int .i64 e3, .bool e4] 44)
      obtain ⟨d0, d1, d2, d3⟩ := box44 (HB.out _ (below_up (by simp) HQ1.out hr)).2.1
      go_simp
      refine hK.out _ _ ⟨d0, d1, d2, d3⟩ (fun hHeld => ?_)
      clear hK K
      try simp only [Act.put, List.setIfInBounds_toArray, List.set_cons_zero, List.set_cons_succ]
      refine wpAnyH_ready (rs := [1]) (by kernel_rfl) (by simp) (AllReadyH.cons rfl (fun K hK => ?_) AllReadyH.nil)
      go_simp
      go_wp2_with (go_at_call 28; refine (copyEdges_any _ A n c es (HB.out _ (below_up (by simp) HQ1.out hr)).2.2 HZ.out (by omega)).mono ?_; rintro e w2 ⟨v2, rfl, ho2, hb2⟩; obtain ⟨A2, c2, rfl⟩ := own_form ho2; have hr := below_lift hr hb2; obtain ⟨d0, d1, d2, d3⟩ := box44 (HB.out _ (below_up (by simp) HQ1.out hr)).2.1)
      refine hK.out _ _ ⟨d0, d1, d2, d3⟩ (fun hHeld => ?_)
      clear hK K
      try simp only [Act.put, List.setIfInBounds_toArray, List.set_cons_zero, List.set_cons_succ]
      have HBK := (hb2.block w1.heap.size (by simp)).trans (heap_alloc_new w1.drew (.cells #[.int .i64 e1, .string e2, .int .i64 e3, .bool e4] 44))
      refine wpAnyH_ready (rs := [4]) (by kernel_rfl) (by simp) (AllReadyH.cons rfl (fun K hK => ?_) AllReadyH.nil)
      rw [if_pos (by rfl)]
      refine wp_append_own _ _ _ 35 rfl (w1.heap.size + 1) 44 i0 (.agg #[.int .i64 0, .string ByteArray.empty, .int .i64 0, .bool false]) 4 40 Tryd.underlying35 hi hz0 hz1 hz2 rfl (by decide) (.slice A2 n c2) n (edgesC es) rfl (show w2.ownsRow (w1.heap.size + 1) 44 4 _ n _ by simpa using ho2) ⟨w1.heap.size, 0, none⟩ 1 1 [.int .i64 e1, .string e2, .int .i64 e3, .bool e4] rfl rfl (World.news_of_block (cs := #[.int .i64 e1, .string e2, .int .i64 e3, .bool e4]) (t := 44) (fr := (0, 0)) HBK) (by simp [Value.oneCell']) (by rw [maxLen_eq]; omega) (by omega) (by have := hb2.size; simp at this ⊢; omega) ?_
      intro v4 w4 hown4 hg4 _
      obtain ⟨A4, c4, rfl⟩ := own_form hown4
      have hown4 : w4.ownsRow (w1.heap.size + 1) 44 4 (.slice A4 (n + 1) c4) (n + 1) (edgesC es ++ [.int .i64 e1, .string e2, .int .i64 e3, .bool e4]) := hown4
      have hr4 : RdE w4 (.slice A4 (n + 1) c4) (es ++ [(e1, e2, e3, e4)]) := by
        refine RdE.of_own (B := (w1.heap.size + 1)) ?_ (fun x hx => (List.mem_append.1 hx).elim (HOK.out.1 x) (fun h => by rw [List.mem_singleton.1 h]; exact HOK.out.2))
        rw [List.length_append, HN.out, ← edgesC_snoc, edgeC_cells]
        exact hown4
      have hr := hr.trans ((below_grown0 (show w2.ownsRow (w1.heap.size + 1) 44 4 _ n _ by simpa using ho2) (by have := hb2.size; simp at this ⊢; omega) hg4).mono (by simp))
      obtain ⟨d0, d1, d2, d3⟩ := box44 (HB.out _ (below_up (by simp) HQ1.out hr)).2.1
      clear hown4 hg4
      refine hK.out _ _ ⟨d0, d1, d2, d3⟩ (fun hHeld => ?_)
      clear hK K
      try simp only [Act.put, List.setIfInBounds_toArray]
      refine wpAnyH_ready (rs := [5]) (by kernel_rfl) (by simp) (AllReadyH.cons rfl (fun K hK => ?_) AllReadyH.nil)
      go_simp
      go_wp2_with (go_at_call 22; refine (newTable_any _ _ _ hr4).mono ?_; rintro e w5 ⟨u, rfl, hu, _, hb5⟩; have hr := below_lift hr hb5; obtain ⟨d0, d1, d2, d3⟩ := box44 (HB.out _ (below_up (by simp) HQ1.out hr)).2.1)
      have HR := Lib.hid (show Below (W.heap.size + 1) (W.alloc (.cells #[.int .i64 e1, .string e2, .int .i64 e3, .bool e4] 44)) w5 ∧ TbsS t u W.heap.size es e1 e2 e3 e4 w5 from ⟨below_up (by simp) HQ1.out hr, HT.out.below hr, hu, (HB.out _ (below_up (by simp) HQ1.out hr)).2.1⟩)
      refine hK.out _ _ ⟨d0, d1, d2, d3⟩ (fun hHeld => ?_)
      clear hK K
      try simp only [Act.put, List.setIfInBounds_toArray, List.set_cons_zero, List.set_cons_succ]
      refine takeD (i := 6) (v := .pointer (some ⟨u, 0, none⟩)) 6 rfl rfl (by kernel_rfl) (by kernel_rfl) (by kernel_rfl) (fun _ _ _ h => h) (Or.inl ⟨by rfl, fun W hW => by obtain ⟨k0, k1, k2, k3⟩ := hW; go_simp⟩) hHeld ?_
      try simp only [Act.put, List.setIfInBounds_toArray, List.set_cons_zero, List.set_cons_succ]
      refine wpAnyH_done (by kernel_rfl) ?_ _
      go_wp2_with fail
      go_meet
      case rel => exact ⟨u, rfl, HR⟩
  case rest =>
    obtain ⟨u, rfl, HR⟩ := hcut
    clear HT HQ1
    obtain ⟨d0, d1, d2, d3⟩ := box44 HR.out.2.box
    have hlt := heap_lt HR.out.2.box
    go_wp2_with fail
    refine (first_any wc).mono ?_
    rintro e w2 ⟨rfl, hb2⟩
    have HR2 := Lib.hid (And.intro (below_up (by simp) HR.out.1 hb2) (HR.out.2.below hb2))
    clear hb2 HR d0 d1 d2 d3 hlt
    obtain ⟨d0, d1, d2, d3⟩ := box44 HR2.out.2.box
    have hlt := heap_lt HR2.out.2.box
    go_wp2_with fail
    refine (look_any w2 u _ HR2.out.2.t2 e1 e2 HOK.out.2.1 HOK.out.2.2.1).mono ?_
    rintro e w3 ⟨rfl, hb3⟩
    have HR3 := Lib.hid (And.intro (below_up (by simp) HR2.out.1 hb3) (HR2.out.2.below hb3))
    clear hb3 HR2 d0 d1 d2 d3 hlt
    obtain ⟨d0, d1, d2, d3⟩ := box44 HR3.out.2.box
    have hlt := heap_lt HR3.out.2.box
    have hn1 : lookT (es ++ [(e1, e2, e3, e4)]) e1 e2 = if 1 ≤ e3 then (e3, e4) else lookT es e1 e2 := by
      rw [lookT_snoc]
      by_cases h : 1 ≤ e3
      · rw [if_pos ⟨h, rfl, rfl⟩, if_pos h]
      · rw [if_neg (fun x => h x.1), if_neg h]
    obtain ⟨⟨y1, y2⟩, hY⟩ : ∃ Y, lookT (es ++ [(e1, e2, e3, e4)]) e1 e2 = Y := ⟨_, rfl⟩
    rw [hY] at hn1 ⊢
    have HY := Lib.hid hn1
    clear hn1 hY
    go_wp2_with fail
    refine (look_any w3 t _ HR3.out.2.t1 e1 e2 HOK.out.2.1 HOK.out.2.2.1).mono ?_
    rintro e w4 ⟨rfl, hb4⟩
    have HR4 := Lib.hid (And.intro (below_up (by simp) HR3.out.1 hb4) (HR3.out.2.below hb4))
    clear hb4 HR3 d0 d1 d2 d3 hlt
    obtain ⟨d0, d1, d2, d3⟩ := box44 HR4.out.2.box
    have hlt := heap_lt HR4.out.2.box
    obtain ⟨⟨x1, x2⟩, hX⟩ : ∃ X, lookT es e1 e2 = X := ⟨_, rfl⟩
    rw [hX] at HY ⊢
    clear hX
    have hne4 : (e4 != e4) = false := by cases e4 <;> rfl
    have hnx2 : (x2 != x2) = false := by cases x2 <;> rfl
    have hY : (1 ≤ e3 ∧ e3 = y1 ∧ e4 = y2) ∨ (¬ 1 ≤ e3 ∧ x1 = y1 ∧ x2 = y2) := by
      by_cases h : 1 ≤ e3
      · have := HY.out
        rw [if_pos h] at this
        injection this with k1 k2
        exact .inl ⟨h, by omega, by rw [k2]⟩
      · have := HY.out
        rw [if_neg h] at this
        injection this with k1 k2
        exact .inr ⟨h, by omega, by rw [k2]⟩
    clear HY
    rcases hY with ⟨h1, rfl, rfl⟩ | ⟨h1, rfl, rfl⟩
    all_goals
      go_wp2_with fail
      go_loopw [11] (fun v11 wr => ∃ i : Nat, i ≤ n ∧ v11 = .int .i64 i ∧ Hid (Below (W.heap.size + 1) (W.alloc (.cells #[.int .i64 e1, .string e2, .int .i64 e3, .bool e4] 44)) wr ∧ TbsS t u W.heap.size es e1 e2 e3 e4 wr)) (fun v11 _ => n - (intOf v11).toNat)
      case atStart => exact ⟨0, by omega, rfl, HR4⟩
      case round =>
        clear HR4 d0 d1 d2 d3 hlt
        obtain ⟨i, hi, rfl, HX⟩ := hrel
        by_cases hil : i < n
        · obtain ⟨A', c', e, k1, k2, k4, k3⟩ := (HB.out _ HX.out.1).2.2
          injection e with j1 j2 j3
          subst j1 j3
          obtain ⟨g, off, rfl, hgw, hh⟩ := k3 (by rw [HN.out]; omega)
          obtain ⟨⟨a1, a2, a3, a4⟩, hs⟩ : ∃ x, es[i]? = some x := ⟨_, List.getElem?_eq_getElem (by rw [HN.out]; exact hil)⟩
          have hr := hh i _ hs
          have hao := HOK.out.1 _ (List.mem_of_getElem? hs)
          have HLM := Lib.hid (lookT_mem (List.mem_of_getElem? hs))
          have c0 : wr.cell? ⟨g, off + i * 4, none⟩ = some (.int .i64 a1) := hr 0 _ rfl
          have c1 : wr.cell? ⟨g, off + i * 4 + 1, none⟩ = some (.string a2) := hr 1 _ rfl
          have c2 : wr.cell? ⟨g, off + i * 4 + 2, none⟩ = some (.int .i64 a3) := hr 2 _ rfl
          obtain ⟨d0, d1, d2, d3⟩ := box44 HX.out.2.box
          have hlt := heap_lt HX.out.2.box
          clear hr hh hs k1 k2 k3 k4 j2
          have hgX := World.block_lt_of_cell? wr _ c0
          by_cases hk : a1 = e1 ∧ a2 = e2
          · have hd1 : (a1 == e1) = true := by rw [hk.1]; simp
            have hd2 : (a2.toList == e2.toList) = true := by rw [hk.2]; simp
            clear hk
            go_wp2_with fail
            go_quiet (fail)
            go_wp2_with fail
            go_roundw
            case rel => exact ⟨i + 1, by omega, by go_num, Lib.hid ⟨Below.drewN HX.out.1 _, HX.out.2.below (Below.drewN (Below.refl _ _) _)⟩⟩
            case measure => simp [intOf]; omega
          · have hEq : lookT (es ++ [(e1, e2, e3, e4)]) a1 a2 = lookT es a1 a2 := by rw [lookT_snoc, if_neg (fun h => hk ⟨h.2.1.symm, h.2.2.symm⟩)]
            obtain ⟨⟨z1, z2⟩, hZ⟩ : ∃ Z, lookT es a1 a2 = Z := ⟨_, rfl⟩
            rw [hZ] at HLM
            have HEQ := Lib.hid hEq
            have HZZ := Lib.hid hZ
            clear hEq hZ
            have hd : (a1 == e1) = false ∨ ((a1 == e1) = true ∧ (a2.toList == e2.toList) = false) := by
              by_cases h1 : a1 = e1
              · refine .inr ⟨by rw [h1]; simp, ?_⟩
                rw [beq_eq_false_iff_ne]
                intro e
                rw [toList_bys, toList_bys] at e
                exact hk ⟨h1, bys_inj e⟩
              · exact .inl (by rw [beq_eq_false_iff_ne]; exact h1)
            clear hk
            rcases hd with hd1 | ⟨hd1, hd2⟩
            all_goals
              go_wp2_with fail
              go_quiet (fail)
              have HX := Lib.hid (And.intro (Below.drewN HX.out.1 nq) (HX.out.2.below (Below.drewN (Below.refl _ _) nq)))
              have c0 : (wr.drewN nq).cell? ⟨g, off + i * 4, none⟩ = some (.int .i64 a1) := c0
              have c1 : (wr.drewN nq).cell? ⟨g, off + i * 4 + 1, none⟩ = some (.string a2) := c1
              have c2 : (wr.drewN nq).cell? ⟨g, off + i * 4 + 2, none⟩ = some (.int .i64 a3) := c2
              have hgX : g < (wr.drewN nq).heap.size := hgX
              generalize wr.drewN nq = wr2 at *
              clear d0 d1 d2 d3 hlt
              go_wp2_with fail
              have c0 : wr2.drew.cell? ⟨g, off + i * 4, none⟩ = some (.int .i64 a1) := c0
              have c1 : wr2.drew.cell? ⟨g, off + i * 4 + 1, none⟩ = some (.string a2) := c1
              have c2 : wr2.drew.cell? ⟨g, off + i * 4 + 2, none⟩ = some (.int .i64 a3) := c2
              have hgX : g < wr2.drew.heap.size := hgX
              have HX := Lib.hid (And.intro HX.out.1.drew (HX.out.2.below (Below.refl _ _).drew))
              first
                | go_region_held (fun W' => W'.cell? ⟨g, off + i * 4, none⟩ = some (.int .i64 a1) ∧ W'.cell? ⟨g, off + i * 4 + 1, none⟩ = some (.string a2)) (exact ⟨c0, c1⟩) (first | (go_at_call 25; refine (look_any _ t _ HX.out.2.t1 a1 a2 hao.1 hao.2.1).mono ?_; rintro e wX ⟨rfl, hbX⟩; rw [HZZ.out]; have HX := Lib.hid (And.intro (below_up (by simp) HX.out.1 hbX) (HX.out.2.below hbX)); have c0 := (hbX.cell hgX).trans c0; have c1 := (hbX.cell hgX).trans c1; have c2 := (hbX.cell hgX).trans c2; have hgX := Nat.lt_of_lt_of_le hgX hbX.size))
                | fail
              go_wp2_with fail
              have c0 : wX.drew.cell? ⟨g, off + i * 4, none⟩ = some (.int .i64 a1) := c0
              have c1 : wX.drew.cell? ⟨g, off + i * 4 + 1, none⟩ = some (.string a2) := c1
              have c2 : wX.drew.cell? ⟨g, off + i * 4 + 2, none⟩ = some (.int .i64 a3) := c2
              have hgX : g < wX.drew.heap.size := hgX
              have HX := Lib.hid (And.intro HX.out.1.drew (HX.out.2.below (Below.refl _ _).drew))
              first
                | go_region_held (fun W' => W'.cell? ⟨g, off + i * 4, none⟩ = some (.int .i64 a1) ∧ W'.cell? ⟨g, off + i * 4 + 1, none⟩ = some (.string a2)) (exact ⟨c0, c1⟩) (first | (go_at_call 25; refine (look_any _ u _ HX.out.2.t2 a1 a2 hao.1 hao.2.1).mono ?_; rintro e wX ⟨rfl, hbX⟩; rw [HEQ.out, HZZ.out]; have HX := Lib.hid (And.intro (below_up (by simp) HX.out.1 hbX) (HX.out.2.below hbX)); have c0 := (hbX.cell hgX).trans c0; have c1 := (hbX.cell hgX).trans c1; have c2 := (hbX.cell hgX).trans c2; have hgX := Nat.lt_of_lt_of_le hgX hbX.size))
                | fail
              have hz2 : (z2 != z2) = false := by cases z2 <;> rfl
              by_cases h3 : 1 ≤ a3
              · have hz1 : 1 ≤ z1 := HLM.out h3
                go_wp2_with fail
                go_roundw
                case rel => exact ⟨i + 1, by omega, by go_num, HX⟩
                case measure => simp [intOf]; omega
              · go_wp2_with fail
                go_roundw
                case rel => exact ⟨i + 1, by omega, by go_num, HX⟩
                case measure => simp [intOf]; omega
        · obtain rfl : i = n := by omega
          go_wp2_with fail
          go_ret
          exact ⟨rfl, (HB.out _ HX.out.1).1⟩

theorem PathTables.walk (W : World) (v : Value) (ho : EdgesV W v) (u : Value) (hp : EdV u) : Calls Tryd.prog 9 #[v, u] W fun e W' => e = .returned (.bool true) ∧ Below W.heap.size W W' := by
  obtain ⟨es, he, hl, hz⟩ := ho
  obtain ⟨⟨e1, e2, e3, e4⟩, rfl, hok⟩ := hp
  obtain ⟨A, c, rfl, r⟩ := he
  exact tables_any W A _ c es e1 e2 e3 e4 ⟨A, c, rfl, r⟩ hz hl hok

end Go.Proofs.YtpombeiabgbpiaaDoor
