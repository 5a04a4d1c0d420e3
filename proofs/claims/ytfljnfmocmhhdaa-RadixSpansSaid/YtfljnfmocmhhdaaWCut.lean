/-
Cut of a tree of ints.
-/
import Derived.Test.YtfljnfmocmhhdaaWKit
namespace Go.Proofs.Ytfljnfmocmhhdaa
open Go.RowKit Go.Shelf
attribute [local go_sem] Oper.semAt_some

theorem info3 : (Try.prog.info? 3).map (fun i => (i.zero, i.size, i.bytes)) = some (some (.int .i64 0), 1, 8) := by kernel_rfl

theorem boxes5 (w : World) (t0 t1 t2 t3 t4 : TypeId) (v0 v1 v2 v3 v4 : Value) (W : World) (hW : ((((w.alloc (.cells #[v0] t0)).alloc (.cells #[v1] t1)).alloc (.cells #[v2] t2)).alloc (.cells #[v3] t3)).alloc (.cells #[v4] t4) = W) :
    W.heap.size = w.heap.size + 5 ∧ Boxed W w.heap.size t0 v0 ∧ Boxed W (w.heap.size + 1) t1 v1 ∧ Boxed W (w.heap.size + 1 + 1) t2 v2 ∧ Boxed W (w.heap.size + 1 + 1 + 1) t3 v3 ∧ Boxed W (w.heap.size + 1 + 1 + 1 + 1) t4 v4 ∧ Below w.heap.size w W := by
  subst hW
  refine ⟨by simp, ?_, ?_, ?_, ?_, ?_, ?_⟩
  · exact ((((Boxed.new w t0 v0).alloc _).alloc _).alloc _).alloc _
  · have := Boxed.new (w.alloc (.cells #[v0] t0)) t1 v1
    rw [World.size_alloc] at this
    exact ((this.alloc _).alloc _).alloc _
  · have := Boxed.new ((w.alloc (.cells #[v0] t0)).alloc (.cells #[v1] t1)) t2 v2
    rw [World.size_alloc, World.size_alloc] at this
    exact (this.alloc _).alloc _
  · have := Boxed.new (((w.alloc (.cells #[v0] t0)).alloc (.cells #[v1] t1)).alloc (.cells #[v2] t2)) t3 v3
    rw [World.size_alloc, World.size_alloc, World.size_alloc] at this
    exact this.alloc _
  · have := Boxed.new ((((w.alloc (.cells #[v0] t0)).alloc (.cells #[v1] t1)).alloc (.cells #[v2] t2)).alloc (.cells #[v3] t3)) t4 v4
    rw [World.size_alloc, World.size_alloc, World.size_alloc, World.size_alloc] at this
    exact this
  · exact (((((Below.refl _ _).alloc (Nat.le_refl _) _).alloc (by simp) _).alloc (by simp; omega) _).alloc (by simp; omega) _).alloc (by simp; omega) _

/-- between two rounds -/
structure CutI (w : World) (r : Nat) (f : Nat → Int) (lb : Nat → Nat) (B : Nat) (pre : List (Nat × Int)) (W : World) : Prop where
  b0 : Boxed W w.heap.size 25 (.pointer (some ⟨r, 0, none⟩))
  b1 : Boxed W (w.heap.size + 1) 3 (.int .i64 0)
  row : ∃ v, Boxed W (w.heap.size + 1 + 1) 32 v ∧ W.ownsRow B 3 1 v pre.length (pre.map fun x => .int .i64 x.2)
  tree : TreeI W r (clr f pre) lb
  chg : Chg (Of lb) w W
theorem CutI.sim {w : World} {r : Nat} {f : Nat → Int} {lb : Nat → Nat} {B B0 : Nat} {pre : List (Nat × Int)} {X Y : World} (h : CutI w r f lb B pre X) (hs : Sim B0 X Y) (hB : w.heap.size ≤ B0) : CutI w r f lb B pre Y := by
  obtain ⟨v, hv, hr⟩ := h.row
  exact ⟨boxed_sim h.b0 hs, boxed_sim h.b1 hs, ⟨v, boxed_sim hv hs, own_sim hr hs⟩, h.tree.sim hs, h.chg.sim hs hB⟩

set_option maxRecDepth 100000 in
set_option maxHeartbeats 4000000 in
theorem cut_any (w : World) (r : Nat) (f : Nat → Int) (lb : Nat → Nat) (h : TreeI w r f lb) (off : Int) (ho1 : -9223372036854775808 ≤ off) :
    CallsIn Fence.wide 6 Try.prog 20 #[.pointer (some ⟨r, 0, none⟩), .int .i64 off] w fun e w' => ∃ v, e = .returned v ∧
      w'.ownsRow w.heap.size 3 1 v (items f 0 off 512).length ((items f 0 off 512).map fun x => .int .i64 x.2) ∧ TreeI w' r (cutI f off) lb ∧ Chg (Of lb) w w' := by
  obtain ⟨i0, hi, hz0, hz1, hz2⟩ := info_parts info3
  have HT := Lib.hid h
  clear h
  refine callsIn_of_wp_marks Try.func20 rfl trivial ?_ rfl
  simp only [Try.ntmps20, List.size_toArray, List.length_cons, List.length_nil, Nat.reduceAdd, Nat.reduceSub, Array.replicate_succ, Array.replicate_zero, List.push_toArray, List.append_toArray, List.nil_append, List.cons_append]
  gi_wp2_with (refine ⟨trivial, ?_⟩; gi_at_call 18; refine (callsIn_wide.2 (from_any _ r off)).mono ?_; rintro e w1 ⟨rfl, rfl⟩)
  obtain ⟨W0, hW0⟩ : ∃ W, ((((w.alloc (.cells #[.pointer (some ⟨r, 0, none⟩)] 25)).alloc (.cells #[.int .i64 0] 3)).alloc (.cells #[.slice none 0 0] 32)).alloc (.cells #[.pointer (some ⟨r, 0, none⟩)] 25)).alloc (.cells #[.int .i64 off] 3) = W := ⟨_, rfl⟩
  obtain ⟨hsz, bx0, bx1, bx2, bx3, bx4, hbl⟩ := boxes5 _ _ _ _ _ _ _ _ _ _ _ W0 hW0
  rw [hW0]
  obtain ⟨c, hgv⟩ := from_gives W0 r f lb (HT.out.below hbl) off ho1 (w.heap.size + 1 + 1 + 1 + 1) (w.heap.size + 1 + 1 + 1) bx4.cell bx3.cell
  have hTd := HT.out.dom
  refine range_law rfl (by omega) (gf := 51) (lb := #[.pointer (some ⟨w.heap.size + 1 + 1 + 1 + 1, 0, none⟩), .pointer (some ⟨w.heap.size + 1 + 1 + 1, 0, none⟩)]) rfl trivial (enters_of Try.func51 (by kernel_rfl) rfl) (hgv _) (fun _ => rfl)
    (CutI w r f lb (W0.heap.size + 2 + c)) (fun _ _ _ => False) (fun pre A B h hs => h.sim hs (by omega)) (fun _ _ _ _ h _ => h)
    ⟨bx0, bx1, ⟨_, bx2, World.ownsRow_nil _ _ _ _⟩, (HT.out.below hbl).congr (fun i _ => by simp [clr]), Chg.of_below _ hbl⟩
    (fun x a' _ => a' = { tmps := #[.pointer (some ⟨r, 0, none⟩), .int .i64 off, .pointer (some ⟨w.heap.size, 0, none⟩), undef, .slice none 0 0, .pointer (some ⟨w.heap.size + 1, 0, none⟩), .pointer (some ⟨w.heap.size + 1 + 1, 0, none⟩), .int .i64 x.1, .int .i64 x.2, .pointer (some ⟨r, 0, none⟩), .int .i64 off,
      .func (.func 51) #[] #[.pointer (some ⟨w.heap.size + 1 + 1 + 1 + 1, 0, none⟩), .pointer (some ⟨w.heap.size + 1 + 1 + 1, 0, none⟩)], .int .i64 x.1, .int .i64 x.2, undef, undef, undef, undef, undef, undef, undef, undef, undef], defers := [] })
    (fun _ _ _ _ h _ => h) ?assign ?body ?done ?stop
  case assign =>
    intro l pre x W K hi _ _ hK
    have HK := Lib.hid (hK _ _ (Held.refl _ _ _ _) hi rfl)
    clear hK hi
    simp only [encI]
    gi_wp2
    exact HK.out
  case body =>
    rintro l pre x a' W hI rfl hpx hwz _ _ _
    obtain ⟨v, hv, hr⟩ := hI.row
    obtain ⟨hx1, _, _, _⟩ := items_mem (hpx.subset (by simp : x ∈ pre ++ [x]))
    have hlen : pre.length + 1 ≤ 512 := by
      have h1 := hpx.length_le
      have h2 := items_len f 0 off 512
      simp at h1
      omega
    have c2 := hv.cell
    have c0 := hI.b0.cell
    have c1 := hI.b1.cell
    have HI := Lib.hid hI
    have HV := Lib.hid hv
    have HR := Lib.hid hr
    have Hpx := Lib.hid hpx
    clear hI hv hr hpx
    gi_wp2_with (gi_at_builtin; refine wpListIn_append_own _ rfl _ _ 32 rfl (W0.heap.size + 2 + c) 3 i0 (.int .i64 0) 1 8 Try.underlying32 hi hz0 hz1 hz2 rfl (by decide) v pre.length _ rfl (HR.out.alloc _) ⟨W.heap.size, 0, none⟩ 1 1 [.int .i64 x.2] rfl rfl (cell_one_new _ _ _) (by simp [Value.oneCell']) (by simp only [maxLen]; omega) (by omega) (by simp; omega) ?_; intro v' w1 hown' hgrow _; obtain ⟨g', cap', rfl⟩ := ownsRow_succ hown'; have hrow := (HR.out.lt); have hbx := (HV.out.alloc (.cells #[.int .i64 x.2] 3)).kept hgrow (fun e => by have := hrow _ e.symm; omega); have hbx0 := (HI.out.b0.alloc (.cells #[.int .i64 x.2] 3)).kept hgrow (fun e => by have := hrow _ e.symm; omega); have hbx1 := (HI.out.b1.alloc (.cells #[.int .i64 x.2] 3)).kept hgrow (fun e => by have := hrow _ e.symm; omega); have hc2 := hbx.cell; have hf2 := hbx.frozen; have hc0 := hbx0.cell; have hc1 := hbx1.cell; have HX := Lib.hid (And.intro hown' (And.intro hgrow (And.intro hbx (And.intro hbx0 hbx1)))); clear hrow hown' hgrow hbx hbx0 hbx1)
    obtain ⟨hown', hgrow, hbx, hbx0, hbx1⟩ := HX.out
    have hrow := HR.out.lt
    have hch : Chg (fun b => b = w.heap.size + 1 + 1 ∨ v.ownBlock = some b) W (w1.setCell ⟨w.heap.size + 1 + 1, 0, none⟩ (.slice (some ⟨g', 0, none⟩) (pre.length + 1) cap')) :=
      (((Chg.refl _ W).alloc _).grown hgrow (fun k e _ => .inr e)).setCell (p := ⟨w.heap.size + 1 + 1, 0, none⟩) (fun _ => .inl rfl) _
    have ht2 := HI.out.tree.chg hch (fun b hb => by
      rintro (rfl | e)
      · have := hTd _ hb; omega
      · have h1 := hrow _ e; have h2 := hTd _ hb; omega)
    have hb0 := hbx0.other (B' := w.heap.size + 1 + 1) (by omega) (.slice (some ⟨g', 0, none⟩) (pre.length + 1) cap')
    have hb1 := hbx1.other (B' := w.heap.size + 1 + 1) (by omega) (.slice (some ⟨g', 0, none⟩) (pre.length + 1) cap')
    have hb2 := hbx.set (.slice (some ⟨g', 0, none⟩) (pre.length + 1) cap')
    have ho2 := hown'.kept (grownBy_setCell' w1 (w.heap.size + 1 + 1) (.slice (some ⟨g', 0, none⟩) (pre.length + 1) cap')) (.inr (fun e => by have := (hown'.lt _ e).1; omega))
    refine ⟨trivial, ?_⟩
    refine (CallsIn.inRound l (callsIn_wide.2 (set_zero _ r _ lb ht2 x.1 hx1))).mono ?_
    rintro e W3 ⟨rfl, ht3, hc3⟩
    have hn3 : ∀ b, w.heap.size ≤ b → ¬ Of lb b := fun b hb h => by have := hTd _ h; omega
    have HD : Hid (Held W0.heap.size (W0.heap.size + 2) c W W3 ∧ CutI w r f lb (W0.heap.size + 2 + c) (pre ++ [x]) W3) := by
      have hD : Chg (fun b => (b = w.heap.size + 1 + 1 ∨ v.ownBlock = some b) ∨ Of lb b) W W3 := (hch.mono (fun _ _ h => .inl h)).trans hc3 (fun _ _ h => .inr h)
      refine ⟨Held.of_chg hD ?_ ?_ hwz, boxed_chg hb0 hc3 (hn3 _ (Nat.le_refl _)), boxed_chg hb1 hc3 (hn3 _ (by omega)), ⟨_, boxed_chg hb2 hc3 (hn3 _ (by omega)), ?_⟩, ?_, ?_⟩
      · rintro b ((rfl | e) | h) hb
        · omega
        · exact own_cells HR.out e
        · exact (hn3 b (by omega) h).elim
      · rintro b ((rfl | e) | h) hb
        · omega
        · have := hrow _ e; omega
        · exact hn3 b (by omega) h
      · have := own_chg ho2 hc3 (fun k e => hn3 k (by have := (ho2.lt _ e).1; omega))
        rw [List.length_append, List.map_append]
        exact this
      · rw [clr_snoc]; exact ht3
      · refine HI.out.chg.trans hD ?_
        rintro b hb ((rfl | e) | h)
        · omega
        · have := hrow _ e; omega
        · exact h
    clear hown' hgrow hbx hbx0 hbx1 hrow hch ht2 hb0 hb1 hb2 ho2 ht3 hc3 HX HI HV HR
    gi_wp2
    exact HD.out
  case done =>
    rintro D W hD hI hK
    obtain ⟨v, hv, hr⟩ := hI.row
    have c2 := hv.cell
    have HI := Lib.hid hI
    have HR := Lib.hid hr
    have HK := Lib.hid hK
    clear hI hv hr hK
    gi_wp2
    refine ⟨by simp, .inl ⟨_, _, rfl, run_takeDeferred HK.out, ?_⟩⟩
    refine ⟨_, results_tmp rfl _ _ _, _, rfl, ?_, ?_, ?_⟩
    · exact ownsRow_putObj (own_base HR.out (by omega)) _ HK.out rfl
    · exact (HI.out.tree.congr (fun i hi => clr_all f off i hi)).sim (Sim.putObj W _ hD HK.out rfl)
    · exact HI.out.chg.sim (Sim.putObj W _ hD HK.out rfl) (by omega)
  case stop =>
    rintro D j pre W _ _ h _
    exact h.elim

/-- Cut, for a plain walk -/
theorem cut_calls (w : World) (r : Nat) (f : Nat → Int) (lb : Nat → Nat) (h : TreeI w r f lb) (off : Int) (ho1 : -9223372036854775808 ≤ off) :
    Calls Try.prog 20 #[.pointer (some ⟨r, 0, none⟩), .int .i64 off] w fun e w' => ∃ v, e = .returned v ∧
      w'.ownsRow w.heap.size 3 1 v (items f 0 off 512).length ((items f 0 off 512).map fun x => .int .i64 x.2) ∧ TreeI w' r (cutI f off) lb ∧ Chg (Of lb) w w' :=
  callsIn_wide.1 (cut_any w r f lb h off ho1)

end Go.Proofs.Ytfljnfmocmhhdaa
