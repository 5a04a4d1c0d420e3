/-
Cut of a tree of spans.
-/
import Derived.Test.YtfljnfmocmhhdaaPWCopy
import Derived.Test.YtfljnfmocmhhdaaRuns
import Derived.Deep.AppendLies
import Derived.Maps.OwnIn
namespace Go.Proofs.Ytfljnfmocmhhdaa.Spn
open Go.RowKit Go.Shelf
attribute [local go_sem] Oper.semAt_some

theorem info56 : (Try.prog.info? 56).map (fun i => (i.zero, i.size, i.bytes)) = some (some (.agg #[.int .i64 0, .int .i64 0]), 2, 16) := by kernel_rfl

/-- a variable that is a span -/
def BoxS (W : World) (b : Nat) (x y : Int) : Prop := W.heap[b]? = some (.cells #[.int .i64 x, .int .i64 y] 56 (0, 0))
theorem BoxS.cells {W : World} {b : Nat} {x y : Int} (h : BoxS W b x y) : W.cell? ⟨b, 0, none⟩ = some (.int .i64 x) ∧ W.cell? ⟨b, 1, none⟩ = some (.int .i64 y) := by
  rw [cell_of_row _ _ _ _ _ _ h, cell_of_row _ _ _ _ _ _ h]; exact ⟨rfl, rfl⟩
theorem BoxS.chg {D : Nat → Prop} {W W' : World} {b : Nat} {x y : Int} (h : BoxS W b x y) (hc : Chg D W W') (hn : ¬ D b) : BoxS W' b x y := hc.heap h hn
theorem BoxS.sim {B0 : Nat} {A B : World} {b : Nat} {x y : Int} (h : BoxS A b x y) (hs : Sim B0 A B) : BoxS B b x y := hs.cells _ _ _ _ h
theorem BoxS.below {A B : World} {b : Nat} {x y : Int} (h : BoxS A b x y) (hb : Below A.heap.size A B) : BoxS B b x y := (hb.block b (heap_lt h)).trans h
theorem HeldO.of_chg {D O : Nat → Prop} {W W' : World} {B0 s : Nat} (h : Chg D W W') (h1 : ∀ b, D b → B0 ≤ b → ∃ cs t fr, W.heap[b]? = some (.cells cs t fr)) (h2 : ∀ b, D b → s ≤ b → O b) : HeldO B0 s O W W' :=
  ⟨h.size, fun b o hb ho hc => (h.block b (heap_lt ho) (fun hd => by obtain ⟨cs, t, fr, e⟩ := h1 b hd hb; rw [ho] at e; cases e; cases hc)).trans ho,
    fun b hb1 hb2 hb3 => h.block b hb2 (fun hd => hb3 (h2 b hd hb1))⟩
def cellsS (l : List (Nat × (Int × Int))) : List Value := l.flatMap fun x => [.int .i64 x.2.1, .int .i64 x.2.2]
theorem cellsS_snoc (l : List (Nat × (Int × Int))) (x : Nat × (Int × Int)) : cellsS (l ++ [x]) = cellsS l ++ [.int .i64 x.2.1, .int .i64 x.2.2] := by simp [cellsS]

/-- between two rounds -/
structure CutI (w : World) (r : Nat) (f : Nat → Int × Int) (lb : Nat → Nat) (B : Nat) (O : Nat → Prop) (pre : List (Nat × (Int × Int))) (W : World) : Prop where
  b0 : Boxed W w.heap.size 53 (.pointer (some ⟨r, 0, none⟩))
  b1 : BoxS W (w.heap.size + 1) 0 0
  row : ∃ v, Boxed W (w.heap.size + 1 + 1) 60 v ∧ W.ownsRow B 56 2 v pre.length (cellsS pre) ∧ ∀ b, v.ownBlock = some b → O b
  dom : ∀ b, O b → b < W.heap.size
  tree : TreeI W r (clr f pre) lb
  chg : Chg (Of lb) w W
theorem CutI.sim {w : World} {r : Nat} {f : Nat → Int × Int} {lb : Nat → Nat} {B B0 : Nat} {O : Nat → Prop} {pre : List (Nat × (Int × Int))} {X Y : World} (h : CutI w r f lb B O pre X) (hs : Sim B0 X Y) (hB : w.heap.size ≤ B0) : CutI w r f lb B O pre Y := by
  obtain ⟨v, hv, hr, ho⟩ := h.row
  exact ⟨boxed_sim h.b0 hs, h.b1.sim hs, ⟨v, boxed_sim hv hs, own_sim hr hs, ho⟩, fun b hb => Nat.lt_of_lt_of_le (h.dom b hb) hs.size, h.tree.sim hs, h.chg.sim hs hB⟩

set_option maxRecDepth 100000 in
set_option maxHeartbeats 4000000 in
theorem cut_any (w : World) (r : Nat) (f : Nat → Int × Int) (lb : Nat → Nat) (h : TreeI w r f lb) (off : Int) (ho1 : -9223372036854775808 ≤ off) :
    CallsIn Fence.wide 6 Try.prog 36 #[.pointer (some ⟨r, 0, none⟩), .int .i64 off] w fun e w' => ∃ v, e = .returned v ∧ TreeI w' r (cutI f off) lb ∧ Chg (Of lb) w w' := by
  obtain ⟨i0, hi, hz0, hz1, hz2⟩ := info_parts info56
  have HT := Lib.hid h
  clear h
  refine callsIn_of_wp_marks Try.func36 rfl trivial ?_ rfl
  simp only [Try.ntmps36, List.size_toArray, List.length_cons, List.length_nil, Nat.reduceAdd, Nat.reduceSub, Array.replicate_succ, Array.replicate_zero, List.push_toArray, List.append_toArray, List.nil_append, List.cons_append]
  gi_wp2_with (refine ⟨trivial, ?_⟩; gi_at_call 59; refine (callsIn_wide.2 (from_any _ r off)).mono ?_; rintro e w1 ⟨rfl, rfl⟩)
  obtain ⟨W0, hW0⟩ : ∃ W, ((((w.alloc (.cells #[.pointer (some ⟨r, 0, none⟩)] 53)).alloc (.cells #[.int .i64 0, .int .i64 0] 56)).alloc (.cells #[.slice none 0 0] 60)).alloc (.cells #[.pointer (some ⟨r, 0, none⟩)] 53)).alloc (.cells #[.int .i64 off] 3) = W := ⟨_, rfl⟩
  have hsz : W0.heap.size = w.heap.size + 5 := by rw [← hW0]; simp
  have hbl : Below w.heap.size w W0 := by
    rw [← hW0]; exact (((((Below.refl _ _).alloc (Nat.le_refl _) _).alloc (by simp) _).alloc (by simp; omega) _).alloc (by simp; omega) _).alloc (by simp; omega) _
  have bx0 : Boxed W0 w.heap.size 53 (.pointer (some ⟨r, 0, none⟩)) := by
    rw [← hW0]; exact ((((Boxed.new w _ _).alloc _).alloc _).alloc _).alloc _
  have bx1 : BoxS W0 (w.heap.size + 1) 0 0 := by
    rw [← hW0]
    have := heap_alloc_new (w.alloc (.cells #[.pointer (some ⟨r, 0, none⟩)] 53)) (.cells #[.int .i64 0, .int .i64 0] 56)
    rw [World.size_alloc] at this
    exact (Below.heap_alloc _ _ _ (by simp)).trans ((Below.heap_alloc _ _ _ (by simp)).trans ((Below.heap_alloc _ _ _ (by simp)).trans this))
  have bx2 : Boxed W0 (w.heap.size + 1 + 1) 60 (.slice none 0 0) := by
    rw [← hW0]
    have := Boxed.new ((w.alloc (.cells #[.pointer (some ⟨r, 0, none⟩)] 53)).alloc (.cells #[.int .i64 0, .int .i64 0] 56)) 60 (.slice none 0 0)
    rw [World.size_alloc, World.size_alloc] at this
    exact (this.alloc _).alloc _
  have bx3 : Boxed W0 (w.heap.size + 1 + 1 + 1) 53 (.pointer (some ⟨r, 0, none⟩)) := by
    rw [← hW0]
    have := Boxed.new (((w.alloc (.cells #[.pointer (some ⟨r, 0, none⟩)] 53)).alloc (.cells #[.int .i64 0, .int .i64 0] 56)).alloc (.cells #[.slice none 0 0] 60)) 53 (.pointer (some ⟨r, 0, none⟩))
    rw [World.size_alloc, World.size_alloc, World.size_alloc] at this
    exact this.alloc _
  have bx4 : Boxed W0 (w.heap.size + 1 + 1 + 1 + 1) 3 (.int .i64 off) := by
    rw [← hW0]
    have := Boxed.new ((((w.alloc (.cells #[.pointer (some ⟨r, 0, none⟩)] 53)).alloc (.cells #[.int .i64 0, .int .i64 0] 56)).alloc (.cells #[.slice none 0 0] 60)).alloc (.cells #[.pointer (some ⟨r, 0, none⟩)] 53)) 3 (.int .i64 off)
    rw [World.size_alloc, World.size_alloc, World.size_alloc, World.size_alloc] at this
    exact this
  rw [hW0]
  have hgv := from_gives W0 r f lb (HT.out.below hbl) off ho1 (w.heap.size + 1 + 1 + 1 + 1) (w.heap.size + 1 + 1 + 1) bx4.cell bx3.cell
  have hTd := HT.out.dom
  refine range_lawO rfl (by omega) (gf := 66) (lb := #[.pointer (some ⟨w.heap.size + 1 + 1 + 1 + 1, 0, none⟩), .pointer (some ⟨w.heap.size + 1 + 1 + 1, 0, none⟩)]) rfl trivial (enters_of Try.func66 (by kernel_rfl) rfl) (hgv _) (fun _ => rfl)
    (CutI w r f lb (W0.heap.size + 2)) (fun _ _ _ => False) (fun O pre A B h hs => h.sim hs (by omega)) (fun _ _ _ _ h _ => h)
    ⟨bx0, bx1, ⟨_, bx2, World.ownsRow_nil _ _ _ _, fun b h => by cases h⟩, fun _ h => h.elim, (HT.out.below hbl).congr (fun i _ => by simp [clr]), Chg.of_below _ hbl⟩
    (fun O pre A h => h.dom)
    (fun x a' W => ∃ Bx, BoxS W Bx x.2.1 x.2.2 ∧ a' = { tmps := #[.pointer (some ⟨r, 0, none⟩), .int .i64 off, .pointer (some ⟨w.heap.size, 0, none⟩), undef, .slice none 0 0, .pointer (some ⟨w.heap.size + 1, 0, none⟩), .pointer (some ⟨w.heap.size + 1 + 1, 0, none⟩), .int .i64 x.1, .pointer (some ⟨Bx, 0, none⟩), .pointer (some ⟨r, 0, none⟩), .int .i64 off,
      .func (.func 66) #[] #[.pointer (some ⟨w.heap.size + 1 + 1 + 1 + 1, 0, none⟩), .pointer (some ⟨w.heap.size + 1 + 1 + 1, 0, none⟩)], .int .i64 x.1, .agg #[.int .i64 x.2.1, .int .i64 x.2.2], undef, undef, undef, undef, undef, undef, undef, undef, undef], defers := [] })
    (fun x a' A B h hs => by obtain ⟨Bx, h1, h2⟩ := h; exact ⟨Bx, h1.sim hs, h2⟩) ?assign ?body ?done ?stop
  case assign =>
    intro l O pre x W K hi _ hwz hK
    have HK := Lib.hid hK
    have HI := Lib.hid hi
    clear hK hi
    simp only [encI, sp]
    gi_wp2
    exact HK.out _ _ ((Below.refl _ _).alloc (Nat.le_refl _) _) (HI.out.sim (B0 := W0.heap.size) (Sim.of_below ((Below.refl _ _).alloc (Nat.le_refl _) _) (by omega)) (by omega)) ⟨_, heap_alloc_new W _, rfl⟩
  case body =>
    rintro l O pre x a' W hI ⟨Bx, hbx, rfl⟩ hpx hwz _ _ _
    obtain ⟨v, hv, hr, ho⟩ := hI.row
    obtain ⟨hx1, _, _, _⟩ := items_mem (hpx.subset (by simp : x ∈ pre ++ [x]))
    have hlen : pre.length + 1 ≤ 512 := by
      have h1 := hpx.length_le
      have h2 := items_len f 0 off 512
      simp at h1
      omega
    have c2 := hv.cell
    obtain ⟨e1, e2⟩ := hbx.cells
    have HI := Lib.hid hI
    have HV := Lib.hid hv
    have HR := Lib.hid hr
    have HO := Lib.hid ho
    clear hI hv hr hpx ho hbx
    gi_wp2_with (gi_at_builtin; refine wpListIn_append_own_at _ rfl _ _ 60 rfl (W0.heap.size + 2) 56 i0 (.agg #[.int .i64 0, .int .i64 0]) 2 16 Try.underlying60 hi hz0 hz1 hz2 rfl (by decide) v pre.length _ rfl (HR.out.alloc _) ⟨W.heap.size, 0, none⟩ 1 1 [.int .i64 x.2.1, .int .i64 x.2.2] rfl rfl (World.news_of_block (cs := #[.int .i64 x.2.1, .int .i64 x.2.2]) (t := 56) (fr := (0, 0)) (heap_alloc_new W _)) (by simp [Value.oneCell']) (by simp only [maxLen]; omega) (by omega) (by simp; omega) ?_; intro v' w1 hown' hgrow _ hob; obtain ⟨g', cap', rfl⟩ := ownsRow_succ hown'; have hch0 : Chg (fun b => v.ownBlock = some b) W w1 := ((Chg.refl _ W).alloc _).grown hgrow (fun k e _ => e); have hrow := (HR.out.lt); have hbx2 := boxed_chg HV.out hch0 (fun e => by have := hrow _ e; omega); have hbx0 := boxed_chg HI.out.b0 hch0 (fun e => by have := hrow _ e; omega); have hbx1 := HI.out.b1.chg hch0 (fun e => by have := hrow _ e; omega); have hc2 := hbx2.cell; have hf2 := hbx2.frozen; have hc0 := hbx0.cell; have hz := hbx1.cells; have hc1 := hz.1; have hc1' := hz.2; have HX := Lib.hid (And.intro hown' (And.intro hch0 (And.intro hbx2 (And.intro hbx0 (And.intro hbx1 hob))))); clear hrow hown' hgrow hbx2 hbx0 hbx1 hch0 hz hob)
    obtain ⟨hown', hch0, hbx2, hbx0, hbx1, hob⟩ := HX.out
    have hrow := HR.out.lt
    have hch : Chg (fun b => b = w.heap.size + 1 + 1 ∨ v.ownBlock = some b) W (w1.setCell ⟨w.heap.size + 1 + 1, 0, none⟩ (.slice (some ⟨g', 0, none⟩) (pre.length + 1) cap')) :=
      (hch0.mono (fun _ _ e => .inr e)).setCell (p := ⟨w.heap.size + 1 + 1, 0, none⟩) (fun _ => .inl rfl) _
    have ht2 := HI.out.tree.chg hch (fun b hb => by
      rintro (rfl | e)
      · have := hTd _ hb; omega
      · have h1 := hrow _ e; have h2 := hTd _ hb; omega)
    have hst : Chg (fun b => b = w.heap.size + 1 + 1) w1 (w1.setCell ⟨w.heap.size + 1 + 1, 0, none⟩ (.slice (some ⟨g', 0, none⟩) (pre.length + 1) cap')) :=
      (Chg.refl (fun b => b = w.heap.size + 1 + 1) w1).setCell (p := ⟨w.heap.size + 1 + 1, 0, none⟩) (fun _ => rfl) _
    have hb0 := hbx0.other (B' := w.heap.size + 1 + 1) (by omega) (.slice (some ⟨g', 0, none⟩) (pre.length + 1) cap')
    have hb1 := hbx1.chg hst (by omega)
    have hb2 := hbx2.set (.slice (some ⟨g', 0, none⟩) (pre.length + 1) cap')
    have ho2 := hown'.kept (grownBy_setCell' w1 (w.heap.size + 1 + 1) (.slice (some ⟨g', 0, none⟩) (pre.length + 1) cap')) (.inr (fun e => by have := (hown'.lt _ e).1; omega))
    refine ⟨trivial, ?_⟩
    refine (CallsIn.inRound l (callsIn_wide.2 (set_zero _ r _ lb ht2 x.1 hx1))).mono ?_
    rintro e W3 ⟨rfl, ht3, hc3⟩
    have hn3 : ∀ b, w.heap.size ≤ b → ¬ Of lb b := fun b hb h => by have := hTd _ h; omega
    have hD : Chg (fun b => (b = w.heap.size + 1 + 1 ∨ v.ownBlock = some b) ∨ Of lb b) W W3 := (hch.mono (fun _ _ h => .inl h)).trans hc3 (fun _ _ h => .inr h)
    have ho3 := own_chg ho2 hc3 (fun k e => hn3 k (by have := (ho2.lt _ e).1; omega))
    have HD : Hid (HeldO W0.heap.size (W0.heap.size + 2) O W W3 ∧ ∃ O', CutI w r f lb (W0.heap.size + 2) O' (pre ++ [x]) W3 ∧ Grew W.heap.size O O') := by
      refine ⟨HeldO.of_chg hD ?_ ?_, fun b => (Value.slice (some ⟨g', 0, none⟩) (pre.length + 1) cap').ownBlock = some b, ⟨boxed_chg hb0 hc3 (hn3 _ (Nat.le_refl _)), hb1.chg hc3 (hn3 _ (by omega)), ⟨_, boxed_chg hb2 hc3 (hn3 _ (by omega)), ?_, fun b h => h⟩, fun b h => (ho3.lt _ h).2, ?_, ?_⟩, ?_⟩
      · rintro b ((rfl | e) | h) hb
        · omega
        · exact own_cells HR.out e
        · exact (hn3 b (by omega) h).elim
      · rintro b ((rfl | e) | h) hb
        · omega
        · exact HO.out b e
        · exact (hn3 b (by omega) h).elim
      · rw [List.length_append, cellsS_snoc]
        exact ho3
      · rw [clr_snoc]; exact ht3
      · refine HI.out.chg.trans hD ?_
        rintro b hb ((rfl | e) | h)
        · omega
        · have := hrow _ e; omega
        · exact h
      · intro b hb
        rcases hob with h | h
        · rw [h] at hb; exact .inl (HO.out b hb)
        · rw [h] at hb; obtain rfl := Option.some.inj hb; right; simp
    clear hown' hch0 hbx2 hbx0 hbx1 hob hrow hch ht2 hst hb0 hb1 hb2 ho2 ht3 hc3 hD ho3 HX HI HV HR HO
    gi_wp2
    exact HD.out
  case done =>
    rintro D O W hD hI hK
    obtain ⟨v, hv, hr, _⟩ := hI.row
    have c2 := hv.cell
    have HI := Lib.hid hI
    have HK := Lib.hid hK
    clear hI hv hr hK
    gi_wp2
    refine ⟨by simp, .inl ⟨_, _, rfl, run_takeDeferred HK.out, ?_⟩⟩
    refine ⟨_, results_tmp rfl _ _ _, _, rfl, ?_, ?_⟩
    · exact (HI.out.tree.congr (fun i hi => clr_all f off i hi)).sim (Sim.putObj W _ hD HK.out rfl)
    · exact HI.out.chg.sim (Sim.putObj W _ hD HK.out rfl) (by omega)
  case stop =>
    rintro D j pre W _ _ h _
    exact h.elim

/-- Cut, for a plain walk -/
theorem cut_calls (w : World) (r : Nat) (f : Nat → Int × Int) (lb : Nat → Nat) (h : TreeI w r f lb) (off : Int) (ho1 : -9223372036854775808 ≤ off) :
    Calls Try.prog 36 #[.pointer (some ⟨r, 0, none⟩), .int .i64 off] w fun e w' => ∃ v, e = .returned v ∧ TreeI w' r (cutI f off) lb ∧ Chg (Of lb) w w' :=
  callsIn_wide.1 (cut_any w r f lb h off ho1)

end Go.Proofs.Ytfljnfmocmhhdaa.Spn
