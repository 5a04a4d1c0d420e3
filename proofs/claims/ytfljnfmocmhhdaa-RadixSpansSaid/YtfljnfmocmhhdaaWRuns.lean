/-
Runs of a tree of ints.
-/
import Derived.Test.YtfljnfmocmhhdaaRuns
import Derived.Deep.AppendLies
namespace Go.Proofs.Ytfljnfmocmhhdaa
open Go.RowKit Go.Shelf
attribute [local go_sem] Oper.semAt_some

theorem info66 : (Try.prog.info? 66).map (fun i => (i.zero, i.size, i.bytes)) = some (some (.agg #[.int .i64 0, .int .i64 0, .int .i64 0]), 3, 24) := by kernel_rfl

/-- between two rounds -/
structure RunI (w : World) (B : Nat) (l : List Run) (W : World) : Prop where
  row : ∃ v, Boxed W w.heap.size 63 v ∧ W.ownsRow B 66 3 v l.length (cellsR l)
  bel : Below w.heap.size w W
theorem RunI.sim {w : World} {B B0 : Nat} {l : List Run} {X Y : World} (h : RunI w B l X) (hs : Sim B0 X Y) (hB : w.heap.size ≤ B0) : RunI w B l Y := by
  obtain ⟨v, hv, hr⟩ := h.row
  exact ⟨⟨v, boxed_sim hv hs, own_sim hr hs⟩, ⟨hs.os.trans h.bel.os, hs.tape.trans h.bel.tape, hs.output.trans h.bel.output, Nat.le_trans h.bel.size hs.size, fun k hk => (hs.low k (by omega)).trans (h.bel.block k hk)⟩⟩

/-- behind 'l = append(l, run)' -/
theorem RunI.append {w W w1 : World} {B B0 c m : Nat} {l : List Run} (h : RunI w B l W) (hB : B = B0 + 2 + c) (hB0 : w.heap.size < B0) (hz : B0 + 2 + c ≤ W.heap.size) {v v' : Value} {x : Run} (hv : Boxed W w.heap.size 63 v) (hr : W.ownsRow B 66 3 v l.length (cellsR l)) {t : TypeId} {cs : Array Value}
    (hown : w1.ownsRow B 66 3 v' (l.length + 1) (cellsR l ++ [.int .i64 x.1, .int .i64 x.2.1, .int .i64 x.2.2])) (hg : ((W.drewN m).alloc (.cells cs t)).grownBy w1 v.ownBlock) :
    Held B0 (B0 + 2) c W (w1.setCell ⟨w.heap.size, 0, none⟩ v') ∧ RunI w B (l ++ [x]) (w1.setCell ⟨w.heap.size, 0, none⟩ v') := by
  have hlt := hr.lt
  have hch : Chg (fun b => b = w.heap.size ∨ v.ownBlock = some b) W (w1.setCell ⟨w.heap.size, 0, none⟩ v') :=
    ((((Chg.refl _ W).drewN m).alloc _).grown hg (fun k e _ => .inr e)).setCell (p := ⟨w.heap.size, 0, none⟩) (fun _ => .inl rfl) _
  have hb1 : Boxed w1 w.heap.size 63 v := boxed_chg hv ((((Chg.refl (fun b => v.ownBlock = some b) W).drewN m).alloc (.cells cs t)).grown hg (fun k e _ => e)) (fun e => by have := hlt _ e; omega)
  refine ⟨Held.of_chg hch ?_ ?_ hz, ⟨v', hb1.set v', ?_⟩, ?_⟩
  · rintro b (rfl | e) hb
    · omega
    · exact own_cells hr e
  · rintro b (rfl | e) hb
    · omega
    · have := hlt _ e; omega
  · rw [cellsR_append, List.length_append]
    exact hown.kept (grownBy_setCell' w1 _ v') (.inr (fun e => by have := (hown.lt _ e).1; omega))
  · refine h.bel.trans (hch.below _ h.bel.size ?_)
    rintro b hb (rfl | e)
    · omega
    · have := hlt _ e; omega
/-- behind 'l[k].Count++' -/
theorem RunI.bump {w W : World} {B B0 c m : Nat} {l : List Run} {o p q : Int} (h : RunI w B (l ++ [(o, p, q)]) W) (hB : B = B0 + 2 + c) (hB0 : w.heap.size < B0) (hz : B0 + 2 + c ≤ W.heap.size) {g cap : Nat} (hv : Boxed W w.heap.size 63 (.slice (some ⟨g, 0, none⟩) (l.length + 1) cap))
    (hr : W.ownsRow B 66 3 (.slice (some ⟨g, 0, none⟩) (l.length + 1) cap) (l.length + 1) (cellsR (l ++ [(o, p, q)]))) :
    Held B0 (B0 + 2) c W ((W.drewN m).setCell ⟨g, l.length * 3 + 2, none⟩ (.int .i64 (q + 1))) ∧ RunI w B (l ++ [(o, p, q + 1)]) ((W.drewN m).setCell ⟨g, l.length * 3 + 2, none⟩ (.int .i64 (q + 1))) := by
  have hlt := (hr.lt g rfl).1
  have hch : Chg (fun b => b = g) W ((W.drewN m).setCell ⟨g, l.length * 3 + 2, none⟩ (.int .i64 (q + 1))) := ((Chg.refl (fun b => b = g) W).drewN m).setCell (p := ⟨g, l.length * 3 + 2, none⟩) (fun _ => rfl) _
  refine ⟨Held.of_chg hch ?_ ?_ hz, ⟨_, boxed_chg hv hch (by omega), ?_⟩, ?_⟩
  · rintro b rfl hb
    exact own_cells hr rfl
  · rintro b rfl hb
    omega
  · have := own_set (own_chg hr ((Chg.refl (fun _ => False) W).drewN m) (fun _ _ h => h)) (l.length * 3 + 2) (.int .i64 (q + 1))
    rw [cellsR_bump] at this
    simpa using this
  · exact h.bel.trans (hch.below _ h.bel.size (fun b hb e => by omega))

set_option maxRecDepth 100000 in
set_option maxHeartbeats 4000000 in
theorem runs_any (w : World) (r : Nat) (f : Nat → Int) (lb : Nat → Nat) (h : TreeI w r f lb) :
    CallsIn Fence.wide 6 Try.prog 37 #[.pointer (some ⟨r, 0, none⟩)] w fun e w' => ∃ v, e = .returned v ∧
      w'.ownsRow w.heap.size 66 3 v (runsOf (items f 0 0 512)).length (cellsR (runsOf (items f 0 0 512))) ∧ Below w.heap.size w w' := by
  obtain ⟨i0, hi, hz0, hz1, hz2⟩ := info_parts info66
  have HT := Lib.hid h
  clear h
  refine callsIn_of_wp_marks Try.func37 rfl trivial ?_ rfl
  simp only [Try.ntmps37, List.size_toArray, List.length_cons, List.length_nil, Nat.reduceAdd, Nat.reduceSub, Array.replicate_succ, Array.replicate_zero, List.push_toArray, List.append_toArray, List.nil_append, List.cons_append]
  gi_wp2_with (refine ⟨trivial, ?_⟩; gi_at_call 18; refine (callsIn_wide.2 (from_any _ r 0)).mono ?_; rintro e w2 ⟨rfl, rfl⟩)
  obtain ⟨W0, hW0⟩ : ∃ W, ((w.alloc (.cells #[.slice none 0 0] 63)).alloc (.cells #[.pointer (some ⟨r, 0, none⟩)] 25)).alloc (.cells #[.int .i64 0] 3) = W := ⟨_, rfl⟩
  obtain ⟨hsz, bx0, bx1, bx2, hbl⟩ := boxes3 _ _ _ _ _ _ _ W0 _ rfl hW0
  rw [hW0]
  obtain ⟨c, hgv⟩ := from_gives W0 r f lb (HT.out.below hbl) 0 (by omega) (w.heap.size + 1 + 1) (w.heap.size + 1) bx2.cell bx1.cell
  refine range_law rfl (by omega) (gf := 51) (lb := #[.pointer (some ⟨w.heap.size + 1 + 1, 0, none⟩), .pointer (some ⟨w.heap.size + 1, 0, none⟩)]) rfl trivial (enters_of Try.func51 (by kernel_rfl) rfl) (hgv _) (fun _ => rfl)
    (fun pre W => RunI w (W0.heap.size + 2 + c) (runsOf pre) W) (fun _ _ _ => False) (fun pre A B h hs => h.sim hs (by omega)) (fun _ _ _ _ h _ => h)
    ⟨⟨_, bx0, World.ownsRow_nil _ _ _ _⟩, hbl⟩
    (fun x a' _ => a' = { tmps := #[.pointer (some ⟨r, 0, none⟩), undef, .slice none 0 0, .pointer (some ⟨w.heap.size, 0, none⟩), .int .i64 x.1, .int .i64 x.2, undef, .pointer (some ⟨r, 0, none⟩), .func (.func 51) #[] #[.pointer (some ⟨w.heap.size + 1 + 1, 0, none⟩), .pointer (some ⟨w.heap.size + 1, 0, none⟩)],
      .int .i64 x.1, .int .i64 x.2, undef, undef, undef, undef, undef, undef, undef, undef, undef, undef, undef, undef, undef, undef, undef, undef, undef, undef, undef, undef, undef, undef, undef, undef, undef, undef, undef, undef, undef, undef, undef, undef, undef, undef, undef, undef, undef, undef, undef, undef, undef, undef, undef, undef, undef, undef, undef, undef, undef, undef], defers := [] })
    (fun _ _ _ _ h _ => h) ?assign ?body ?done ?stop
  case assign =>
    intro l pre x W K hi _ _ hK
    have HK := Lib.hid (hK _ _ (Held.refl _ _ _ _) hi rfl)
    clear hK hi
    simp only [encI]
    gi_wp2
    exact HK.out
  case body =>
    rintro l pre ⟨a, pg⟩ a' W hI rfl hpx hwz _ _ _
    obtain ⟨hx1, _, hx2, hx3⟩ := items_mem (hpx.subset (by simp : (a, pg) ∈ pre ++ [(a, pg)]))
    simp only at hx1
    have hmem : ∀ y ∈ pre, y.1 < 512 := fun y hy => (items_mem (hpx.subset (by simp [hy] : y ∈ pre ++ [(a, pg)]))).1
    obtain ⟨hinv, hlen⟩ := runsOf_inv pre hmem
    have hpl : pre.length + 1 ≤ 512 := by
      have h1 := hpx.length_le
      have h2 := items_len f 0 0 512
      simp at h1
      omega
    have HS := Lib.hid (runsOf_snoc pre (a, pg))
    clear hmem hpx hx2 hx3
    obtain ⟨v, hv, hr⟩ := hI.row
    have HI := Lib.hid hI
    have HV := Lib.hid hv
    have HR := Lib.hid hr
    generalize hrl : runsOf pre = rl at *
    clear hrl hI
    rcases List.eq_nil_or_concat rl with rfl | ⟨m, ⟨o, p, q⟩, rfl⟩
    · obtain ⟨A, cap, rfl, _⟩ := own_slice hr
      have c0 := hv.cell
      clear hv hr
      rw [stepR_nil] at HS
      gi_wp2
      refine region_round l rfl (by kernel_rfl) (by kernel_rfl) (by kernel_rfl) ?_
      repeat (gi_big_quiet_step (fail))
      refine wpQuietIn_nil ?_
      intro _ hw'
      obtain ⟨nq, hw''⟩ := hw'
      subst hw''
      have HRq : Hid ((W.drewN nq).ownsRow (W0.heap.size + 2 + c) 66 3 (.slice A 0 cap) (0) ([])) := HR.out
      gi_wp2_with (gi_at_builtin; refine wpListIn_append_own _ rfl _ _ 63 rfl (W0.heap.size + 2 + c) 66 i0 (.agg #[.int .i64 0, .int .i64 0, .int .i64 0]) 3 24 Try.underlying63 hi hz0 hz1 hz2 rfl (by decide) (.slice A 0 cap) (0) ([]) rfl (HRq.out.alloc _) ⟨W.heap.size, 0, none⟩ 1 1 [.int .i64 a, .int .i64 pg, .int .i64 1] rfl rfl (World.news_of_block (cs := #[.int .i64 a, .int .i64 pg, .int .i64 1]) (t := 66) (fr := (0, 0)) (heap_alloc_new (W.drewN nq) _)) (by simp [Value.oneCell']) (by simp only [maxLen]; omega) (by omega) (by simp; omega) ?_; intro v' w1 hown' hgrow _; obtain ⟨g', cap', rfl⟩ := ownsRow_succ hown'; have hb1 : Boxed w1 w.heap.size 63 (.slice A 0 cap) := boxed_chg HV.out ((((Chg.refl (fun b => Value.ownBlock (.slice A 0 cap) = some b) W).drewN nq).alloc _).grown hgrow (fun k e _ => e)) (fun e => by have := HR.out.lt _ e; omega); have hc1 := hb1.cell; have hf1 := hb1.frozen; clear hb1)
      have HE := Lib.hid (HI.out.append rfl (by omega) hwz (m := nq) (x := ((a : Int), pg, 1)) HV.out HR.out hown' hgrow)
      clear hown' hgrow
      gi_wp2
      exact ⟨HE.out.1, by dsimp only; rw [HS.out]; exact HE.out.2⟩
    · rw [List.concat_eq_append] at *
      obtain ⟨A, cap, rfl, hA⟩ := own_slice hr
      obtain ⟨g, rfl⟩ := hA (by simp)
      have hlen2 : (m ++ [(o, p, q)]).length = m.length + 1 := by simp
      rw [hlen2] at hv hr HV HR hlen
      have c0 := hv.cell
      have d0 := (own_at hr (cellsR_last m o p q 0 (by omega))).1
      have d1 := (own_at hr (cellsR_last m o p q 1 (by omega))).1
      obtain ⟨d2, f2⟩ := own_at hr (cellsR_last m o p q 2 (by omega))
      obtain ⟨q1, q2, q3⟩ := hinv (o, p, q) (by simp)
      simp only [Nat.add_zero, if_true, if_false, Nat.one_ne_zero, (by decide : ¬ (2 = 0)), (by decide : ¬ (2 = 1))] at d0 d1 d2 q1 q2 q3
      clear hv hr hinv hA
      by_cases hyes : o + q = a ∧ wrap64 (p + q) = pg
      · have e1 : (o + q == (a : Int)) = true := by simpa using hyes.1
        have e2 : (wrap64 (p + q) == pg) = true := by simpa using hyes.2
        rw [stepR_yes _ _ _ _ _ _ hyes.1 hyes.2] at HS
        have HE := Lib.hid (fun nq => HI.out.bump rfl (by omega) hwz (m := nq) HV.out HR.out)
        clear hyes hlen2
        generalize m.length = k at *
        gi_wp2
        refine region_round l rfl (by kernel_rfl) (by kernel_rfl) (by kernel_rfl) ?_
        repeat (gi_big_quiet_step (fail))
        refine wpQuietIn_nil ?_
        intro _ hw'
        obtain ⟨nq, hw''⟩ := hw'
        subst hw''
        gi_wp2
        exact ⟨(HE.out nq).1, by dsimp only; rw [HS.out]; exact (HE.out nq).2⟩
      · rw [stepR_no _ _ _ _ _ _ hyes] at HS
        have e12 : (o + q == (a : Int)) = false ∨ ((o + q == (a : Int)) = true ∧ (wrap64 (p + q) == pg) = false) := by
          by_cases h1 : o + q = a
          · exact .inr ⟨by simpa using h1, by simpa using fun h2 => hyes ⟨h1, h2⟩⟩
          · exact .inl (by simpa using h1)
        have HL2 := Lib.hid hlen2
        rw [← hlen2] at HV HR
        clear hyes hlen2
        rcases e12 with e1 | ⟨e1, e2⟩
        all_goals
          gi_wp2
          refine region_round l rfl (by kernel_rfl) (by kernel_rfl) (by kernel_rfl) ?_
          repeat (gi_big_quiet_step (fail))
          refine wpQuietIn_nil ?_
          intro _ hw'
          obtain ⟨nq, hw''⟩ := hw'
          subst hw''
          have HRq : Hid ((W.drewN nq).ownsRow (W0.heap.size + 2 + c) 66 3 (.slice (some ⟨g, 0, none⟩) (m.length + 1) cap) (m.length + 1) (cellsR (m ++ [(o, p, q)]))) := by rw [← HL2.out]; exact HR.out
          gi_wp2_with (gi_at_builtin; refine wpListIn_append_own _ rfl _ _ 63 rfl (W0.heap.size + 2 + c) 66 i0 (.agg #[.int .i64 0, .int .i64 0, .int .i64 0]) 3 24 Try.underlying63 hi hz0 hz1 hz2 rfl (by decide) (.slice (some ⟨g, 0, none⟩) (m.length + 1) cap) (m.length + 1) (cellsR (m ++ [(o, p, q)])) rfl (HRq.out.alloc _) ⟨W.heap.size, 0, none⟩ 1 1 [.int .i64 a, .int .i64 pg, .int .i64 1] rfl rfl (World.news_of_block (cs := #[.int .i64 a, .int .i64 pg, .int .i64 1]) (t := 66) (fr := (0, 0)) (heap_alloc_new (W.drewN nq) _)) (by simp [Value.oneCell']) (by simp only [maxLen]; omega) (by omega) (by simp; omega) ?_; intro v' w1 hown' hgrow _; obtain ⟨g', cap', rfl⟩ := ownsRow_succ hown'; have hb1 : Boxed w1 w.heap.size 63 (.slice (some ⟨g, 0, none⟩) (m.length + 1) cap) := boxed_chg (by rw [← HL2.out]; exact HV.out) ((((Chg.refl (fun b => Value.ownBlock (.slice (some ⟨g, 0, none⟩) (m.length + 1) cap) = some b) W).drewN nq).alloc _).grown hgrow (fun k e _ => e)) (fun e => by have := HR.out.lt _ e; omega); have hc1 := hb1.cell; have hf1 := hb1.frozen; clear hb1)
          have HE := Lib.hid (HI.out.append rfl (by omega) hwz (m := nq) (x := ((a : Int), pg, 1)) HV.out HR.out (by rw [HL2.out]; exact hown') hgrow)
          clear hown' hgrow
          gi_wp2
          exact ⟨HE.out.1, by dsimp only; rw [HS.out]; exact HE.out.2⟩
  case done =>
    rintro D W hD hI hK
    obtain ⟨v, hv, hr⟩ := hI.row
    have c0 := hv.cell
    have HI := Lib.hid hI
    have HR := Lib.hid hr
    have HK := Lib.hid hK
    clear hI hv hr hK
    gi_wp2
    refine ⟨by simp, .inl ⟨_, _, rfl, run_takeDeferred HK.out, ?_⟩⟩
    have hs := Sim.putObj W (.deferred none) hD HK.out rfl
    refine ⟨_, results_tmp rfl _ _ _, _, rfl, ownsRow_putObj (own_base HR.out (by omega)) _ HK.out rfl, ?_⟩
    exact (HI.out.sim hs (by omega)).bel
  case stop =>
    rintro D j pre W _ _ h _
    exact h.elim

end Go.Proofs.Ytfljnfmocmhhdaa
