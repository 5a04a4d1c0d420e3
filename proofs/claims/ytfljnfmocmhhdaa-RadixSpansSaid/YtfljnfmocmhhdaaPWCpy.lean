/-
Copy of a tree of spans.
-/
import Derived.Test.YtfljnfmocmhhdaaPWCut
namespace Go.Proofs.Ytfljnfmocmhhdaa.Spn
open Go.RowKit Go.Shelf
attribute [local go_sem] Oper.semAt_some

/-- the tree behind Sets of all pairs that have come -/
def put (f : Nat → Int × Int) (pre : List (Nat × (Int × Int))) (i : Nat) : Int × Int := if i ∈ pre.map Prod.fst then f i else (0, 0)
theorem put_snoc (f : Nat → Int × Int) (pre : List (Nat × (Int × Int))) (x : Nat × (Int × Int)) (hx : f x.1 = x.2) : put f (pre ++ [x]) = upd (put f pre) x.1 x.2 := by
  funext i
  by_cases e : i = x.1
  · subst e; rw [upd_same]; simp [put, hx]
  · rw [upd_other _ _ e]
    unfold put
    have : (i ∈ List.map Prod.fst (pre ++ [x])) ↔ i ∈ List.map Prod.fst pre := by
      rw [List.map_append, List.mem_append]
      exact ⟨fun h => h.elim id (fun h => absurd (by simpa using h) e), .inl⟩
    simp only [this]
theorem put_all (f : Nat → Int × Int) (i : Nat) (hi : i < 512) : put f (items f 0 0 512) i = f i := by
  unfold put
  by_cases h : i ∈ (items f 0 0 512).map Prod.fst
  · rw [if_pos h]
  · rw [if_neg h]
    by_cases hf : f i = (0, 0)
    · exact hf.symm
    · exact (h (List.mem_map.2 ⟨_, items_has hi (by omega) hf, rfl⟩)).elim

/-- between two rounds of Copy -/
structure CpyI (w : World) (r2 : Nat) (f : Nat → Int × Int) (B0 : Nat) (O : Nat → Prop) (pre : List (Nat × (Int × Int))) (W : World) : Prop where
  box : Boxed W (w.heap.size + 2) 53 (.pointer (some ⟨r2, 0, none⟩))
  tree : ∃ lb, TreeI W r2 (put f pre) lb ∧ ∀ b, lb b ≠ 0 → w.heap.size ≤ b ∧ b ≠ w.heap.size + 2 ∧ (B0 ≤ b → O b)
  dom : ∀ b, O b → b < W.heap.size
  bel : Below w.heap.size w W
theorem CpyI.sim {w : World} {r2 : Nat} {f : Nat → Int × Int} {B0 Bs : Nat} {O : Nat → Prop} {pre : List (Nat × (Int × Int))} {X Y : World} (h : CpyI w r2 f B0 O pre X) (hs : Sim Bs X Y) (hB : w.heap.size ≤ Bs) : CpyI w r2 f B0 O pre Y := by
  obtain ⟨lb, ht, hl⟩ := h.tree
  exact ⟨boxed_sim h.box hs, ⟨lb, ht.sim hs, hl⟩, fun b hb => Nat.lt_of_lt_of_le (h.dom b hb) hs.size, ⟨hs.os.trans h.bel.os, hs.tape.trans h.bel.tape, hs.output.trans h.bel.output, Nat.le_trans h.bel.size hs.size, fun k hk => (hs.low k (by omega)).trans (h.bel.block k hk)⟩⟩

set_option maxRecDepth 100000 in
set_option maxHeartbeats 4000000 in
theorem copy_any (w : World) (r : Nat) (f : Nat → Int × Int) (lb : Nat → Nat) (h : TreeI w r f lb) :
    CallsIn Fence.wide 6 Try.prog 35 #[.pointer (some ⟨r, 0, none⟩)] w fun e w' => ∃ r2 lb2, e = .returned (.pointer (some ⟨r2, 0, none⟩)) ∧ TreeI w' r2 f lb2 ∧ (∀ b, lb2 b ≠ 0 → w.heap.size ≤ b) ∧ Below w.heap.size w w' := by
  have HT := Lib.hid h
  clear h
  refine callsIn_of_wp_marks Try.func35 rfl trivial ?_ rfl
  simp only [Try.ntmps35, List.size_toArray, List.length_cons, List.length_nil, Nat.reduceAdd, Nat.reduceSub, Array.replicate_succ, Array.replicate_zero, List.push_toArray, List.append_toArray, List.nil_append, List.cons_append]
  gi_wp2_with (first | (refine ⟨trivial, ?_⟩; gi_at_call 31; refine (callsIn_wide.2 (new_tree _)).mono ?_; rintro e w1 ⟨rfl, ht1, hb1, hs1⟩) | (refine ⟨trivial, ?_⟩; gi_at_call 59; refine (callsIn_wide.2 (from_any _ r 0)).mono ?_; rintro e w2 ⟨rfl, rfl⟩))
  obtain ⟨W0, hW0⟩ : ∃ W, ((w1.alloc (.cells #[.pointer (some ⟨w.heap.size + 1, 0, none⟩)] 53)).alloc (.cells #[.pointer (some ⟨r, 0, none⟩)] 53)).alloc (.cells #[.int .i64 0] 3) = W := ⟨_, rfl⟩
  obtain ⟨hsz, bx0, bx1, bx2, hbl⟩ := boxes3 _ _ _ _ _ _ _ W0 _ hs1 hW0
  rw [hW0]
  rw [← hs1] at hbl
  have hTd := HT.out.dom
  have hb0 : Below w.heap.size w W0 := hb1.trans (hbl.mono hb1.size)
  have hgv := from_gives W0 r f lb (HT.out.below hb0) 0 (by omega) (w.heap.size + 2 + 1 + 1) (w.heap.size + 2 + 1) bx2.cell bx1.cell
  refine range_lawO rfl (by omega) (gf := 66) (lb := #[.pointer (some ⟨w.heap.size + 2 + 1 + 1, 0, none⟩), .pointer (some ⟨w.heap.size + 2 + 1, 0, none⟩)]) rfl trivial (enters_of Try.func66 (by kernel_rfl) rfl) (hgv _) (fun _ => rfl)
    (CpyI w (w.heap.size + 1) f W0.heap.size) (fun _ _ _ => False) (fun O pre A B h hs => h.sim hs (by omega)) (fun _ _ _ _ h _ => h)
    ⟨bx0, ⟨_, (ht1.below hbl).congr (fun i _ => by simp [put]), fun b hb => by have := lbNew_ge hb; exact ⟨by omega, by omega, fun h => by omega⟩⟩, fun _ h => h.elim, hb0⟩
    (fun O pre A h => h.dom)
    (fun x a' W => ∃ Bx, BoxS W Bx x.2.1 x.2.2 ∧ a' = { tmps := #[.pointer (some ⟨r, 0, none⟩), undef, .pointer none, .pointer (some ⟨w.heap.size + 2, 0, none⟩), .int .i64 x.1, .pointer (some ⟨Bx, 0, none⟩), .pointer (some ⟨w.heap.size + 1, 0, none⟩), .pointer (some ⟨r, 0, none⟩),
      .func (.func 66) #[] #[.pointer (some ⟨w.heap.size + 2 + 1 + 1, 0, none⟩), .pointer (some ⟨w.heap.size + 2 + 1, 0, none⟩)], .int .i64 x.1, .agg #[.int .i64 x.2.1, .int .i64 x.2.2], undef, undef, undef, undef, undef], defers := [] })
    (fun x a' A B h hs => by obtain ⟨Bx, h1, h2⟩ := h; exact ⟨Bx, h1.sim hs, h2⟩) ?assign ?body ?done ?stop
  case assign =>
    intro l O pre x W K hi _ hwz hK
    have HK := Lib.hid hK
    have HI := Lib.hid hi
    clear hK hi
    simp only [encI, sp]
    gi_wp2
    exact HK.out _ _ ((Below.refl _ _).alloc (Nat.le_refl _) _) (HI.out.sim (B0 := W0.heap.size) (Bs := W0.heap.size) (Sim.of_below ((Below.refl _ _).alloc (Nat.le_refl _) _) (by omega)) (by omega)) ⟨_, heap_alloc_new W _, rfl⟩
  case body =>
    rintro l O pre x a' W hI ⟨Bx, hbx, rfl⟩ hpx hwz _ _ _
    obtain ⟨hx1, _, hx2, hx3⟩ := items_mem (hpx.subset (by simp : x ∈ pre ++ [x]))
    have HX2 := Lib.hid hx2
    obtain ⟨lb2, ht2, hl2⟩ := hI.tree
    have c0 := hI.box.cell
    obtain ⟨e1, e2⟩ := hbx.cells
    have HI := Lib.hid hI
    have HT2 := Lib.hid ht2
    have Hl2 := Lib.hid hl2
    clear hI ht2 hl2 hpx hx2 hbx
    gi_wp2_with (refine ⟨trivial, ?_⟩; gi_at_call 33; refine (CallsIn.inRound l (callsIn_wide.2 (set_any _ _ _ lb2 HT2.out x.1 hx1 x.2))).mono ?_; rintro e W3 ⟨rfl, lb3, ht3, hx3, hc3⟩)
    refine ⟨HeldO.of_chg hc3 ?_ ?_, fun b => lb3 b ≠ 0 ∧ W0.heap.size ≤ b, ⟨boxed_chg HI.out.box hc3 ?_, ⟨lb3, by rw [put_snoc f pre x HX2.out]; exact ht3, ?_⟩, fun b hb => ht3.dom b hb.1, ?_⟩, ?_⟩
    · intro b hb _
      obtain ⟨cs, t, e⟩ := HT2.out.cel b hb
      exact ⟨cs, t, _, e⟩
    · intro b hb h
      exact (Hl2.out b hb).2.2 (by omega)
    · intro h
      exact (Hl2.out _ h).2.1 rfl
    · intro b hb
      rcases hx3.1 b hb with h | h
      · exact ⟨(Hl2.out b h).1, (Hl2.out b h).2.1, fun h2 => ⟨hb, h2⟩⟩
      · exact ⟨by omega, by omega, fun h2 => ⟨hb, h2⟩⟩
    · refine HI.out.bel.trans (hc3.below _ (by omega) (fun b hb h => ?_))
      have := Hl2.out b h; omega
    · intro b hb
      rcases hx3.1 b hb.1 with h | h
      · exact .inl ((Hl2.out b h).2.2 hb.2)
      · exact .inr h
  case done =>
    rintro D O W hD hI hK
    obtain ⟨lb2, ht2, hl2⟩ := hI.tree
    have c0 := hI.box.cell
    have HI := Lib.hid hI
    have HT2 := Lib.hid ht2
    have HK := Lib.hid hK
    have Hl2 := Lib.hid hl2
    clear hI ht2 hK hl2
    gi_wp2
    refine ⟨by simp, .inl ⟨_, _, rfl, run_takeDeferred HK.out, ?_⟩⟩
    refine ⟨_, results_tmp rfl _ _ _, _, lb2, rfl, (HT2.out.congr (fun i hi => put_all f i hi)).sim (Sim.putObj W _ hD HK.out rfl), fun b hb => (Hl2.out b hb).1, ?_⟩
    have hs := Sim.putObj W (.deferred none) hD HK.out rfl
    exact ⟨hs.os.trans HI.out.bel.os, hs.tape.trans HI.out.bel.tape, hs.output.trans HI.out.bel.output, Nat.le_trans HI.out.bel.size hs.size, fun k hk => (hs.low k (by omega)).trans (HI.out.bel.block k hk)⟩
  case stop =>
    rintro D j pre W _ _ h _
    exact h.elim

theorem copy_calls (w : World) (r : Nat) (f : Nat → Int × Int) (lb : Nat → Nat) (h : TreeI w r f lb) :
    Calls Try.prog 35 #[.pointer (some ⟨r, 0, none⟩)] w fun e w' => ∃ r2 lb2, e = .returned (.pointer (some ⟨r2, 0, none⟩)) ∧ TreeI w' r2 f lb2 ∧ (∀ b, lb2 b ≠ 0 → w.heap.size ≤ b) ∧ Below w.heap.size w w' :=
  callsIn_wide.1 (copy_any w r f lb h)

end Go.Proofs.Ytfljnfmocmhhdaa.Spn
