/-
New as a tree, and Copy of a tree of ints.
-/
import Derived.Test.YtfljnfmocmhhdaaWCut
namespace Go.Proofs.Ytfljnfmocmhhdaa
open Go.RowKit Go.Shelf
attribute [local go_sem] Oper.semAt_some

/-- the labels of a new tree -/
def lbNew (n b : Nat) : Nat := if b = n then 2 else if b = n + 1 then 1 else 0
theorem cntN_zero : ∀ n, cntN (fun _ => 0) n = 0
  | 0 => rfl
  | n + 1 => by rw [cntN_succ, cntN_zero n]; simp
theorem new_shape (w : World) : TreeI ((w.alloc (.cells #[.pointer none, .pointer none, .pointer none, .pointer none, .pointer none, .pointer none, .pointer none, .pointer none, .int .i64 0, .int .i64 0, .int .i64 0, .int .i64 0, .int .i64 0, .int .i64 0, .int .i64 0, .int .i64 0] 102)).alloc (.cells #[.pointer (some ⟨w.heap.size, 0, none⟩), .int .i64 0] 94)) (w.heap.size + 1) (fun _ => 0) (lbNew w.heap.size) := by
  have h0 : NodeI (w.alloc (.cells (nodeI (fun _ => none) (fun _ => 0)) 102)) w.heap.size (fun _ => none) (fun _ => 0) := NodeI.new w
  rw [nodeI_zero] at h0
  obtain ⟨w1, hw1⟩ : ∃ x, w.alloc (.cells #[.pointer none, .pointer none, .pointer none, .pointer none, .pointer none, .pointer none, .pointer none, .pointer none, .int .i64 0, .int .i64 0, .int .i64 0, .int .i64 0, .int .i64 0, .int .i64 0, .int .i64 0, .int .i64 0] 102) = x := ⟨_, rfl⟩
  have hs1 : w1.heap.size = w.heap.size + 1 := by rw [← hw1]; simp
  rw [hw1] at h0 ⊢
  have h1 : NodeI (w1.alloc (.cells #[.pointer (some ⟨w.heap.size, 0, none⟩), .int .i64 0] 94)) w.heap.size (fun _ => none) (fun _ => 0) := h0.chg ((Chg.refl (fun _ => False) _).alloc _) (fun h => h)
  have h2 := heap_alloc_new w1 (.cells #[.pointer (some ⟨w.heap.size, 0, none⟩), .int .i64 0] 94)
  rw [hs1] at h2
  refine ⟨w.heap.size, fun _ => none, fun _ => none, ?_, h1, fun _ _ _ h => (by cases h), fun _ _ _ h => (by cases h), fun _ _ _ _ _ => rfl, fun _ _ _ => rfl, by simp [lbNew], by simp [lbNew], fun _ _ _ h => (by cases h), fun _ _ _ h => (by cases h), fun b hb => ?_⟩
  · rw [show cntI (fun _ => 0) = 0 from cntN_zero 512]; exact h2
  · unfold lbNew at hb
    by_cases e : b = w.heap.size
    · subst e; exact ⟨_, _, h1⟩
    · rw [if_neg e] at hb
      by_cases e2 : b = w.heap.size + 1
      · subst e2; exact ⟨_, _, h2⟩
      · rw [if_neg e2] at hb; exact (hb rfl).elim

theorem new_tree (w : World) : Calls Try.prog 50 #[] w fun e w' => e = .returned (.pointer (some ⟨w.heap.size + 1, 0, none⟩)) ∧ TreeI w' (w.heap.size + 1) (fun _ => 0) (lbNew w.heap.size) ∧ Below w.heap.size w w' ∧ w'.heap.size = w.heap.size + 2 := by
  refine (new_any w).mono ?_
  rintro e w' ⟨he, rfl⟩
  exact ⟨he, new_shape w, ((Below.refl _ _).alloc (Nat.le_refl _) _).alloc (by simp) _, by simp⟩
theorem lbNew_ge {n b : Nat} (h : lbNew n b ≠ 0) : n ≤ b ∧ b < n + 2 := by
  unfold lbNew at h
  by_cases e : b = n
  · omega
  · rw [if_neg e] at h
    by_cases e2 : b = n + 1
    · omega
    · rw [if_neg e2] at h; exact (h rfl).elim

/-- the tree behind Sets of all pairs that have come -/
def put (f : Nat → Int) (pre : List (Nat × Int)) (i : Nat) : Int := if i ∈ pre.map Prod.fst then f i else 0
theorem put_snoc (f : Nat → Int) (pre : List (Nat × Int)) (x : Nat × Int) (hx : f x.1 = x.2) : put f (pre ++ [x]) = upd (put f pre) x.1 x.2 := by
  funext i
  by_cases e : i = x.1
  · subst e; rw [upd_same]; simp [put, hx]
  · rw [upd_other _ _ e]
    unfold put
    have : (i ∈ List.map Prod.fst (pre ++ [x])) ↔ i ∈ List.map Prod.fst pre := by
      rw [List.map_append, List.mem_append]
      exact ⟨fun h => h.elim id (fun h => absurd (by simpa using h) e), .inl⟩
    simp only [this]
theorem put_all (f : Nat → Int) (i : Nat) (hi : i < 512) : put f (items f 0 0 512) i = f i := by
  unfold put
  by_cases h : i ∈ (items f 0 0 512).map Prod.fst
  · rw [if_pos h]
  · rw [if_neg h]
    by_cases hf : f i = 0
    · exact hf.symm
    · exact (h (List.mem_map.2 ⟨_, items_has hi (by omega) hf, rfl⟩)).elim

theorem boxes3 (w : World) (t0 t1 t2 : TypeId) (v0 v1 v2 : Value) (W : World) (n : Nat) (hn : w.heap.size = n) (hW : ((w.alloc (.cells #[v0] t0)).alloc (.cells #[v1] t1)).alloc (.cells #[v2] t2) = W) :
    W.heap.size = n + 3 ∧ Boxed W n t0 v0 ∧ Boxed W (n + 1) t1 v1 ∧ Boxed W (n + 1 + 1) t2 v2 ∧ Below n w W := by
  subst hW hn
  refine ⟨by simp, ?_, ?_, ?_, ?_⟩
  · exact ((Boxed.new w t0 v0).alloc _).alloc _
  · have := Boxed.new (w.alloc (.cells #[v0] t0)) t1 v1
    rw [World.size_alloc] at this
    exact this.alloc _
  · have := Boxed.new ((w.alloc (.cells #[v0] t0)).alloc (.cells #[v1] t1)) t2 v2
    rw [World.size_alloc, World.size_alloc] at this
    exact this
  · exact (((Below.refl _ _).alloc (Nat.le_refl _) _).alloc (by simp) _).alloc (by simp; omega) _

/-- between two rounds of Copy -/
structure CpyI (w : World) (r2 : Nat) (f : Nat → Int) (B0 B1 : Nat) (pre : List (Nat × Int)) (W : World) : Prop where
  box : Boxed W (w.heap.size + 2) 25 (.pointer (some ⟨r2, 0, none⟩))
  tree : ∃ lb, TreeI W r2 (put f pre) lb ∧ ∀ b, lb b ≠ 0 → w.heap.size ≤ b ∧ b ≠ w.heap.size + 2 ∧ (b < B0 ∨ B1 ≤ b)
  bel : Below w.heap.size w W
theorem CpyI.sim {w : World} {r2 : Nat} {f : Nat → Int} {B0 B1 Bs : Nat} {pre : List (Nat × Int)} {X Y : World} (h : CpyI w r2 f B0 B1 pre X) (hs : Sim Bs X Y) (hB : w.heap.size ≤ Bs) : CpyI w r2 f B0 B1 pre Y := by
  obtain ⟨lb, ht, hl⟩ := h.tree
  exact ⟨boxed_sim h.box hs, ⟨lb, ht.sim hs, hl⟩, ⟨hs.os.trans h.bel.os, hs.tape.trans h.bel.tape, hs.output.trans h.bel.output, Nat.le_trans h.bel.size hs.size, fun k hk => (hs.low k (by omega)).trans (h.bel.block k hk)⟩⟩

set_option maxRecDepth 100000 in
set_option maxHeartbeats 4000000 in
theorem copy_any (w : World) (r : Nat) (f : Nat → Int) (lb : Nat → Nat) (h : TreeI w r f lb) :
    CallsIn Fence.wide 6 Try.prog 47 #[.pointer (some ⟨r, 0, none⟩)] w fun e w' => ∃ r2 lb2, e = .returned (.pointer (some ⟨r2, 0, none⟩)) ∧ TreeI w' r2 f lb2 ∧ (∀ b, lb2 b ≠ 0 → w.heap.size ≤ b) ∧ Below w.heap.size w w' := by
  have HT := Lib.hid h
  clear h
  refine callsIn_of_wp_marks Try.func47 rfl trivial ?_ rfl
  simp only [Try.ntmps47, List.size_toArray, List.length_cons, List.length_nil, Nat.reduceAdd, Nat.reduceSub, Array.replicate_succ, Array.replicate_zero, List.push_toArray, List.append_toArray, List.nil_append, List.cons_append]
  gi_wp2_with (first | (refine ⟨trivial, ?_⟩; gi_at_call 50; refine (callsIn_wide.2 (new_tree _)).mono ?_; rintro e w1 ⟨rfl, ht1, hb1, hs1⟩) | (refine ⟨trivial, ?_⟩; gi_at_call 18; refine (callsIn_wide.2 (from_any _ r 0)).mono ?_; rintro e w2 ⟨rfl, rfl⟩))
  obtain ⟨W0, hW0⟩ : ∃ W, ((w1.alloc (.cells #[.pointer (some ⟨w.heap.size + 1, 0, none⟩)] 25)).alloc (.cells #[.pointer (some ⟨r, 0, none⟩)] 25)).alloc (.cells #[.int .i64 0] 3) = W := ⟨_, rfl⟩
  obtain ⟨hsz, bx0, bx1, bx2, hbl⟩ := boxes3 _ _ _ _ _ _ _ W0 _ hs1 hW0
  rw [hW0]
  rw [← hs1] at hbl
  have hTd := HT.out.dom
  have hb0 : Below w.heap.size w W0 := hb1.trans (hbl.mono hb1.size)
  obtain ⟨c, hgv⟩ := from_gives W0 r f lb (HT.out.below hb0) 0 (by omega) (w.heap.size + 2 + 1 + 1) (w.heap.size + 2 + 1) bx2.cell bx1.cell
  refine range_law rfl (by omega) (gf := 51) (lb := #[.pointer (some ⟨w.heap.size + 2 + 1 + 1, 0, none⟩), .pointer (some ⟨w.heap.size + 2 + 1, 0, none⟩)]) rfl trivial (enters_of Try.func51 (by kernel_rfl) rfl) (hgv _) (fun _ => rfl)
    (CpyI w (w.heap.size + 1) f W0.heap.size (W0.heap.size + 2 + c)) (fun _ _ _ => False) (fun pre A B h hs => h.sim hs (by omega)) (fun _ _ _ _ h _ => h)
    ⟨bx0, ⟨_, (ht1.below hbl).congr (fun i _ => by simp [put]), fun b hb => by have := lbNew_ge hb; omega⟩, hb0⟩
    (fun x a' _ => a' = { tmps := #[.pointer (some ⟨r, 0, none⟩), undef, .pointer none, .pointer (some ⟨w.heap.size + 2, 0, none⟩), .int .i64 x.1, .int .i64 x.2, .pointer (some ⟨w.heap.size + 1, 0, none⟩), .pointer (some ⟨r, 0, none⟩),
      .func (.func 51) #[] #[.pointer (some ⟨w.heap.size + 2 + 1 + 1, 0, none⟩), .pointer (some ⟨w.heap.size + 2 + 1, 0, none⟩)], .int .i64 x.1, .int .i64 x.2, undef, undef, undef, undef, undef], defers := [] })
    (fun _ _ _ _ h _ => h) ?assign ?body ?done ?stop
  case assign =>
    intro l pre x W K hi _ _ hK
    have HK := Lib.hid (hK _ _ (Held.refl _ _ _ _) hi rfl)
    clear hK hi
    simp only [encI]
    gi_wp2
    exact HK.out
  case body =>
    rintro l pre x a' W hI rfl hpx hwz _ _ _
    obtain ⟨hx1, _, hx2, hx3⟩ := items_mem (hpx.subset (by simp : x ∈ pre ++ [x]))
    have HX2 := Lib.hid hx2
    obtain ⟨lb2, ht2, hl2⟩ := hI.tree
    have c0 := hI.box.cell
    have HI := Lib.hid hI
    have HT2 := Lib.hid ht2
    have Hl2 := Lib.hid hl2
    clear hI ht2 hl2 hpx hx2
    gi_wp2_with (refine ⟨trivial, ?_⟩; gi_at_call 21; refine (CallsIn.inRound l (callsIn_wide.2 (set_any _ _ _ lb2 HT2.out x.1 hx1 x.2))).mono ?_; rintro e W3 ⟨rfl, lb3, ht3, hx3, hc3⟩)
    refine ⟨Held.of_chg hc3 ?_ ?_ hwz, boxed_chg HI.out.box hc3 ?_, ⟨lb3, by rw [put_snoc f pre x HX2.out]; exact ht3, ?_⟩, ?_⟩
    · intro b hb _
      obtain ⟨cs, t, e⟩ := HT2.out.cel b hb
      exact ⟨cs, t, _, e⟩
    · intro b hb h
      have := Hl2.out b hb; omega
    · intro h
      have := Hl2.out _ h; omega
    · intro b hb
      rcases hx3.1 b hb with h | h
      · exact Hl2.out b h
      · omega
    · refine HI.out.bel.trans (hc3.below _ (by omega) (fun b hb h => ?_))
      have := Hl2.out b h; omega
  case done =>
    rintro D W hD hI hK
    obtain ⟨lb2, ht2, hl2⟩ := hI.tree
    have c0 := hI.box.cell
    have HI := Lib.hid hI
    have HT2 := Lib.hid ht2
    have HK := Lib.hid hK
    have Hl2 := Lib.hid hl2
    clear hI ht2 hK hl2
    gi_wp2
    refine ⟨by simp, .inl ⟨_, _, rfl, run_takeDeferred HK.out, ?_⟩⟩
    refine ⟨_, results_tmp rfl _ _ _, _, lb2, rfl, (HT2.out.congr (fun i hi => put_all f i hi)).sim (Sim.putObj W _ hD HK.out rfl), fun b hb => (Hl2.out b hb).1, ?_⟩
    have hs := Sim.putObj W (.deferred none) hD HK.out rfl
    exact ⟨hs.os.trans HI.out.bel.os, hs.tape.trans HI.out.bel.tape, hs.output.trans HI.out.bel.output, Nat.le_trans HI.out.bel.size hs.size, fun k hk => (hs.low k (by omega)).trans (HI.out.bel.block k hk)⟩
  case stop =>
    rintro D j pre W _ _ h _
    exact h.elim

theorem copy_calls (w : World) (r : Nat) (f : Nat → Int) (lb : Nat → Nat) (h : TreeI w r f lb) :
    Calls Try.prog 47 #[.pointer (some ⟨r, 0, none⟩)] w fun e w' => ∃ r2 lb2, e = .returned (.pointer (some ⟨r2, 0, none⟩)) ∧ TreeI w' r2 f lb2 ∧ (∀ b, lb2 b ≠ 0 → w.heap.size ≤ b) ∧ Below w.heap.size w w' :=
  callsIn_wide.1 (copy_any w r f lb h)

end Go.Proofs.Ytfljnfmocmhhdaa
