/-
from: a going through of a program's tree, held against the document's list.
-/
import Derived.Test.YtfljnfmocmhhdaaWUp
import Derived.Laws.ResultCell
namespace Go.Proofs.Ytfljnfmocmhhdaa
open Go.RowKit Go.Shelf
attribute [local go_sem] Oper.semAt_some

/-- what a slice of pairs reads as -/
def RdP (w : World) (A : Option Addr) (n c : Nat) (l : List (Nat × Int)) : Prop :=
  l.length = n ∧ n ≤ c ∧ n ≤ 512 ∧ c ≤ 9223372036854775807 ∧ (n = 0 ∨ ∃ b off, A = some ⟨b, off, none⟩ ∧ ∀ i x, l[i]? = some x → w.cell? ⟨b, off + i * 2, none⟩ = some (.int .i64 (x.1 : Nat)) ∧ w.cell? ⟨b, off + i * 2 + 1, none⟩ = some (.int .i64 x.2))
theorem RdP.chg {D : Nat → Prop} {w w' : World} {A : Option Addr} {n c : Nat} {l : List (Nat × Int)} (h : RdP w A n c l) (hc : Chg D w w') (hn : ∀ b off, A = some ⟨b, off, none⟩ → ¬ D b) : RdP w' A n c l :=
  ⟨h.1, h.2.1, h.2.2.1, h.2.2.2.1, h.2.2.2.2.imp id fun ⟨b, off, e, hh⟩ => ⟨b, off, e, fun i x hx => ⟨cell_chg hc (hh i x hx).1 (hn b off e), cell_chg hc (hh i x hx).2 (hn b off e)⟩⟩⟩
theorem RdP.own {w : World} {B : Nat} {v : Value} {l : List (Nat × Int)} (h : w.ownsRow B 131 2 v l.length (cellsP l)) (hl : l.length ≤ 512) : ∃ A c, v = .slice A l.length c ∧ RdP w A l.length c l ∧ ∀ b off, A = some ⟨b, off, none⟩ → b < w.heap.size := by
  have hlt := h.lt
  rcases h.2 with ⟨rfl, h0⟩ | ⟨g, cap, cur, rfl, hB, hg, h1, h2, h3, h4⟩
  · rw [h0]
    exact ⟨none, 0, rfl, ⟨h0, by omega, by omega, by omega, .inl rfl⟩, fun _ _ e => by cases e⟩
  · refine ⟨_, cap, rfl, ⟨rfl, h1, hl, by simpa [maxLen] using h2, .inr ⟨g, 0, rfl, fun i x hx => ?_⟩⟩, fun b off e => by cases e; exact heap_lt hg⟩
    obtain ⟨e1, e2⟩ := cellsP_at l i x hx
    rw [← h4, List.getElem?_take] at e1 e2
    refine ⟨?_, ?_⟩
    · rw [Nat.zero_add, cell_of_row w _ _ _ _ _ hg]
      split at e1
      · simpa using e1
      · cases e1
    · rw [Nat.zero_add, cell_of_row w _ _ _ _ _ hg]
      split at e2
      · simpa using e2
      · cases e2

theorem results_box {fn : Func} {p : Tmp} (h : fn.results = #[.cell p 4]) (tmps : Array Value) (w : World) (g : Nat) (b : Bool) (ht : tmps.getD p undef = .pointer (some ⟨g, 0, none⟩)) (hc : w.cell? ⟨g, 0, none⟩ = some (.bool b)) :
    (results fn tmps).run Try.prog w = .ok (.bool b) w := by
  have ha : (isAgg 4).run Try.prog w = .ok false w := by
    unfold isAgg
    rw [Sem.run_bind, run_underlying Try.underlying4 w]
    rfl
  have hl : (loadVar 4 ⟨g, 0, none⟩).run Try.prog w = .ok (.bool b) w := by
    simp [loadVar, Sem.run_bind, ha, hc]
  simp only [results, h]
  simp only [Array.mapM_eq_mapM_toList, List.mapM_cons, List.mapM_nil, Sem.run_bind, Result.andThen]
  rw [ht]
  simp [Result.andThen, asAddr, hl]

/-- how many are held -/
def keepN (n : Nat) (stop : Int) : Nat := if 0 ≤ stop ∧ stop < n then stop.toNat + 1 else n

structure FrI (w : World) (A : Option Addr) (c m n : Nat) (stop : Int) (xs pre : List (Nat × Int)) (W : World) : Prop where
  b0 : Boxed W w.heap.size 79 (.slice A m c)
  b1 : Boxed W (w.heap.size + 1) 3 (.int .i64 stop)
  b2 : Boxed W (w.heap.size + 1 + 1) 4 (.bool false)
  b3 : Boxed W (w.heap.size + 1 + 1 + 1) 3 (.int .i64 pre.length)
  bel : Below w.heap.size w W
theorem FrI.sim {w : World} {A : Option Addr} {c m n : Nat} {stop : Int} {xs pre : List (Nat × Int)} {B0 : Nat} {X Y : World} (h : FrI w A c m n stop xs pre X) (hs : Sim B0 X Y) (hB : w.heap.size ≤ B0) : FrI w A c m n stop xs pre Y :=
  ⟨boxed_sim h.b0 hs, boxed_sim h.b1 hs, boxed_sim h.b2 hs, boxed_sim h.b3 hs, hs.os.trans h.bel.os, hs.tape.trans h.bel.tape, hs.output.trans h.bel.output, Nat.le_trans h.bel.size hs.size, fun k hk => (hs.low k (by omega)).trans (h.bel.block k hk)⟩

theorem boxes6 (w : World) (t0 t1 t2 t3 t4 t5 : TypeId) (v0 v1 v2 v3 v4 v5 : Value) (W : World) (hW : (((((w.alloc (.cells #[v0] t0)).alloc (.cells #[v1] t1)).alloc (.cells #[v2] t2)).alloc (.cells #[v3] t3)).alloc (.cells #[v4] t4)).alloc (.cells #[v5] t5) = W) :
    W.heap.size = w.heap.size + 6 ∧ Boxed W w.heap.size t0 v0 ∧ Boxed W (w.heap.size + 1) t1 v1 ∧ Boxed W (w.heap.size + 1 + 1) t2 v2 ∧ Boxed W (w.heap.size + 1 + 1 + 1) t3 v3 ∧ Boxed W (w.heap.size + 1 + 1 + 1 + 1) t4 v4 ∧ Boxed W (w.heap.size + 1 + 1 + 1 + 1 + 1) t5 v5 ∧ Below w.heap.size w W := by
  obtain ⟨W5, hW5⟩ : ∃ X, ((((w.alloc (.cells #[v0] t0)).alloc (.cells #[v1] t1)).alloc (.cells #[v2] t2)).alloc (.cells #[v3] t3)).alloc (.cells #[v4] t4) = X := ⟨_, rfl⟩
  obtain ⟨hsz, h0, h1, h2, h3, h4, hb⟩ := boxes5 _ _ _ _ _ _ _ _ _ _ _ W5 hW5
  rw [hW5] at hW
  subst hW
  have hn := Boxed.new W5 t5 v5
  rw [hsz] at hn
  exact ⟨by simp [hsz], h0.alloc _, h1.alloc _, h2.alloc _, h3.alloc _, h4.alloc _, hn, hb.alloc hb.size _⟩

set_option maxRecDepth 100000 in
set_option maxHeartbeats 8000000 in
theorem lawfrom_any (w : World) (r : Nat) (f : Nat → Int) (lb : Nat → Nat) (h : TreeI w r f lb) (off stop : Int) (ho1 : -9223372036854775808 ≤ off) (A : Option Addr) (n c : Nat) (hr : RdP w A n c (items f 0 off 512)) :
    CallsIn Fence.wide 6 Try.prog 45 #[.pointer (some ⟨r, 0, none⟩), .slice A n c, .int .i64 off, .int .i64 stop] w fun e w' => e = .returned (.bool true) ∧ Below w.heap.size w w' := by
  have HT := Lib.hid h
  have HR := Lib.hid hr
  have hnc := hr.2.1
  have hn5 := hr.2.2.1
  have hc9 := hr.2.2.2.1
  have hln := hr.1
  clear h hr
  generalize hxs : items f 0 off 512 = xs at *
  have HXS := Lib.hid hxs
  clear hxs
  refine callsIn_of_wp_marks Try.func45 rfl trivial ?_ rfl
  simp only [Try.ntmps45, List.size_toArray, List.length_cons, List.length_nil, Nat.reduceAdd, Nat.reduceSub, Array.replicate_succ, Array.replicate_zero, List.push_toArray, List.append_toArray, List.nil_append, List.cons_append]
  have hcase : (0 ≤ stop ∧ stop < n) ∨ (0 ≤ stop ∧ (n : Int) ≤ stop) ∨ stop < 0 := by omega
  rcases hcase with ⟨s1, s2⟩ | ⟨s1, s2⟩ | s1
  · obtain ⟨k, rfl⟩ := Int.eq_ofNat_of_zero_le s1
    have hk : k < n := by omega
    gi_wp2_with (refine ⟨trivial, ?_⟩; gi_at_call 18; refine (callsIn_wide.2 (from_any _ r off)).mono ?_; rintro e w1 ⟨rfl, rfl⟩)
    obtain ⟨W0, hW0⟩ : ∃ W, ((((((w.alloc (.cells #[.slice A (k + 1) c] 79)).alloc (.cells #[.int .i64 (k : Int)] 3)).alloc (.cells #[.bool false] 4)).alloc (.cells #[.int .i64 0] 3)).alloc (.cells #[.pointer (some ⟨r, 0, none⟩)] 25)).alloc (.cells #[.int .i64 off] 3)) = W := ⟨_, rfl⟩
    obtain ⟨hsz, bx0, bx1, bx2, bx3, bx4, bx5, hbl⟩ := boxes6 _ _ _ _ _ _ _ _ _ _ _ _ _ W0 hW0
    rw [hW0]
    have hszl : w.heap.size + 6 ≤ W0.heap.size := by omega
    have hszu : W0.heap.size ≤ w.heap.size + 6 := by omega
    clear hsz
    obtain ⟨cc, hgv⟩ := from_gives W0 r f lb (HT.out.below hbl) off ho1 (w.heap.size + 1 + 1 + 1 + 1 + 1) (w.heap.size + 1 + 1 + 1 + 1) bx5.cell bx4.cell
    rw [HXS.out] at hgv
    refine range_law rfl (by omega) (gf := 51) (lb := #[.pointer (some ⟨w.heap.size + 1 + 1 + 1 + 1 + 1, 0, none⟩), .pointer (some ⟨w.heap.size + 1 + 1 + 1 + 1, 0, none⟩)]) rfl trivial (enters_of Try.func51 (by kernel_rfl) rfl) (hgv _) (fun _ => rfl)
      (fun pre W => FrI w A c (k + 1) n ((k : Int)) xs pre W ∧ (pre.length < k + 1 ∨ k + 1 = n)) (fun j pre W => j = .exit 0 ∧ FrI w A c (k + 1) n ((k : Int)) xs pre W ∧ pre.length = k + 1) (fun pre A B h hs => ⟨h.1.sim hs (by omega), h.2⟩) (fun j pre A B h hs => ⟨h.1, h.2.1.sim hs (by omega), h.2.2⟩)
      ⟨⟨bx0, bx1, bx2, bx3, hbl⟩, by simp⟩
      (fun x a' _ => a' = { tmps := #[.pointer (some ⟨r, 0, none⟩), .slice A n c, .int .i64 off, .int .i64 (k : Int), undef, .pointer (some ⟨w.heap.size, 0, none⟩), undef, .pointer (some ⟨w.heap.size + 1, 0, none⟩), .pointer (some ⟨w.heap.size + 1 + 1, 0, none⟩), .pointer (some ⟨w.heap.size + 1 + 1 + 1, 0, none⟩), .int .i64 x.1, .int .i64 x.2, .int .i64 (k : Int), .bool true, .bool true, .int .i64 (k : Int), .slice A n c, .int .i64 n, .bool true, .bool true, .slice A n c, .int .i64 (k : Int), .int .i64 ((k : Int) + 1), .slice A (k + 1) c, .pointer (some ⟨r, 0, none⟩), .int .i64 off, .func (.func 51) #[] #[.pointer (some ⟨w.heap.size + 1 + 1 + 1 + 1 + 1, 0, none⟩), .pointer (some ⟨w.heap.size + 1 + 1 + 1 + 1, 0, none⟩)], .int .i64 x.1, .int .i64 x.2, undef, undef, undef, undef, undef, undef, undef, undef, undef, undef, undef, undef, undef, undef, undef, undef, undef, undef, undef, undef, undef, undef, undef, undef, undef, undef, undef, undef, undef, undef, undef, undef, undef, undef, undef, undef], defers := [] })
      (fun _ _ _ _ h _ => h) ?assign ?body ?done ?stop
    case assign =>
      intro l pre x W K hi _ _ hK
      have HK := Lib.hid (hK _ _ (Held.refl _ _ _ _) hi rfl)
      clear hK hi
      simp only [encI]
      gi_wp2
      exact HK.out
    case body =>
      rintro l pre x a' W ⟨hI, hpm⟩ rfl hpx hwz hl1 hl2 _
      have hxe : xs[pre.length]? = some x := by
        obtain ⟨t, ht⟩ := hpx
        rw [← ht]
        simp
      have hpl : pre.length < n := by
        have h1 := hpx.length_le
        simp at h1
        omega
      have hpm2 : pre.length < k + 1 := by omega
      have HI := Lib.hid hI
      obtain ⟨b, o, rfl, d1, d2⟩ : ∃ b o, A = some ⟨b, o, none⟩ ∧ W.cell? ⟨b, o + pre.length * 2, none⟩ = some (.int .i64 (x.1 : Nat)) ∧ W.cell? ⟨b, o + pre.length * 2 + 1, none⟩ = some (.int .i64 x.2) := by
        obtain ⟨_, _, _, _, h0 | ⟨b, o, e, hh⟩⟩ := HR.out
        · omega
        · exact ⟨b, o, e, cell_below hI.bel (hh _ _ hxe).1, cell_below hI.bel (hh _ _ hxe).2⟩
      have c0 := hI.b0.cell
      have c1 := hI.b1.cell
      have c3 := hI.b3.cell
      have f3 := hI.b3.frozen
      obtain ⟨y, z⟩ := x
      have HE : Hid (Held W0.heap.size (W0.heap.size + 2) cc W (W.setCell ⟨w.heap.size + 1 + 1 + 1, 0, none⟩ (.int .i64 (pre.length + 1 : Nat))) ∧ FrI w (some ⟨b, o, none⟩) c (k + 1) n ((k : Int)) xs (pre ++ [(y, z)]) (W.setCell ⟨w.heap.size + 1 + 1 + 1, 0, none⟩ (.int .i64 (pre.length + 1 : Nat)))) := by
        have hch : Chg (fun b => b = w.heap.size + 1 + 1 + 1) W (W.setCell ⟨w.heap.size + 1 + 1 + 1, 0, none⟩ (.int .i64 (pre.length + 1 : Nat))) := (Chg.refl (fun b => b = w.heap.size + 1 + 1 + 1) W).setCell (p := ⟨w.heap.size + 1 + 1 + 1, 0, none⟩) (fun _ => rfl) _
        refine ⟨Held.of_chg hch (by rintro b rfl hb; omega) (by rintro b rfl; omega) hwz, HI.out.b0.other (by omega) _, HI.out.b1.other (by omega) _, HI.out.b2.other (by omega) _, ?_, ?_⟩
        · have := HI.out.b3.set (.int .i64 (pre.length + 1 : Nat))
          rw [List.length_append]
          exact this
        · exact HI.out.bel.setCell (p := ⟨w.heap.size + 1 + 1 + 1, 0, none⟩) (by show w.heap.size ≤ w.heap.size + 1 + 1 + 1; omega) _
      clear hI hxe hpx HR HT hgv hpm HXS
      generalize hpg : pre.length = pl at *
      by_cases hq : pl + 1 = k + 1
      · have hz : ((pl + 1 : Nat) : Int) = (k : Int) + 1 := by omega
        rw [hz] at HE
        gi_wp2
        exact ⟨HE.out.1, rfl, HE.out.2, by simp; omega⟩
      · gi_wp2
        first
          | exact ⟨HE.out.1, HE.out.2⟩
          | exact ⟨HE.out.1, HE.out.2, by simp; omega⟩
    case done =>
      rintro D W hD ⟨hI, hm⟩ hK
      have hpl : xs.length = k + 1 := by omega
      have HI := Lib.hid hI
      have HK := Lib.hid hK
      clear hI hK HR HT hgv HXS
      have c0 := HI.out.b0.cell
      have c2 := HI.out.b2.cell
      have f2 := HI.out.b2.frozen
      have c3 := HI.out.b3.cell
      rw [hpl] at c3
      have hDl := heap_lt HK.out
      have HDn : Hid (D ≠ w.heap.size + 1 + 1) := by have := HI.out.b2.lt; intro e; have h1 : W.heap[w.heap.size + 1 + 1]? = _ := HI.out.b2; have h2 := HK.out; rw [e, h1] at h2; cases h2
      gi_wp2
      have hK' : (W.setCell ⟨w.heap.size + 1 + 1, 0, none⟩ (.bool true)).heap[D]? = some (.deferred (some [])) := (heap_setCell_other W _ _ _ HDn.out).trans HK.out
      have hbx := HI.out.b2.set (.bool true)
      have hs := Sim.putObj (W.setCell ⟨w.heap.size + 1 + 1, 0, none⟩ (.bool true)) (B0 := w.heap.size) (.deferred none) (by omega) hK' rfl
      refine ⟨by simp, .inl ⟨_, _, rfl, run_takeDeferred hK', ?_⟩⟩
      refine ⟨_, results_box rfl _ _ (w.heap.size + 1 + 1) true rfl (boxed_sim hbx hs).cell, rfl, ?_⟩
      have hb : Below w.heap.size w (W.setCell ⟨w.heap.size + 1 + 1, 0, none⟩ (.bool true)) := HI.out.bel.setCell (p := ⟨w.heap.size + 1 + 1, 0, none⟩) (by show w.heap.size ≤ w.heap.size + 1 + 1; omega) _
      exact ⟨hs.os.trans hb.os, hs.tape.trans hb.tape, hs.output.trans hb.output, Nat.le_trans hb.size hs.size, fun k hk => (hs.low k hk).trans (hb.block k hk)⟩
    case stop =>
      rintro D j pre W hD _ ⟨rfl, hI, hpl⟩ hK
      have HI := Lib.hid hI
      have HK := Lib.hid hK
      clear hI hK HR HT hgv HXS
      have c0 := HI.out.b0.cell
      have c2 := HI.out.b2.cell
      have f2 := HI.out.b2.frozen
      have c3 := HI.out.b3.cell
      rw [hpl] at c3
      have hDl := heap_lt HK.out
      have HDn : Hid (D ≠ w.heap.size + 1 + 1) := by have := HI.out.b2.lt; intro e; have h1 : W.heap[w.heap.size + 1 + 1]? = _ := HI.out.b2; have h2 := HK.out; rw [e, h1] at h2; cases h2
      gi_wp2
      have hK' : (W.setCell ⟨w.heap.size + 1 + 1, 0, none⟩ (.bool true)).heap[D]? = some (.deferred (some [])) := (heap_setCell_other W _ _ _ HDn.out).trans HK.out
      have hbx := HI.out.b2.set (.bool true)
      have hs := Sim.putObj (W.setCell ⟨w.heap.size + 1 + 1, 0, none⟩ (.bool true)) (B0 := w.heap.size) (.deferred none) (by omega) hK' rfl
      refine ⟨by simp, .inl ⟨_, _, rfl, run_takeDeferred hK', ?_⟩⟩
      refine ⟨_, results_box rfl _ _ (w.heap.size + 1 + 1) true rfl (boxed_sim hbx hs).cell, rfl, ?_⟩
      have hb : Below w.heap.size w (W.setCell ⟨w.heap.size + 1 + 1, 0, none⟩ (.bool true)) := HI.out.bel.setCell (p := ⟨w.heap.size + 1 + 1, 0, none⟩) (by show w.heap.size ≤ w.heap.size + 1 + 1; omega) _
      exact ⟨hs.os.trans hb.os, hs.tape.trans hb.tape, hs.output.trans hb.output, Nat.le_trans hb.size hs.size, fun k hk => (hs.low k hk).trans (hb.block k hk)⟩
  · skip
    gi_wp2_with (refine ⟨trivial, ?_⟩; gi_at_call 18; refine (callsIn_wide.2 (from_any _ r off)).mono ?_; rintro e w1 ⟨rfl, rfl⟩)
    obtain ⟨W0, hW0⟩ : ∃ W, ((((((w.alloc (.cells #[.slice A (n) c] 79)).alloc (.cells #[.int .i64 stop] 3)).alloc (.cells #[.bool false] 4)).alloc (.cells #[.int .i64 0] 3)).alloc (.cells #[.pointer (some ⟨r, 0, none⟩)] 25)).alloc (.cells #[.int .i64 off] 3)) = W := ⟨_, rfl⟩
    obtain ⟨hsz, bx0, bx1, bx2, bx3, bx4, bx5, hbl⟩ := boxes6 _ _ _ _ _ _ _ _ _ _ _ _ _ W0 hW0
    rw [hW0]
    have hszl : w.heap.size + 6 ≤ W0.heap.size := by omega
    have hszu : W0.heap.size ≤ w.heap.size + 6 := by omega
    clear hsz
    obtain ⟨cc, hgv⟩ := from_gives W0 r f lb (HT.out.below hbl) off ho1 (w.heap.size + 1 + 1 + 1 + 1 + 1) (w.heap.size + 1 + 1 + 1 + 1) bx5.cell bx4.cell
    rw [HXS.out] at hgv
    refine range_law rfl (by omega) (gf := 51) (lb := #[.pointer (some ⟨w.heap.size + 1 + 1 + 1 + 1 + 1, 0, none⟩), .pointer (some ⟨w.heap.size + 1 + 1 + 1 + 1, 0, none⟩)]) rfl trivial (enters_of Try.func51 (by kernel_rfl) rfl) (hgv _) (fun _ => rfl)
      (fun pre W => FrI w A c (n) n (stop) xs pre W ∧ (pre.length < n ∨ n = n)) (fun j pre W => j = .exit 0 ∧ FrI w A c (n) n (stop) xs pre W ∧ pre.length = n) (fun pre A B h hs => ⟨h.1.sim hs (by omega), h.2⟩) (fun j pre A B h hs => ⟨h.1, h.2.1.sim hs (by omega), h.2.2⟩)
      ⟨⟨bx0, bx1, bx2, bx3, hbl⟩, .inr rfl⟩
      (fun x a' _ => a' = { tmps := #[.pointer (some ⟨r, 0, none⟩), .slice A n c, .int .i64 off, .int .i64 stop, undef, .pointer (some ⟨w.heap.size, 0, none⟩), undef, .pointer (some ⟨w.heap.size + 1, 0, none⟩), .pointer (some ⟨w.heap.size + 1 + 1, 0, none⟩), .pointer (some ⟨w.heap.size + 1 + 1 + 1, 0, none⟩), .int .i64 x.1, .int .i64 x.2, .int .i64 stop, .bool true, .bool true, .int .i64 stop, .slice A n c, .int .i64 n, .bool (decide (stop < (n : Int))), .bool (decide (stop < (n : Int))), undef, undef, undef, undef, .pointer (some ⟨r, 0, none⟩), .int .i64 off, .func (.func 51) #[] #[.pointer (some ⟨w.heap.size + 1 + 1 + 1 + 1 + 1, 0, none⟩), .pointer (some ⟨w.heap.size + 1 + 1 + 1 + 1, 0, none⟩)], .int .i64 x.1, .int .i64 x.2, undef, undef, undef, undef, undef, undef, undef, undef, undef, undef, undef, undef, undef, undef, undef, undef, undef, undef, undef, undef, undef, undef, undef, undef, undef, undef, undef, undef, undef, undef, undef, undef, undef, undef, undef, undef], defers := [] })
      (fun _ _ _ _ h _ => h) ?assign ?body ?done ?stop
    case assign =>
      intro l pre x W K hi _ _ hK
      have HK := Lib.hid (hK _ _ (Held.refl _ _ _ _) hi rfl)
      clear hK hi
      simp only [encI]
      gi_wp2
      exact HK.out
    case body =>
      rintro l pre x a' W ⟨hI, hpm⟩ rfl hpx hwz hl1 hl2 _
      have hxe : xs[pre.length]? = some x := by
        obtain ⟨t, ht⟩ := hpx
        rw [← ht]
        simp
      have hpl : pre.length < n := by
        have h1 := hpx.length_le
        simp at h1
        omega
      have hpm2 : pre.length < n := by omega
      have HI := Lib.hid hI
      obtain ⟨b, o, rfl, d1, d2⟩ : ∃ b o, A = some ⟨b, o, none⟩ ∧ W.cell? ⟨b, o + pre.length * 2, none⟩ = some (.int .i64 (x.1 : Nat)) ∧ W.cell? ⟨b, o + pre.length * 2 + 1, none⟩ = some (.int .i64 x.2) := by
        obtain ⟨_, _, _, _, h0 | ⟨b, o, e, hh⟩⟩ := HR.out
        · omega
        · exact ⟨b, o, e, cell_below hI.bel (hh _ _ hxe).1, cell_below hI.bel (hh _ _ hxe).2⟩
      have c0 := hI.b0.cell
      have c1 := hI.b1.cell
      have c3 := hI.b3.cell
      have f3 := hI.b3.frozen
      obtain ⟨y, z⟩ := x
      have HE : Hid (Held W0.heap.size (W0.heap.size + 2) cc W (W.setCell ⟨w.heap.size + 1 + 1 + 1, 0, none⟩ (.int .i64 (pre.length + 1 : Nat))) ∧ FrI w (some ⟨b, o, none⟩) c (n) n (stop) xs (pre ++ [(y, z)]) (W.setCell ⟨w.heap.size + 1 + 1 + 1, 0, none⟩ (.int .i64 (pre.length + 1 : Nat)))) := by
        have hch : Chg (fun b => b = w.heap.size + 1 + 1 + 1) W (W.setCell ⟨w.heap.size + 1 + 1 + 1, 0, none⟩ (.int .i64 (pre.length + 1 : Nat))) := (Chg.refl (fun b => b = w.heap.size + 1 + 1 + 1) W).setCell (p := ⟨w.heap.size + 1 + 1 + 1, 0, none⟩) (fun _ => rfl) _
        refine ⟨Held.of_chg hch (by rintro b rfl hb; omega) (by rintro b rfl; omega) hwz, HI.out.b0.other (by omega) _, HI.out.b1.other (by omega) _, HI.out.b2.other (by omega) _, ?_, ?_⟩
        · have := HI.out.b3.set (.int .i64 (pre.length + 1 : Nat))
          rw [List.length_append]
          exact this
        · exact HI.out.bel.setCell (p := ⟨w.heap.size + 1 + 1 + 1, 0, none⟩) (by show w.heap.size ≤ w.heap.size + 1 + 1 + 1; omega) _
      clear hI hxe hpx HR HT hgv hpm HXS
      generalize hpg : pre.length = pl at *
      by_cases hq : pl + 1 = n
      · have hz : ((pl + 1 : Nat) : Int) = (n : Int) := by omega
        rw [hz] at HE
        gi_wp2
        exact ⟨HE.out.1, rfl, HE.out.2, by simp; omega⟩
      · gi_wp2
        first
          | exact ⟨HE.out.1, HE.out.2⟩
          | exact ⟨HE.out.1, HE.out.2, by simp; omega⟩
    case done =>
      rintro D W hD ⟨hI, hm⟩ hK
      have hpl : xs.length = n := by omega
      have HI := Lib.hid hI
      have HK := Lib.hid hK
      clear hI hK HR HT hgv HXS
      have c0 := HI.out.b0.cell
      have c2 := HI.out.b2.cell
      have f2 := HI.out.b2.frozen
      have c3 := HI.out.b3.cell
      rw [hpl] at c3
      have hDl := heap_lt HK.out
      have HDn : Hid (D ≠ w.heap.size + 1 + 1) := by have := HI.out.b2.lt; intro e; have h1 : W.heap[w.heap.size + 1 + 1]? = _ := HI.out.b2; have h2 := HK.out; rw [e, h1] at h2; cases h2
      gi_wp2
      have hK' : (W.setCell ⟨w.heap.size + 1 + 1, 0, none⟩ (.bool true)).heap[D]? = some (.deferred (some [])) := (heap_setCell_other W _ _ _ HDn.out).trans HK.out
      have hbx := HI.out.b2.set (.bool true)
      have hs := Sim.putObj (W.setCell ⟨w.heap.size + 1 + 1, 0, none⟩ (.bool true)) (B0 := w.heap.size) (.deferred none) (by omega) hK' rfl
      refine ⟨by simp, .inl ⟨_, _, rfl, run_takeDeferred hK', ?_⟩⟩
      refine ⟨_, results_box rfl _ _ (w.heap.size + 1 + 1) true rfl (boxed_sim hbx hs).cell, rfl, ?_⟩
      have hb : Below w.heap.size w (W.setCell ⟨w.heap.size + 1 + 1, 0, none⟩ (.bool true)) := HI.out.bel.setCell (p := ⟨w.heap.size + 1 + 1, 0, none⟩) (by show w.heap.size ≤ w.heap.size + 1 + 1; omega) _
      exact ⟨hs.os.trans hb.os, hs.tape.trans hb.tape, hs.output.trans hb.output, Nat.le_trans hb.size hs.size, fun k hk => (hs.low k hk).trans (hb.block k hk)⟩
    case stop =>
      rintro D j pre W hD _ ⟨rfl, hI, hpl⟩ hK
      have HI := Lib.hid hI
      have HK := Lib.hid hK
      clear hI hK HR HT hgv HXS
      have c0 := HI.out.b0.cell
      have c2 := HI.out.b2.cell
      have f2 := HI.out.b2.frozen
      have c3 := HI.out.b3.cell
      rw [hpl] at c3
      have hDl := heap_lt HK.out
      have HDn : Hid (D ≠ w.heap.size + 1 + 1) := by have := HI.out.b2.lt; intro e; have h1 : W.heap[w.heap.size + 1 + 1]? = _ := HI.out.b2; have h2 := HK.out; rw [e, h1] at h2; cases h2
      gi_wp2
      have hK' : (W.setCell ⟨w.heap.size + 1 + 1, 0, none⟩ (.bool true)).heap[D]? = some (.deferred (some [])) := (heap_setCell_other W _ _ _ HDn.out).trans HK.out
      have hbx := HI.out.b2.set (.bool true)
      have hs := Sim.putObj (W.setCell ⟨w.heap.size + 1 + 1, 0, none⟩ (.bool true)) (B0 := w.heap.size) (.deferred none) (by omega) hK' rfl
      refine ⟨by simp, .inl ⟨_, _, rfl, run_takeDeferred hK', ?_⟩⟩
      refine ⟨_, results_box rfl _ _ (w.heap.size + 1 + 1) true rfl (boxed_sim hbx hs).cell, rfl, ?_⟩
      have hb : Below w.heap.size w (W.setCell ⟨w.heap.size + 1 + 1, 0, none⟩ (.bool true)) := HI.out.bel.setCell (p := ⟨w.heap.size + 1 + 1, 0, none⟩) (by show w.heap.size ≤ w.heap.size + 1 + 1; omega) _
      exact ⟨hs.os.trans hb.os, hs.tape.trans hb.tape, hs.output.trans hb.output, Nat.le_trans hb.size hs.size, fun k hk => (hs.low k hk).trans (hb.block k hk)⟩
  · skip
    gi_wp2_with (refine ⟨trivial, ?_⟩; gi_at_call 18; refine (callsIn_wide.2 (from_any _ r off)).mono ?_; rintro e w1 ⟨rfl, rfl⟩)
    obtain ⟨W0, hW0⟩ : ∃ W, ((((((w.alloc (.cells #[.slice A (n) c] 79)).alloc (.cells #[.int .i64 stop] 3)).alloc (.cells #[.bool false] 4)).alloc (.cells #[.int .i64 0] 3)).alloc (.cells #[.pointer (some ⟨r, 0, none⟩)] 25)).alloc (.cells #[.int .i64 off] 3)) = W := ⟨_, rfl⟩
    obtain ⟨hsz, bx0, bx1, bx2, bx3, bx4, bx5, hbl⟩ := boxes6 _ _ _ _ _ _ _ _ _ _ _ _ _ W0 hW0
    rw [hW0]
    have hszl : w.heap.size + 6 ≤ W0.heap.size := by omega
    have hszu : W0.heap.size ≤ w.heap.size + 6 := by omega
    clear hsz
    obtain ⟨cc, hgv⟩ := from_gives W0 r f lb (HT.out.below hbl) off ho1 (w.heap.size + 1 + 1 + 1 + 1 + 1) (w.heap.size + 1 + 1 + 1 + 1) bx5.cell bx4.cell
    rw [HXS.out] at hgv
    refine range_law rfl (by omega) (gf := 51) (lb := #[.pointer (some ⟨w.heap.size + 1 + 1 + 1 + 1 + 1, 0, none⟩), .pointer (some ⟨w.heap.size + 1 + 1 + 1 + 1, 0, none⟩)]) rfl trivial (enters_of Try.func51 (by kernel_rfl) rfl) (hgv _) (fun _ => rfl)
      (fun pre W => FrI w A c (n) n (stop) xs pre W ∧ (pre.length < n ∨ n = n)) (fun j pre W => j = .exit 0 ∧ FrI w A c (n) n (stop) xs pre W ∧ pre.length = n) (fun pre A B h hs => ⟨h.1.sim hs (by omega), h.2⟩) (fun j pre A B h hs => ⟨h.1, h.2.1.sim hs (by omega), h.2.2⟩)
      ⟨⟨bx0, bx1, bx2, bx3, hbl⟩, .inr rfl⟩
      (fun x a' _ => a' = { tmps := #[.pointer (some ⟨r, 0, none⟩), .slice A n c, .int .i64 off, .int .i64 stop, undef, .pointer (some ⟨w.heap.size, 0, none⟩), undef, .pointer (some ⟨w.heap.size + 1, 0, none⟩), .pointer (some ⟨w.heap.size + 1 + 1, 0, none⟩), .pointer (some ⟨w.heap.size + 1 + 1 + 1, 0, none⟩), .int .i64 x.1, .int .i64 x.2, .int .i64 stop, .bool false, .bool false, undef, undef, undef, undef, .bool false, undef, undef, undef, undef, .pointer (some ⟨r, 0, none⟩), .int .i64 off, .func (.func 51) #[] #[.pointer (some ⟨w.heap.size + 1 + 1 + 1 + 1 + 1, 0, none⟩), .pointer (some ⟨w.heap.size + 1 + 1 + 1 + 1, 0, none⟩)], .int .i64 x.1, .int .i64 x.2, undef, undef, undef, undef, undef, undef, undef, undef, undef, undef, undef, undef, undef, undef, undef, undef, undef, undef, undef, undef, undef, undef, undef, undef, undef, undef, undef, undef, undef, undef, undef, undef, undef, undef, undef, undef], defers := [] })
      (fun _ _ _ _ h _ => h) ?assign ?body ?done ?stop
    case assign =>
      intro l pre x W K hi _ _ hK
      have HK := Lib.hid (hK _ _ (Held.refl _ _ _ _) hi rfl)
      clear hK hi
      simp only [encI]
      gi_wp2
      exact HK.out
    case body =>
      rintro l pre x a' W ⟨hI, hpm⟩ rfl hpx hwz hl1 hl2 _
      have hxe : xs[pre.length]? = some x := by
        obtain ⟨t, ht⟩ := hpx
        rw [← ht]
        simp
      have hpl : pre.length < n := by
        have h1 := hpx.length_le
        simp at h1
        omega
      have hpm2 : pre.length < n := by omega
      have HI := Lib.hid hI
      obtain ⟨b, o, rfl, d1, d2⟩ : ∃ b o, A = some ⟨b, o, none⟩ ∧ W.cell? ⟨b, o + pre.length * 2, none⟩ = some (.int .i64 (x.1 : Nat)) ∧ W.cell? ⟨b, o + pre.length * 2 + 1, none⟩ = some (.int .i64 x.2) := by
        obtain ⟨_, _, _, _, h0 | ⟨b, o, e, hh⟩⟩ := HR.out
        · omega
        · exact ⟨b, o, e, cell_below hI.bel (hh _ _ hxe).1, cell_below hI.bel (hh _ _ hxe).2⟩
      have c0 := hI.b0.cell
      have c1 := hI.b1.cell
      have c3 := hI.b3.cell
      have f3 := hI.b3.frozen
      obtain ⟨y, z⟩ := x
      have HE : Hid (Held W0.heap.size (W0.heap.size + 2) cc W (W.setCell ⟨w.heap.size + 1 + 1 + 1, 0, none⟩ (.int .i64 (pre.length + 1 : Nat))) ∧ FrI w (some ⟨b, o, none⟩) c (n) n (stop) xs (pre ++ [(y, z)]) (W.setCell ⟨w.heap.size + 1 + 1 + 1, 0, none⟩ (.int .i64 (pre.length + 1 : Nat)))) := by
        have hch : Chg (fun b => b = w.heap.size + 1 + 1 + 1) W (W.setCell ⟨w.heap.size + 1 + 1 + 1, 0, none⟩ (.int .i64 (pre.length + 1 : Nat))) := (Chg.refl (fun b => b = w.heap.size + 1 + 1 + 1) W).setCell (p := ⟨w.heap.size + 1 + 1 + 1, 0, none⟩) (fun _ => rfl) _
        refine ⟨Held.of_chg hch (by rintro b rfl hb; omega) (by rintro b rfl; omega) hwz, HI.out.b0.other (by omega) _, HI.out.b1.other (by omega) _, HI.out.b2.other (by omega) _, ?_, ?_⟩
        · have := HI.out.b3.set (.int .i64 (pre.length + 1 : Nat))
          rw [List.length_append]
          exact this
        · exact HI.out.bel.setCell (p := ⟨w.heap.size + 1 + 1 + 1, 0, none⟩) (by show w.heap.size ≤ w.heap.size + 1 + 1 + 1; omega) _
      clear hI hxe hpx HR HT hgv hpm HXS
      generalize hpg : pre.length = pl at *
      by_cases hq : pl + 1 = n
      · have hz : ((pl + 1 : Nat) : Int) = (n : Int) := by omega
        rw [hz] at HE
        gi_wp2
        exact ⟨HE.out.1, HE.out.2⟩
      · gi_wp2
        first
          | exact ⟨HE.out.1, HE.out.2⟩
          | exact ⟨HE.out.1, HE.out.2, by simp; omega⟩
    case done =>
      rintro D W hD ⟨hI, hm⟩ hK
      have hpl : xs.length = n := by omega
      have HI := Lib.hid hI
      have HK := Lib.hid hK
      clear hI hK HR HT hgv HXS
      have c0 := HI.out.b0.cell
      have c2 := HI.out.b2.cell
      have f2 := HI.out.b2.frozen
      have c3 := HI.out.b3.cell
      rw [hpl] at c3
      have hDl := heap_lt HK.out
      have HDn : Hid (D ≠ w.heap.size + 1 + 1) := by have := HI.out.b2.lt; intro e; have h1 : W.heap[w.heap.size + 1 + 1]? = _ := HI.out.b2; have h2 := HK.out; rw [e, h1] at h2; cases h2
      gi_wp2
      have hK' : (W.setCell ⟨w.heap.size + 1 + 1, 0, none⟩ (.bool true)).heap[D]? = some (.deferred (some [])) := (heap_setCell_other W _ _ _ HDn.out).trans HK.out
      have hbx := HI.out.b2.set (.bool true)
      have hs := Sim.putObj (W.setCell ⟨w.heap.size + 1 + 1, 0, none⟩ (.bool true)) (B0 := w.heap.size) (.deferred none) (by omega) hK' rfl
      refine ⟨by simp, .inl ⟨_, _, rfl, run_takeDeferred hK', ?_⟩⟩
      refine ⟨_, results_box rfl _ _ (w.heap.size + 1 + 1) true rfl (boxed_sim hbx hs).cell, rfl, ?_⟩
      have hb : Below w.heap.size w (W.setCell ⟨w.heap.size + 1 + 1, 0, none⟩ (.bool true)) := HI.out.bel.setCell (p := ⟨w.heap.size + 1 + 1, 0, none⟩) (by show w.heap.size ≤ w.heap.size + 1 + 1; omega) _
      exact ⟨hs.os.trans hb.os, hs.tape.trans hb.tape, hs.output.trans hb.output, Nat.le_trans hb.size hs.size, fun k hk => (hs.low k hk).trans (hb.block k hk)⟩
    case stop =>
      rintro D j pre W hD _ ⟨rfl, hI, hpl⟩ hK
      have HI := Lib.hid hI
      have HK := Lib.hid hK
      clear hI hK HR HT hgv HXS
      have c0 := HI.out.b0.cell
      have c2 := HI.out.b2.cell
      have f2 := HI.out.b2.frozen
      have c3 := HI.out.b3.cell
      rw [hpl] at c3
      have hDl := heap_lt HK.out
      have HDn : Hid (D ≠ w.heap.size + 1 + 1) := by have := HI.out.b2.lt; intro e; have h1 : W.heap[w.heap.size + 1 + 1]? = _ := HI.out.b2; have h2 := HK.out; rw [e, h1] at h2; cases h2
      gi_wp2
      have hK' : (W.setCell ⟨w.heap.size + 1 + 1, 0, none⟩ (.bool true)).heap[D]? = some (.deferred (some [])) := (heap_setCell_other W _ _ _ HDn.out).trans HK.out
      have hbx := HI.out.b2.set (.bool true)
      have hs := Sim.putObj (W.setCell ⟨w.heap.size + 1 + 1, 0, none⟩ (.bool true)) (B0 := w.heap.size) (.deferred none) (by omega) hK' rfl
      refine ⟨by simp, .inl ⟨_, _, rfl, run_takeDeferred hK', ?_⟩⟩
      refine ⟨_, results_box rfl _ _ (w.heap.size + 1 + 1) true rfl (boxed_sim hbx hs).cell, rfl, ?_⟩
      have hb : Below w.heap.size w (W.setCell ⟨w.heap.size + 1 + 1, 0, none⟩ (.bool true)) := HI.out.bel.setCell (p := ⟨w.heap.size + 1 + 1, 0, none⟩) (by show w.heap.size ≤ w.heap.size + 1 + 1; omega) _
      exact ⟨hs.os.trans hb.os, hs.tape.trans hb.tape, hs.output.trans hb.output, Nat.le_trans hb.size hs.size, fun k hk => (hs.low k hk).trans (hb.block k hk)⟩

end Go.Proofs.Ytfljnfmocmhhdaa
