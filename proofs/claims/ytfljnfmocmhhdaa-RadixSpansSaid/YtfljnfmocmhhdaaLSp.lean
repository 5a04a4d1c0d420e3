/-
RadixSpans: one tree of spans, or two apart, beside variables that are spans: what the calls do to them.
-/
import Derived.Test.YtfljnfmocmhhdaaPWCpy
import Derived.Test.YtfljnfmocmhhdaaLLast
namespace Go.Proofs.Ytfljnfmocmhhdaa.Spn
open Go.RowKit

/-- variables that are spans, and none of lb's blocks -/
def Bxs (lb : Nat → Nat) (L : List (Nat × Int × Int)) (W : World) : Prop := ∀ p ∈ L, BoxS W p.1 p.2.1 p.2.2 ∧ lb p.1 = 0
theorem Bxs.below {lb : Nat → Nat} {L : List (Nat × Int × Int)} {W X : World} (h : Bxs lb L W) (hb : Below W.heap.size W X) : Bxs lb L X := fun p hp => ⟨(h p hp).1.below hb, (h p hp).2⟩
theorem Bxs.set {lb lb' : Nat → Nat} {L : List (Nat × Int × Int)} {W X : World} (h : Bxs lb L W) (hc : Chg (Of lb) W X) (hx : Ext W lb lb') : Bxs lb' L X := fun p hp => by
  obtain ⟨h1, h2⟩ := h p hp
  refine ⟨h1.chg hc (fun e => e h2), ?_⟩
  rcases Nat.eq_zero_or_pos (lb' p.1) with e | e
  · exact e
  · have hlt := heap_lt h1
    rcases hx.1 p.1 (by omega) with e' | e'
    · exact absurd h2 e'
    · omega
theorem Bxs.cons {lb : Nat → Nat} {L : List (Nat × Int × Int)} {W : World} (h : Bxs lb L W) (hd : ∀ b, lb b ≠ 0 → b < W.heap.size) (x y : Int) : Bxs lb ((W.heap.size, x, y) :: L) (W.alloc (.cells #[.int .i64 x, .int .i64 y] 56)) := fun p hp => by
  rcases List.mem_cons.1 hp with rfl | hp
  · refine ⟨heap_alloc_new W _, ?_⟩
    rcases Nat.eq_zero_or_pos (lb W.heap.size) with e | e
    · exact e
    · have := hd W.heap.size (by omega); omega
  · exact h.below ((Below.refl _ _).alloc (Nat.le_refl _) _) p hp

/-- one tree -/
def OneI (w : World) (r : Nat) (f : Nat → Int × Int) (L : List (Nat × Int × Int)) (W : World) : Prop :=
  ∃ lb, TreeI W r f lb ∧ Bxs lb L W ∧ (∀ b, lb b ≠ 0 → w.heap.size ≤ b) ∧ Below w.heap.size w W
theorem OneI.below {w W X : World} {r : Nat} {f : Nat → Int × Int} {L : List (Nat × Int × Int)} (h : OneI w r f L W) (hb : Below W.heap.size W X) : OneI w r f L X := by
  obtain ⟨lb, h1, h2, h3, h4⟩ := h
  exact ⟨lb, h1.below hb, h2.below hb, h3, below_lift h4 hb⟩
theorem OneI.bel {w W : World} {r : Nat} {f : Nat → Int × Int} {L : List (Nat × Int × Int)} (h : OneI w r f L W) : Below w.heap.size w W := by obtain ⟨lb, h1, h2, h3, h4⟩ := h; exact h4
theorem OneI.nil {w W : World} {r : Nat} {f : Nat → Int × Int} {L : List (Nat × Int × Int)} (h : OneI w r f L W) : OneI w r f [] W := by
  obtain ⟨lb, h1, h2, h3, h4⟩ := h
  exact ⟨lb, h1, fun p hp => (by cases hp), h3, h4⟩
theorem OneI.box {w W : World} {r : Nat} {f : Nat → Int × Int} {L : List (Nat × Int × Int)} (h : OneI w r f L W) (x y : Int) : OneI w r f ((W.heap.size, x, y) :: L) (W.alloc (.cells #[.int .i64 x, .int .i64 y] 56)) := by
  obtain ⟨lb, h1, h2, h3, h4⟩ := h
  have hb : Below W.heap.size W (W.alloc (.cells #[.int .i64 x, .int .i64 y] 56)) := (Below.refl _ _).alloc (Nat.le_refl _) _
  exact ⟨lb, h1.below hb, h2.cons h1.dom x y, h3, below_lift h4 hb⟩
theorem OneI.cells {w W : World} {r : Nat} {f : Nat → Int × Int} {L : List (Nat × Int × Int)} (h : OneI w r f L W) {b : Nat} {x y : Int} (hm : (b, x, y) ∈ L) : W.cell? ⟨b, 0, none⟩ = some (.int .i64 x) ∧ W.cell? ⟨b, 1, none⟩ = some (.int .i64 y) := by
  obtain ⟨lb, h1, h2, h3, h4⟩ := h
  exact (h2 _ hm).1.cells
theorem OneI.lt {w W : World} {r : Nat} {f : Nat → Int × Int} {L : List (Nat × Int × Int)} (h : OneI w r f L W) {b : Nat} {x y : Int} (hm : (b, x, y) ∈ L) : b < W.heap.size := by
  obtain ⟨lb, h1, h2, h3, h4⟩ := h
  exact heap_lt (h2 _ hm).1
theorem OneI.get {w W : World} {r : Nat} {f : Nat → Int × Int} {L : List (Nat × Int × Int)} (h : OneI w r f L W) (off : Nat) (ho : off < 512) :
    Calls Try.prog 32 #[.pointer (some ⟨r, 0, none⟩), .int .i64 off] W fun e W' => e = .returned (.agg #[.int .i64 (f off).1, .int .i64 (f off).2]) ∧ OneI w r f L W' := by
  obtain ⟨lb, h1, h2, h3, h4⟩ := id h
  exact (get_any W r f lb h1 off ho).mono fun e W' ⟨he, hb⟩ => ⟨he, OneI.below h hb⟩
theorem OneI.set {w W : World} {r : Nat} {f : Nat → Int × Int} {L : List (Nat × Int × Int)} (h : OneI w r f L W) (off : Nat) (ho : off < 512) (x y : Int) :
    Calls Try.prog 33 #[.pointer (some ⟨r, 0, none⟩), .int .i64 off, .agg #[.int .i64 x, .int .i64 y]] W fun e W' => e = .returned (.tuple #[.agg #[.int .i64 (f off).1, .int .i64 (f off).2], .int .i64 0]) ∧ OneI w r (upd f off (x, y)) L W' := by
  obtain ⟨lb, h1, h2, h3, h4⟩ := h
  refine (set_any W r f lb h1 off ho (x, y)).mono ?_
  rintro e W' ⟨he, lb', k1, k2, k3⟩
  exact ⟨he, lb', k1, h2.set k3 k2, fun b hb => (k2.1 b hb).elim (h3 b) (fun e => Nat.le_trans h4.size e), h4.trans (k3.below _ h4.size (fun b hb e => by have := h3 b e; omega))⟩

/-- two trees apart -/
def TwoI (w : World) (u : Nat) (fu : Nat → Int × Int) (c : Nat) (fc : Nat → Int × Int) (L : List (Nat × Int × Int)) (W : World) : Prop :=
  ∃ lu lc, TreeI W u fu lu ∧ TreeI W c fc lc ∧ (∀ b, lu b ≠ 0 → lc b = 0) ∧ Bxs lu L W ∧ Bxs lc L W ∧ (∀ b, lu b ≠ 0 → w.heap.size ≤ b) ∧ (∀ b, lc b ≠ 0 → w.heap.size ≤ b) ∧ Below w.heap.size w W
section
variable {w W : World} {u c : Nat} {fu fc : Nat → Int × Int} {L : List (Nat × Int × Int)}
theorem TwoI.below {X : World} (h : TwoI w u fu c fc L W) (hb : Below W.heap.size W X) : TwoI w u fu c fc L X := by
  obtain ⟨lu, lc, h1, h2, h3, h4, h5, h6, h7, h8⟩ := h
  exact ⟨lu, lc, h1.below hb, h2.below hb, h3, h4.below hb, h5.below hb, h6, h7, below_lift h8 hb⟩
theorem TwoI.bel (h : TwoI w u fu c fc L W) : Below w.heap.size w W := by obtain ⟨lu, lc, h1, h2, h3, h4, h5, h6, h7, h8⟩ := h; exact h8
theorem TwoI.flip (h : TwoI w u fu c fc L W) : TwoI w c fc u fu L W := by
  obtain ⟨lu, lc, h1, h2, h3, h4, h5, h6, h7, h8⟩ := h
  exact ⟨lc, lu, h2, h1, fun b hb => (Nat.eq_zero_or_pos (lu b)).elim id (fun e => absurd (h3 b (by omega)) hb), h5, h4, h7, h6, h8⟩
theorem TwoI.box (h : TwoI w u fu c fc L W) (x y : Int) : TwoI w u fu c fc ((W.heap.size, x, y) :: L) (W.alloc (.cells #[.int .i64 x, .int .i64 y] 56)) := by
  obtain ⟨lu, lc, h1, h2, h3, h4, h5, h6, h7, h8⟩ := h
  have hb : Below W.heap.size W (W.alloc (.cells #[.int .i64 x, .int .i64 y] 56)) := (Below.refl _ _).alloc (Nat.le_refl _) _
  exact ⟨lu, lc, h1.below hb, h2.below hb, h3, h4.cons h1.dom x y, h5.cons h2.dom x y, h6, h7, below_lift h8 hb⟩
theorem TwoI.cells (h : TwoI w u fu c fc L W) {b : Nat} {x y : Int} (hm : (b, x, y) ∈ L) : W.cell? ⟨b, 0, none⟩ = some (.int .i64 x) ∧ W.cell? ⟨b, 1, none⟩ = some (.int .i64 y) := by
  obtain ⟨lu, lc, h1, h2, h3, h4, h5, h6, h7, h8⟩ := h
  exact (h4 _ hm).1.cells
theorem TwoI.get (h : TwoI w u fu c fc L W) (off : Nat) (ho : off < 512) :
    Calls Try.prog 32 #[.pointer (some ⟨u, 0, none⟩), .int .i64 off] W fun e W' => e = .returned (.agg #[.int .i64 (fu off).1, .int .i64 (fu off).2]) ∧ TwoI w u fu c fc L W' := by
  obtain ⟨lu, lc, h1, h2, h3, h4, h5, h6, h7, h8⟩ := id h
  exact (get_any W u fu lu h1 off ho).mono fun e W' ⟨he, hb⟩ => ⟨he, TwoI.below h hb⟩
theorem TwoI.len (h : TwoI w u fu c fc L W) : Calls Try.prog 34 #[.pointer (some ⟨u, 0, none⟩)] W fun e W' => e = .returned (.int .i64 (cntI fu)) ∧ W = W' := by
  obtain ⟨lu, lc, h1, h2, h3, h4, h5, h6, h7, h8⟩ := h
  exact len_any W u fu lu h1
theorem TwoI.set (h : TwoI w u fu c fc L W) (off : Nat) (ho : off < 512) (x y : Int) :
    Calls Try.prog 33 #[.pointer (some ⟨u, 0, none⟩), .int .i64 off, .agg #[.int .i64 x, .int .i64 y]] W fun e W' => e = .returned (.tuple #[.agg #[.int .i64 (fu off).1, .int .i64 (fu off).2], .int .i64 0]) ∧ TwoI w u (upd fu off (x, y)) c fc L W' := by
  obtain ⟨lu, lc, h1, h2, h3, h4, h5, h6, h7, h8⟩ := h
  refine (set_any W u fu lu h1 off ho (x, y)).mono ?_
  rintro e W' ⟨he, lb', k1, k2, k3⟩
  have hn : ∀ b, lc b ≠ 0 → ¬ Of lu b := fun b hb e => hb (h3 b e)
  refine ⟨he, lb', lc, k1, h2.chg k3 hn, fun b hb => ?_, h4.set k3 k2, fun p hp => ⟨(h5 p hp).1.chg k3 (fun e => e (h4 p hp).2), (h5 p hp).2⟩, fun b hb => (k2.1 b hb).elim (h6 b) (fun e => Nat.le_trans h8.size e), h7, h8.trans (k3.below _ h8.size (fun b hb e => by have := h6 b e; omega))⟩
  rcases k2.1 b hb with e | e
  · exact h3 b e
  · rcases Nat.eq_zero_or_pos (lc b) with e' | e'
    · exact e'
    · have := h2.dom b (by omega); omega
theorem TwoI.cut (h : TwoI w u fu c fc L W) (off : Int) (ho : -9223372036854775808 ≤ off) :
    Calls Try.prog 36 #[.pointer (some ⟨u, 0, none⟩), .int .i64 off] W fun e W' => ∃ v, e = .returned v ∧ TwoI w u (cutI fu off) c fc L W' := by
  obtain ⟨lu, lc, h1, h2, h3, h4, h5, h6, h7, h8⟩ := h
  refine (cut_calls W u fu lu h1 off ho).mono ?_
  rintro e W' ⟨v, he, k1, k3⟩
  exact ⟨v, he, lu, lc, k1, h2.chg k3 (fun b hb e => hb (h3 b e)), h3, h4.set k3 (Ext.refl _ _), fun p hp => ⟨(h5 p hp).1.chg k3 (fun e => e (h4 p hp).2), (h5 p hp).2⟩, h6, h7, h8.trans (k3.below _ h8.size (fun b hb e => by have := h6 b e; omega))⟩
end
theorem OneI.len {w W : World} {r : Nat} {f : Nat → Int × Int} {L : List (Nat × Int × Int)} (h : OneI w r f L W) : Calls Try.prog 34 #[.pointer (some ⟨r, 0, none⟩)] W fun e W' => e = .returned (.int .i64 (cntI f)) ∧ W = W' := by
  obtain ⟨lu, h1, _⟩ := h
  exact len_any W r f lu h1
theorem OneI.copy {w W : World} {r : Nat} {f : Nat → Int × Int} {L : List (Nat × Int × Int)} (h : OneI w r f L W) :
    Calls Try.prog 35 #[.pointer (some ⟨r, 0, none⟩)] W fun e W' => ∃ r2, e = .returned (.pointer (some ⟨r2, 0, none⟩)) ∧ TwoI w r f r2 f [] W' := by
  obtain ⟨lu, h1, h2, h3, h4⟩ := h
  refine (copy_calls W r f lu h1).mono ?_
  rintro e W' ⟨r2, lc, he, k1, k2, k3⟩
  refine ⟨r2, he, lu, lc, h1.below k3, k1, fun b hb => ?_, fun p hp => (by cases hp), fun p hp => (by cases hp), h3, fun b hb => Nat.le_trans h4.size (k2 b hb), below_lift h4 k3⟩
  rcases Nat.eq_zero_or_pos (lc b) with e | e
  · exact e
  · have h5 := k2 b (by omega)
    have h6 := h1.dom b hb
    omega
theorem cut_zero (f : Nat → Int × Int) : cutI f 0 = fun _ => (0, 0) := by funext i; simp [cutI]
theorem new_one (w : World) : Calls Try.prog 31 #[] w fun e W' => e = .returned (.pointer (some ⟨w.heap.size + 1, 0, none⟩)) ∧ OneI w (w.heap.size + 1) (fun _ => (0, 0)) [] W' := by
  refine (new_tree w).mono ?_
  rintro e W' ⟨he, h1, h2, h3⟩
  exact ⟨he, _, h1, fun p hp => (by cases hp), fun b hb => (lbNew_ge hb).1, h2⟩

end Go.Proofs.Ytfljnfmocmhhdaa.Spn
