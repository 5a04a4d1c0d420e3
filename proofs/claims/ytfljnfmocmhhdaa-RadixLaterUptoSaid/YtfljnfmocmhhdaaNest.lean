/-
The law of a range over an iterator within a round of another such loop: as the outermost loop's law, with one block for two and no mark for deferred calls.
-/
import Derived.Test.YtfljnfmocmhhdaaIter
namespace Go.Proofs.Ytfljnfmocmhhdaa
open Go.RowKit

variable {F : Fence} {n : Nat} {P : Program}

theorem Gives.inRound {α : Type} {g : Nat} {lb : Array Value} {encs : α → Array Value} {c : Nat} {xs : List α} {w : World} (l : Nat) (h : Gives F n P g lb encs c xs w) : Gives (F.inRound l) n P g lb encs c xs w := h

/-- **the law of a loop within a round of loop l₀** -/
theorem range_law_in {α : Type} {g : Operand} {ps : Array Tmp} {assign body : Code} {Q : Exit → Act → World → Prop} {a : Act} {w : World}
    {l₀ : Nat} {r₀ : Loop} (hro : F.round = some l₀) (hl₀ : w.heap[l₀]? = some (.loop r₀)) (h1 : 1 ≤ n) {gf : Nat} {lb : Array Value} (hg : a.eval g = .func (.func gf) #[] lb) (hFg : F.fn gf) (eg : ∀ args w, (callFunc gf args).run P w = .ok (.enter gf args) w)
    {encs : α → Array Value} {c : Nat} {xs : List α} (hseq : Gives F (n - 1) P gf lb encs c xs w) (hps : ∀ x, (encs x).size = ps.size)
    (I : List α → World → Prop) (Ix : Code → List α → World → Prop) (hI : ∀ pre A B, I pre A → Sim w.heap.size A B → I pre B) (hIx : ∀ j pre A B, Ix j pre A → Sim w.heap.size A B → Ix j pre B) (h0 : I [] w)
    (Ax : α → Act → World → Prop) (hAx : ∀ x a' A B, Ax x a' A → Sim w.heap.size A B → Ax x a' B)
    (hassign : ∀ (l : Nat) (pre : List α) (x : α) (W : World) (K : Act → World → Prop), I pre W → pre ++ [x] <+: xs → w.heap.size + 1 + c ≤ W.heap.size → (∀ a' W', Held w.heap.size (w.heap.size + 1) c W W' → I pre W' → Ax x a' W' → K a' W') →
      assign.wpIn (F.inRound l) (n - 1 - 1) P (Exit.then K (fun _ _ _ => False)) { tmps := (ps.zip (encs x)).foldl (fun t (p, v) => t.setIfInBounds p v) a.tmps, defers := [] } W)
    (hbody : ∀ (l : Nat) (pre : List α) (x : α) (a' : Act) (W : World), I pre W → Ax x a' W → pre ++ [x] <+: xs → w.heap.size + 1 + c ≤ W.heap.size → w.heap.size ≤ l → l < w.heap.size + 1 → (∃ r, W.heap[l]? = some (.loop r)) →
      body.wpIn (F.inRound l) (n - 1 - 1) P (Left w.heap.size (w.heap.size + 1) c I Ix (pre ++ [x]) W) a' W)
    (hdone : ∀ (W : World), I xs W → Q .normal a W)
    (hstop : ∀ (j : Code) (pre : List α) (W : World), pre <+: xs → Ix j pre W → j.wpIn F n P Q a W) :
    (Code.rangeFunc g ps assign body).wpIn F n P Q a w := by
  refine wpIn_rangeFunc fun fn hfn => ?_
  rw [hro]
  obtain ⟨rec, hrec⟩ : ∃ rec : LoopState → Option Code → Loop, rec = fun st pe => { state := st, pending := pe, fn, tmps := a.tmps, params := ps, assign, body, defers := r₀.defers } := ⟨_, rfl⟩
  have hb1 : Below w.heap.size w (w.alloc (.loop (rec .ready none))) := (Below.refl _ w).alloc (Nat.le_refl _) _
  have hL1 : (w.alloc (.loop (rec .ready none))).heap[w.heap.size]? = some (.loop (rec .ready none)) := World.alloc_heap_new w _
  have hs1 : (w.alloc (.loop (rec .ready none))).heap.size = w.heap.size + 1 := by simp
  have he := run_enterLoop_inner (P := P) hl₀ fn a.tmps ps assign body
  rw [show ({ state := .ready, pending := none, fn, tmps := a.tmps, params := ps, assign, body, defers := r₀.defers } : Loop) = rec .ready none from by rw [hrec]] at he
  generalize w.alloc (.loop (rec .ready none)) = W1 at *
  refine ⟨w.heap.size, [], W1, { target := .fn (.func gf) lb, args := #[.func (.yield w.heap.size) #[] #[]] }, W1, gf,
    #[.func (.yield w.heap.size) #[] #[]] ++ lb, W1, he, ?_, ?_, ?_, fun _ => h1, ?_⟩
  · simp only [resolve, hg]
    simp [go_sem]
  · intro f' hf'; simp [Target.leads] at hf'; subst hf'; exact hFg
  · simp [invoke, go_sem, eg]
  · refine (hseq w.heap.size
      (fun pre W => I pre W ∧ W.heap[w.heap.size]? = some (.loop (rec .ready none)))
      (fun pre W => ∃ j, Ix j pre W ∧ W.heap[w.heap.size]? = some (.loop (rec .done (some j))))
      W1 hb1
      (fun pre A B h hg' => by
        have k1 := (Array.getElem?_eq_some_iff.1 h.2).1
        exact ⟨hI _ _ _ h.1 (Sim.of_below hg' (by omega)), (hg'.block _ k1).trans h.2⟩)
      (fun pre A B h hg' => by
        obtain ⟨j, hj, h2⟩ := h
        have k1 := (Array.getElem?_eq_some_iff.1 h2).1
        exact ⟨j, hIx _ _ _ _ hj (Sim.of_below hg' (by omega)), (hg'.block _ k1).trans h2⟩)
      ?_ ⟨hI _ _ _ h0 (Sim.of_below hb1 (Nat.le_refl _)), hL1⟩).mono ?_
    · rintro pre x W ⟨hi, hl⟩ hpx hsz
      rw [hs1] at hsz ⊢
      refine (yield_round (F := F) (P := P) (n := n - 1 - 1) (B0 := w.heap.size) (s := w.heap.size + 1) (c := c) hrec hfn hps (by omega) (by omega) I Ix hI hIx Ax hAx
        (fun A => w.heap.size + 1 + c ≤ A.heap.size)
        (fun A B h hh => Nat.le_trans h hh.size)
        (fun A o' h => by simpa using h)
        hi hl hsz (fun K hK => hassign _ pre x W K hi hpx hsz hK)
        (fun a' W' hi' hax' hr' hrec' => hbody _ pre x a' W' hi' hax' hpx hr' (by omega) (by omega) hrec')).mono ?_
      rintro e W' (⟨rfl, ⟨h1, h2, h3⟩, h4, h5⟩ | ⟨rfl, j, h1, h2, h3⟩)
      · exact .inl ⟨rfl, ⟨h1, h2⟩, h4, h5⟩
      · exact .inr ⟨rfl, j, h1, h2⟩
    · rintro e W2 ⟨⟨v, rfl⟩, (⟨hi, hl⟩ | ⟨pre, hpre, j, hi, hl⟩)⟩
      · exact ⟨none, _, by have := run_endLoop (P := P) hl (by rw [hrec]; simp); rw [hrec] at this; exact this, hdone _ (hI _ _ _ hi (Sim.putObj _ _ (Nat.le_refl _) hl rfl))⟩
      · exact ⟨some j, _, by have := run_endLoop (P := P) hl (by rw [hrec]; simp); rw [hrec] at this; exact this, hstop j pre _ hpre (hIx _ _ _ _ hi (Sim.putObj _ _ (Nat.le_refl _) hl rfl))⟩

end Go.Proofs.Ytfljnfmocmhhdaa
