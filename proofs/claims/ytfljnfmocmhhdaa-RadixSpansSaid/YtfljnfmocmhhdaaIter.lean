/-
A range over an iterator that, when the going through begins, makes memory of its own and reads it between the rounds, while the body makes and writes other memory: a contract for the iterator and a law for the loop.
-/
import Derived.RangeFuncNested
import Derived.RangeFuncBound
import Derived.RangeFuncCalls
import Derived.RangeFuncLeaves
namespace Go.Proofs.Ytfljnfmocmhhdaa
open Go.RowKit

/-- the world has grown; below B0 all lies as it lay, and so do all cells -/
structure Sim (B0 : Nat) (A B : World) : Prop where
  os : B.os = A.os
  tape : B.tape = A.tape
  output : B.output = A.output
  size : A.heap.size ≤ B.heap.size
  low : ∀ b : Nat, b < B0 → B.heap[b]? = A.heap[b]?
  cells : ∀ (b : Nat) cs t fr, A.heap[b]? = some (Obj.cells cs t fr) → B.heap[b]? = some (Obj.cells cs t fr)

theorem Sim.of_below {B0 : Nat} {A B : World} (h : Below A.heap.size A B) (hB : B0 ≤ A.heap.size) : Sim B0 A B :=
  ⟨h.os, h.tape, h.output, h.size, fun b hb => h.block b (by omega), fun b _ _ _ hc => (h.block b (Array.getElem?_eq_some_iff.1 hc).1).trans hc⟩
theorem Sim.putObj {B0 : Nat} (A : World) {l : Nat} {o : Obj} (o' : Obj) (hl : B0 ≤ l) (h : A.heap[l]? = some o) (ho : o.isCells = false) : Sim B0 A (A.putObj l o') :=
  ⟨rfl, rfl, rfl, by simp, fun b hb => World.putObj_heap_other (by omega), fun b cs t fr hc => by
    by_cases e : b = l
    · subst e; rw [h] at hc; cases hc; cases ho
    · exact (World.putObj_heap_other e).trans hc⟩
theorem Sim.trans {B0 : Nat} {A B C : World} (h : Sim B0 A B) (k : Sim B0 B C) : Sim B0 A C :=
  ⟨k.os.trans h.os, k.tape.trans h.tape, k.output.trans h.output, Nat.le_trans h.size k.size, fun b hb => (k.low b hb).trans (h.low b hb), fun b cs t fr hc => k.cells b cs t fr (h.cells b cs t fr hc)⟩

/-- the c blocks from s on lie as they lay -/
def KeptIn (s c : Nat) (A B : World) : Prop := ∀ b : Nat, s ≤ b → b < s + c → B.heap[b]? = A.heap[b]?
theorem KeptIn.refl (s c : Nat) (A : World) : KeptIn s c A A := fun _ _ _ => rfl
theorem KeptIn.trans {s c : Nat} {X Y Z : World} (h : KeptIn s c X Y) (k : KeptIn s c Y Z) : KeptIn s c X Z := fun b h1 h2 => (k b h1 h2).trans (h b h1 h2)

variable {F : Fence} {n : Nat} {P : Program}

/-- **the iterator's contract**: it hands on xs, in this order; whoever is handed an element may lean on it that the c blocks from where the call began are there, and must leave these alone. -/
def Gives {α : Type} (F : Fence) (n : Nat) (P : Program) (g : Nat) (lb : Array Value) (encs : α → Array Value) (c : Nat) (xs : List α) (w : World) : Prop :=
  ∀ (l : Nat) (J Jx : List α → World → Prop) (W : World), Below w.heap.size w W →
    (∀ pre A B, J pre A → Below A.heap.size A B → J pre B) → (∀ pre A B, Jx pre A → Below A.heap.size A B → Jx pre B) →
    (∀ pre x W1, J pre W1 → pre ++ [x] <+: xs → W.heap.size + c ≤ W1.heap.size → YieldAt F (n - 1) P l (encs x) W1 fun e W' =>
      (e = .returned (.bool true) ∧ J (pre ++ [x]) W' ∧ W1.heap.size ≤ W'.heap.size ∧ KeptIn W.heap.size c W1 W') ∨ (e = .returned (.bool false) ∧ Jx (pre ++ [x]) W')) →
    J [] W →
    CallsIn F n P g (#[.func (.yield l) #[] #[]] ++ lb) W fun e W' => (∃ v, e = .returned v) ∧ (J xs W' ∨ ∃ pre, pre <+: xs ∧ Jx pre W')

/-- what a round owes the loop: no block is gone; what is no cells and lies from B0 on, and the c blocks from s on, lie as they lay -/
structure Held (B0 s c : Nat) (W W' : World) : Prop where
  size : W.heap.size ≤ W'.heap.size
  rest : ∀ (b : Nat) (o : Obj), B0 ≤ b → W.heap[b]? = some o → o.isCells = false → W'.heap[b]? = some o
  kept : KeptIn s c W W'
theorem Held.refl (B0 s c : Nat) (W : World) : Held B0 s c W W := ⟨Nat.le_refl _, fun _ _ _ h _ => h, KeptIn.refl _ _ _⟩
theorem Held.trans {B0 s c : Nat} {X Y Z : World} (h : Held B0 s c X Y) (k : Held B0 s c Y Z) : Held B0 s c X Z :=
  ⟨Nat.le_trans h.size k.size, fun b o hb ho hc => k.rest b o hb (h.rest b o hb ho hc) hc, h.kept.trans k.kept⟩

/-- how a round may be left -/
def Left {α : Type} (B0 s c : Nat) (I : List α → World → Prop) (Ix : Code → List α → World → Prop) (xs : List α) (W : World) : Exit → Act → World → Prop
  | .normal, _, W' => Held B0 s c W W' ∧ I xs W'
  | .ret, _, W' => Held B0 s c W W' ∧ Ix .ret xs W'
  | .exit id, _, W' => Held B0 s c W W' ∧ Ix (.exit id) xs W'
  | .goto t, _, W' => Held B0 s c W W' ∧ Ix (.goto t) xs W'
  | .panic _, _, _ => False
  | .outgrown, _, _ => False

/-- one round, out of the walks of the assignment and of the body: shared by the outermost loop and the loop within a round -/
theorem yield_round {α : Type} {ps : Array Tmp} {assign body : Code} {fn l B0 s c : Nat} {tmps : Array Value} {rec : LoopState → Option Code → Loop} {df : Nat}
    (hrec : rec = fun st pe => { state := st, pending := pe, fn, tmps, params := ps, assign, body, defers := df }) (hfn : F.fn fn)
    {encs : α → Array Value} (hps : ∀ x, (encs x).size = ps.size) (hl0 : B0 ≤ l) (hls : l < s)
    (I : List α → World → Prop) (Ix : Code → List α → World → Prop) (hI : ∀ pre A B, I pre A → Sim B0 A B → I pre B) (hIx : ∀ j pre A B, Ix j pre A → Sim B0 A B → Ix j pre B)
    (Ax : α → Act → World → Prop) (hAx : ∀ x a' A B, Ax x a' A → Sim B0 A B → Ax x a' B) (R : World → Prop) (hR : ∀ A B, R A → Held B0 s c A B → R B)
    (hRp : ∀ A o', R A → R (A.putObj l o')) {pre : List α} {x : α} {W : World} (_hi : I pre W) (hl : W.heap[l]? = some (.loop (rec .ready none))) (hr : R W)
    (hassign : ∀ (K : Act → World → Prop), (∀ a' W', Held B0 s c W W' → I pre W' → Ax x a' W' → K a' W') →
      assign.wpIn (F.inRound l) n P (Exit.then K (fun _ _ _ => False)) { tmps := (ps.zip (encs x)).foldl (fun t (p, v) => t.setIfInBounds p v) tmps, defers := [] } W)
    (hbody : ∀ (a' : Act) (W : World), I pre W → Ax x a' W → R W → (∃ r, W.heap[l]? = some (.loop r)) → body.wpIn (F.inRound l) n P (Left B0 s c I Ix (pre ++ [x]) W) a' W) :
    YieldAt F n P l (encs x) W fun e W' =>
      (e = .returned (.bool true) ∧ (I (pre ++ [x]) W' ∧ W'.heap[l]? = some (.loop (rec .ready none)) ∧ R W') ∧ W.heap.size ≤ W'.heap.size ∧ KeptIn s c W W') ∨
      (e = .returned (.bool false) ∧ ∃ j, Ix j (pre ++ [x]) W' ∧ W'.heap[l]? = some (.loop (rec .done (some j))) ∧ R W') := by
  have hy := run_yield (P := P) (args := encs x) hl (by rw [hrec]; exact hps x)
  rw [hrec] at hy
  refine ⟨fn, _, assign, body, hy, roundIn_of_wpIn hfn (hassign _ ?_)⟩
  clear hy
  intro a' A hA hia hax
  have hlA := hA.rest _ _ hl0 hl rfl
  have hltA : l < A.heap.size := (Array.getElem?_eq_some_iff.1 hlA).1
  refine ⟨_, run_beginRound hlA (by rw [hrec]), ?_⟩
  have hs1 := Sim.putObj A (Obj.loop { rec .ready none with state := .busy }) hl0 hlA rfl
  have hlB : (A.putObj l (.loop { rec .ready none with state := .busy })).heap[l]? = some (.loop { rec .ready none with state := .busy }) := World.putObj_heap_same hltA
  refine wpIn_mono (hbody a' _ (hI _ _ _ hia hs1) (hAx _ _ _ _ hax hs1) (hRp _ _ (hR _ _ hr hA)) ⟨_, hlB⟩) ?_
  have hkB : KeptIn s c A (A.putObj l (.loop { rec .ready none with state := .busy })) := fun b h1 _ => World.putObj_heap_other (by omega)
  have fin : ∀ (jump : Option Code) (C : World), Held B0 s c (A.putObj l (.loop { rec .ready none with state := .busy })) C →
      ∃ D, (Instr.endRound l jump).run P C = .ok (.bool jump.isNone) D ∧ Sim B0 C D ∧ D.heap[l]? = some (.loop (rec (if jump.isNone then .ready else .done) jump)) ∧ KeptIn s c C D ∧ R D := fun jump C hC => by
    have hlC := hC.rest _ _ hl0 hlB rfl
    have hltC : l < C.heap.size := (Array.getElem?_eq_some_iff.1 hlC).1
    have he := run_endRound (P := P) jump hlC
    rw [hrec] at he
    refine ⟨_, he, Sim.putObj C _ hl0 hlC rfl, ?_, fun b h1 _ => World.putObj_heap_other (by omega), hRp _ _ (hR _ _ (hRp _ _ (hR _ _ hr hA)) hC)⟩
    rw [World.putObj_heap_same hltC, hrec]
  intro e a3 C hp
  cases e with
  | normal =>
    obtain ⟨hC, hiC⟩ := hp
    obtain ⟨D, hrun, hsim, hlD, hkD, hrD⟩ := fin none C hC
    refine ⟨_, _, hrun, .inl ⟨rfl, ⟨hI _ _ _ hiC hsim, hlD, hrD⟩, ?_, ((hA.kept.trans hkB).trans hC.kept).trans hkD⟩⟩
    have h1 := hA.size
    have h2 := hC.size
    have h3 := hsim.size
    simp at h2
    omega
  | ret =>
    obtain ⟨D, hrun, hsim, hlD, hkD, hrD⟩ := fin (some .ret) C hp.1
    exact ⟨_, _, hrun, .inr ⟨rfl, _, hIx _ _ _ _ hp.2 hsim, hlD, hrD⟩⟩
  | exit id =>
    obtain ⟨D, hrun, hsim, hlD, hkD, hrD⟩ := fin (some (.exit id)) C hp.1
    exact ⟨_, _, hrun, .inr ⟨rfl, _, hIx _ _ _ _ hp.2 hsim, hlD, hrD⟩⟩
  | goto t =>
    obtain ⟨D, hrun, hsim, hlD, hkD, hrD⟩ := fin (some (.goto t)) C hp.1
    exact ⟨_, _, hrun, .inr ⟨rfl, _, hIx _ _ _ _ hp.2 hsim, hlD, hrD⟩⟩
  | panic ch => exact hp.elim
  | outgrown => exact hp.elim

/-- **the law of an outermost loop** -/
theorem range_law {α : Type} {g : Operand} {ps : Array Tmp} {assign body : Code} {Q : Exit → Act → World → Prop} {a : Act} {w : World}
    (hro : F.round = none) (h1 : 1 ≤ n) {gf : Nat} {lb : Array Value} (hg : a.eval g = .func (.func gf) #[] lb) (hFg : F.fn gf) (eg : ∀ args w, (callFunc gf args).run P w = .ok (.enter gf args) w)
    {encs : α → Array Value} {c : Nat} {xs : List α} (hseq : Gives F (n - 1) P gf lb encs c xs w) (hps : ∀ x, (encs x).size = ps.size)
    (I : List α → World → Prop) (Ix : Code → List α → World → Prop) (hI : ∀ pre A B, I pre A → Sim w.heap.size A B → I pre B) (hIx : ∀ j pre A B, Ix j pre A → Sim w.heap.size A B → Ix j pre B) (h0 : I [] w)
    (Ax : α → Act → World → Prop) (hAx : ∀ x a' A B, Ax x a' A → Sim w.heap.size A B → Ax x a' B)
    (hassign : ∀ (l : Nat) (pre : List α) (x : α) (W : World) (K : Act → World → Prop), I pre W → pre ++ [x] <+: xs → w.heap.size + 2 + c ≤ W.heap.size → (∀ a' W', Held w.heap.size (w.heap.size + 2) c W W' → I pre W' → Ax x a' W' → K a' W') →
      assign.wpIn (F.inRound l) (n - 1 - 1) P (Exit.then K (fun _ _ _ => False)) { tmps := (ps.zip (encs x)).foldl (fun t (p, v) => t.setIfInBounds p v) a.tmps, defers := [] } W)
    (hbody : ∀ (l : Nat) (pre : List α) (x : α) (a' : Act) (W : World), I pre W → Ax x a' W → pre ++ [x] <+: xs → w.heap.size + 2 + c ≤ W.heap.size → w.heap.size ≤ l → l < w.heap.size + 2 → (∃ r, W.heap[l]? = some (.loop r)) →
      body.wpIn (F.inRound l) (n - 1 - 1) P (Left w.heap.size (w.heap.size + 2) c I Ix (pre ++ [x]) W) a' W)
    (hdone : ∀ (D : Nat) (W : World), w.heap.size ≤ D → I xs W → W.heap[D]? = some (.deferred (some [])) → Q .normal { a with defers := { target := .collected D, args := #[] } :: a.defers } W)
    (hstop : ∀ (D : Nat) (j : Code) (pre : List α) (W : World), w.heap.size ≤ D → pre <+: xs → Ix j pre W → W.heap[D]? = some (.deferred (some [])) → j.wpIn F n P Q { a with defers := { target := .collected D, args := #[] } :: a.defers } W) :
    (Code.rangeFunc g ps assign body).wpIn F n P Q a w := by
  refine wpIn_rangeFunc fun fn hfn => ?_
  rw [hro]
  obtain ⟨rec, hrec⟩ : ∃ rec : LoopState → Option Code → Loop, rec = fun st pe => { state := st, pending := pe, fn, tmps := a.tmps, params := ps, assign, body, defers := w.heap.size } := ⟨_, rfl⟩
  have hb1 : Below w.heap.size w ((w.alloc (.deferred (some []))).alloc (.loop (rec .ready none))) := ((Below.refl _ w).alloc (Nat.le_refl _) _).alloc (by simp) _
  have hL1 : ((w.alloc (.deferred (some []))).alloc (.loop (rec .ready none))).heap[w.heap.size + 1]? = some (.loop (rec .ready none)) := by
    have := World.alloc_heap_new (w.alloc (.deferred (some []))) (.loop (rec .ready none)); rwa [World.size_alloc] at this
  have hK1 : ((w.alloc (.deferred (some []))).alloc (.loop (rec .ready none))).heap[w.heap.size]? = some (.deferred (some [])) :=
    (Below.heap_alloc _ _ _ (by simp)).trans (World.alloc_heap_new w _)
  have hs1 : ((w.alloc (.deferred (some []))).alloc (.loop (rec .ready none))).heap.size = w.heap.size + 2 := by simp
  have he := run_enterLoop_outer (P := P) (w := w) fn a.tmps ps assign body
  rw [show ({ state := .ready, pending := none, fn, tmps := a.tmps, params := ps, assign, body, defers := w.heap.size } : Loop) = rec .ready none from by rw [hrec]] at he
  generalize (w.alloc (.deferred (some []))).alloc (.loop (rec .ready none)) = W1 at *
  refine ⟨w.heap.size + 1, [{ target := .collected w.heap.size, args := #[] }], W1, { target := .fn (.func gf) lb, args := #[.func (.yield (w.heap.size + 1)) #[] #[]] }, W1, gf,
    #[.func (.yield (w.heap.size + 1)) #[] #[]] ++ lb, W1, he, ?_, ?_, ?_, fun _ => h1, ?_⟩
  · simp only [resolve, hg]
    simp [go_sem]
  · intro f' hf'; simp [Target.leads] at hf'; subst hf'; exact hFg
  · simp [invoke, go_sem, eg]
  · refine (hseq (w.heap.size + 1)
      (fun pre W => I pre W ∧ W.heap[w.heap.size + 1]? = some (.loop (rec .ready none)) ∧ W.heap[w.heap.size]? = some (.deferred (some [])))
      (fun pre W => ∃ j, Ix j pre W ∧ W.heap[w.heap.size + 1]? = some (.loop (rec .done (some j))) ∧ W.heap[w.heap.size]? = some (.deferred (some [])))
      W1 hb1
      (fun pre A B h hg' => by
        have k1 := (Array.getElem?_eq_some_iff.1 h.2.1).1
        exact ⟨hI _ _ _ h.1 (Sim.of_below hg' (by omega)), (hg'.block _ k1).trans h.2.1, (hg'.block _ (by omega)).trans h.2.2⟩)
      (fun pre A B h hg' => by
        obtain ⟨j, hj, h2, h3⟩ := h
        have k1 := (Array.getElem?_eq_some_iff.1 h2).1
        exact ⟨j, hIx _ _ _ _ hj (Sim.of_below hg' (by omega)), (hg'.block _ k1).trans h2, (hg'.block _ (by omega)).trans h3⟩)
      ?_ ⟨hI _ _ _ h0 (Sim.of_below hb1 (Nat.le_refl _)), hL1, hK1⟩).mono ?_
    · rintro pre x W ⟨hi, hl, hk⟩ hpx hsz
      rw [hs1] at hsz ⊢
      refine (yield_round (F := F) (P := P) (n := n - 1 - 1) (B0 := w.heap.size) (s := w.heap.size + 2) (c := c) hrec hfn hps (by omega) (by omega) I Ix hI hIx Ax hAx
        (fun A => A.heap[w.heap.size]? = some (.deferred (some [])) ∧ w.heap.size + 2 + c ≤ A.heap.size)
        (fun A B h hh => ⟨hh.rest _ _ (Nat.le_refl _) h.1 rfl, Nat.le_trans h.2 hh.size⟩)
        (fun A o' h => ⟨(World.putObj_heap_other (by omega)).trans h.1, by simpa using h.2⟩)
        hi hl ⟨hk, hsz⟩ (fun K hK => hassign _ pre x W K hi hpx hsz hK)
        (fun a' W' hi' hax' hr' hrec' => hbody _ pre x a' W' hi' hax' hpx hr'.2 (by omega) (by omega) hrec')).mono ?_
      rintro e W' (⟨rfl, ⟨h1, h2, h3⟩, h4, h5⟩ | ⟨rfl, j, h1, h2, h3⟩)
      · exact .inl ⟨rfl, ⟨h1, h2, h3.1⟩, h4, h5⟩
      · exact .inr ⟨rfl, j, h1, h2, h3.1⟩
    · rintro e W2 ⟨⟨v, rfl⟩, (⟨hi, hl, hk⟩ | ⟨pre, hpre, j, hi, hl, hk⟩)⟩
      · refine ⟨none, _, by have := run_endLoop (P := P) hl (by rw [hrec]; simp); rw [hrec] at this; exact this, hdone _ _ (Nat.le_refl _) (hI _ _ _ hi (Sim.putObj _ _ (by omega) hl rfl)) ((World.putObj_heap_other (by omega)).trans hk)⟩
      · refine ⟨some j, _, by have := run_endLoop (P := P) hl (by rw [hrec]; simp); rw [hrec] at this; exact this, hstop _ j pre _ (Nat.le_refl _) hpre (hIx _ _ _ _ hi (Sim.putObj _ _ (by omega) hl rfl)) ((World.putObj_heap_other (by omega)).trans hk)⟩

end Go.Proofs.Ytfljnfmocmhhdaa
