/-
A range over an iterator that writes one block of its own (a captured variable) between the rounds: a contract for the iterator and a law for the loop. (Printed by gen_qiter.py.)
-/
import Derived.RangeFuncNested
import Derived.RangeFuncBound
import Derived.RangeFuncCalls
import Derived.RangeFuncLeaves
namespace Go.Proofs.YtpombeiabgbpiaaDoor
open Go.RowKit

/-- the world has grown; but for block q all lies as it lay below B0, and so do all cells -/
structure Sim (q B0 : Nat) (A B : World) : Prop where
  os : B.os = A.os
  tape : B.tape = A.tape
  output : B.output = A.output
  size : A.heap.size ≤ B.heap.size
  low : ∀ b : Nat, b < B0 → b ≠ q → B.heap[b]? = A.heap[b]?
  cells : ∀ (b : Nat) cs t fr, b ≠ q → A.heap[b]? = some (Obj.cells cs t fr) → B.heap[b]? = some (Obj.cells cs t fr)

/-- but for block q all that lay lies as it lay -/
structure But (q : Nat) (A B : World) : Prop where
  os : B.os = A.os
  tape : B.tape = A.tape
  output : B.output = A.output
  size : A.heap.size ≤ B.heap.size
  block : ∀ b : Nat, b < A.heap.size → b ≠ q → B.heap[b]? = A.heap[b]?
theorem But.of_below (q : Nat) {A B : World} (h : Below A.heap.size A B) : But q A B := ⟨h.os, h.tape, h.output, h.size, fun b hb _ => h.block b hb⟩
theorem But.refl (q : Nat) (A : World) : But q A A := ⟨rfl, rfl, rfl, Nat.le_refl _, fun _ _ _ => rfl⟩
theorem But.trans {q : Nat} {A B C : World} (h : But q A B) (k : But q B C) : But q A C := ⟨k.os.trans h.os, k.tape.trans h.tape, k.output.trans h.output, Nat.le_trans h.size k.size, fun b hb hn => (k.block b (Nat.lt_of_lt_of_le hb h.size) hn).trans (h.block b hb hn)⟩
theorem But.setCell {q : Nat} {A B : World} (h : But q A B) (o : Nat) (v : Value) : But q A (B.setCell ⟨q, o, none⟩ v) :=
  ⟨h.os, h.tape, h.output, by simpa [World.setCell] using h.size, fun b hb hn => (Below.heap_setCell _ _ _ _ hn).trans (h.block b hb hn)⟩
theorem Sim.of_but {q B0 : Nat} {A B : World} (h : But q A B) (hB : B0 ≤ A.heap.size) : Sim q B0 A B :=
  ⟨h.os, h.tape, h.output, h.size, fun b hb hn => h.block b (by omega) hn, fun b _ _ _ hn hc => (h.block b (Array.getElem?_eq_some_iff.1 hc).1 hn).trans hc⟩
theorem Sim.of_below {q B0 : Nat} {A B : World} (h : Below A.heap.size A B) (hB : B0 ≤ A.heap.size) : Sim q B0 A B := Sim.of_but (But.of_below q h) hB
theorem Sim.putObj {q B0 : Nat} (A : World) {l : Nat} {o : Obj} (o' : Obj) (hl : B0 ≤ l) (h : A.heap[l]? = some o) (ho : o.isCells = false) : Sim q B0 A (A.putObj l o') :=
  ⟨rfl, rfl, rfl, by simp, fun b hb _ => World.putObj_heap_other (by omega), fun b cs t fr _ hc => by
    by_cases e : b = l
    · subst e; rw [h] at hc; cases hc; cases ho
    · exact (World.putObj_heap_other e).trans hc⟩
theorem Sim.trans {q B0 : Nat} {A B C : World} (h : Sim q B0 A B) (k : Sim q B0 B C) : Sim q B0 A C :=
  ⟨k.os.trans h.os, k.tape.trans h.tape, k.output.trans h.output, Nat.le_trans h.size k.size, fun b hb hn => (k.low b hb hn).trans (h.low b hb hn), fun b cs t fr hn hc => k.cells b cs t fr hn (h.cells b cs t fr hn hc)⟩

/-- the blocks of K lie as they lay -/
def KeptIn (K : Nat → Prop) (A B : World) : Prop := ∀ b : Nat, K b → B.heap[b]? = A.heap[b]?
theorem KeptIn.refl (K : Nat → Prop) (A : World) : KeptIn K A A := fun _ _ => rfl
theorem KeptIn.trans {K : Nat → Prop} {X Y Z : World} (h : KeptIn K X Y) (k : KeptIn K Y Z) : KeptIn K X Z := fun b h1 => (k b h1).trans (h b h1)

variable {F : Fence} {n : Nat} {P : Program}

/-- **the iterator's contract**: it hands on xs, in this order, and writes no block that lay but q; whoever is handed an element must leave the blocks of K alone. -/
def Gives {α : Type} (F : Fence) (n : Nat) (P : Program) (g : Nat) (lb : Array Value) (encs : α → Array Value) (q : Nat) (K : Nat → Prop) (xs : List α) (w : World) : Prop :=
  ∀ (l : Nat) (J Jx : List α → World → Prop) (W : World), Below w.heap.size w W →
    (∀ pre A B, J pre A → But q A B → J pre B) → (∀ pre A B, Jx pre A → But q A B → Jx pre B) →
    (∀ pre x W1, J pre W1 → pre ++ [x] <+: xs → W.heap.size ≤ W1.heap.size → YieldAt F (n - 1) P l (encs x) W1 fun e W' =>
      (e = .returned (.bool true) ∧ J (pre ++ [x]) W' ∧ W1.heap.size ≤ W'.heap.size ∧ KeptIn K W1 W') ∨ (e = .returned (.bool false) ∧ Jx (pre ++ [x]) W')) →
    J [] W →
    CallsIn F n P g (#[.func (.yield l) #[] #[]] ++ lb) W fun e W' => (∃ v, e = .returned v) ∧ (J xs W' ∨ ∃ pre, pre <+: xs ∧ Jx pre W')

/-- what a round owes the loop: no block is gone; what is no cells and lies from B0 on, and the blocks of K, lie as they lay -/
structure Held (B0 : Nat) (K : Nat → Prop) (W W' : World) : Prop where
  size : W.heap.size ≤ W'.heap.size
  rest : ∀ (b : Nat) (o : Obj), B0 ≤ b → W.heap[b]? = some o → o.isCells = false → W'.heap[b]? = some o
  kept : KeptIn K W W'
theorem Held.refl (B0 : Nat) (K : Nat → Prop) (W : World) : Held B0 K W W := ⟨Nat.le_refl _, fun _ _ _ h _ => h, KeptIn.refl _ _⟩
theorem Held.trans {B0 : Nat} {K : Nat → Prop} {X Y Z : World} (h : Held B0 K X Y) (k : Held B0 K Y Z) : Held B0 K X Z :=
  ⟨Nat.le_trans h.size k.size, fun b o hb ho hc => k.rest b o hb (h.rest b o hb ho hc) hc, h.kept.trans k.kept⟩

/-- how a round may be left -/
def Left {α : Type} (B0 : Nat) (K : Nat → Prop) (I : List α → World → Prop) (Ix : Code → List α → World → Prop) (xs : List α) (W : World) : Exit → Act → World → Prop
  | .normal, _, W' => Held B0 K W W' ∧ I xs W'
  | .ret, _, W' => Held B0 K W W' ∧ Ix .ret xs W'
  | .exit id, _, W' => Held B0 K W W' ∧ Ix (.exit id) xs W'
  | .goto t, _, W' => Held B0 K W W' ∧ Ix (.goto t) xs W'
  | .panic _, _, _ => False
  | .outgrown, _, _ => False

/-- one round, out of the walks of the assignment and of the body: shared by the outermost loop and the loop within a round -/
theorem yield_round {α : Type} {ps : Array Tmp} {assign body : Code} {fn l B0 q : Nat} {K : Nat → Prop} {tmps : Array Value} {rec : LoopState → Option Code → Loop} {df : Nat}
    (hrec : rec = fun st pe => { state := st, pending := pe, fn, tmps, params := ps, assign, body, defers := df }) (hfn : F.fn fn)
    {encs : α → Array Value} (hps : ∀ x, (encs x).size = ps.size) (hl0 : B0 ≤ l) (hls : ¬ K l)
    (I : List α → World → Prop) (Ix : Code → List α → World → Prop) (hI : ∀ pre A B, I pre A → Sim q B0 A B → I pre B) (hIx : ∀ j pre A B, Ix j pre A → Sim q B0 A B → Ix j pre B)
    (Ax : α → Act → World → Prop) (hAx : ∀ x a' A B, Ax x a' A → Sim q B0 A B → Ax x a' B) (R : World → Prop) (hR : ∀ A B, R A → Held B0 K A B → R B)
    (hRp : ∀ A o', R A → R (A.putObj l o')) {pre : List α} {x : α} {W : World} (_hi : I pre W) (hl : W.heap[l]? = some (.loop (rec .ready none))) (hr : R W)
    (hassign : ∀ (K' : Act → World → Prop), (∀ a' W', Held B0 K W W' → I pre W' → Ax x a' W' → K' a' W') →
      assign.wpIn (F.inRound l) n P (Exit.then K' (fun _ _ _ => False)) { tmps := (ps.zip (encs x)).foldl (fun t (p, v) => t.setIfInBounds p v) tmps, defers := [] } W)
    (hbody : ∀ (a' : Act) (W : World), I pre W → Ax x a' W → R W → (∃ r, W.heap[l]? = some (.loop r)) → body.wpIn (F.inRound l) n P (Left B0 K I Ix (pre ++ [x]) W) a' W) :
    YieldAt F n P l (encs x) W fun e W' =>
      (e = .returned (.bool true) ∧ (I (pre ++ [x]) W' ∧ W'.heap[l]? = some (.loop (rec .ready none)) ∧ R W') ∧ W.heap.size ≤ W'.heap.size ∧ KeptIn K W W') ∨
      (e = .returned (.bool false) ∧ ∃ j, Ix j (pre ++ [x]) W' ∧ W'.heap[l]? = some (.loop (rec .done (some j))) ∧ R W') := by
  have hy := run_yield (P := P) (args := encs x) hl (by rw [hrec]; exact hps x)
  rw [hrec] at hy
  refine ⟨fn, _, assign, body, hy, roundIn_of_wpIn hfn (hassign _ ?_)⟩
  clear hy
  intro a' A hA hia hax
  have hlA := hA.rest _ _ hl0 hl rfl
  have hltA : l < A.heap.size := (Array.getElem?_eq_some_iff.1 hlA).1
  refine ⟨_, run_beginRound hlA (by rw [hrec]), ?_⟩
  have hs1 := Sim.putObj (q := q) A (Obj.loop { rec .ready none with state := .busy }) hl0 hlA rfl
  have hlB : (A.putObj l (.loop { rec .ready none with state := .busy })).heap[l]? = some (.loop { rec .ready none with state := .busy }) := World.putObj_heap_same hltA
  refine wpIn_mono (hbody a' _ (hI _ _ _ hia hs1) (hAx _ _ _ _ hax hs1) (hRp _ _ (hR _ _ hr hA)) ⟨_, hlB⟩) ?_
  have hkB : KeptIn K A (A.putObj l (.loop { rec .ready none with state := .busy })) := fun b h1 => World.putObj_heap_other (fun e => hls (by rw [← e]; exact h1))
  have fin : ∀ (jump : Option Code) (C : World), Held B0 K (A.putObj l (.loop { rec .ready none with state := .busy })) C →
      ∃ D, (Instr.endRound l jump).run P C = .ok (.bool jump.isNone) D ∧ Sim q B0 C D ∧ D.heap[l]? = some (.loop (rec (if jump.isNone then .ready else .done) jump)) ∧ KeptIn K C D ∧ R D := fun jump C hC => by
    have hlC := hC.rest _ _ hl0 hlB rfl
    have hltC : l < C.heap.size := (Array.getElem?_eq_some_iff.1 hlC).1
    have he := run_endRound (P := P) jump hlC
    rw [hrec] at he
    refine ⟨_, he, Sim.putObj C _ hl0 hlC rfl, ?_, fun b h1 => World.putObj_heap_other (fun e => hls (by rw [← e]; exact h1)), hRp _ _ (hR _ _ (hRp _ _ (hR _ _ hr hA)) hC)⟩
    rw [World.putObj_heap_same hltC, hrec]
  intro e a3 C hp
  cases e with
  | normal =>
    obtain ⟨hC, hiC⟩ := hp
    obtain ⟨D, hrun, hsim, hlD, hkD, hrD⟩ := fin none C hC
    refine ⟨_, _, hrun, .inl ⟨rfl, ⟨hI _ _ _ hiC hsim, hlD, hrD⟩, ?_, ((hA.kept.trans hkB).trans hC.kept).trans hkD⟩⟩
    have h1 := hA.size
    have h2 := hC.size
    have h3 := hsim.size
    simp at h2
    omega
  | ret =>
    obtain ⟨D, hrun, hsim, hlD, hkD, hrD⟩ := fin (some .ret) C hp.1
    exact ⟨_, _, hrun, .inr ⟨rfl, _, hIx _ _ _ _ hp.2 hsim, hlD, hrD⟩⟩
  | exit id =>
    obtain ⟨D, hrun, hsim, hlD, hkD, hrD⟩ := fin (some (.exit id)) C hp.1
    exact ⟨_, _, hrun, .inr ⟨rfl, _, hIx _ _ _ _ hp.2 hsim, hlD, hrD⟩⟩
  | goto t =>
    obtain ⟨D, hrun, hsim, hlD, hkD, hrD⟩ := fin (some (.goto t)) C hp.1
    exact ⟨_, _, hrun, .inr ⟨rfl, _, hIx _ _ _ _ hp.2 hsim, hlD, hrD⟩⟩
  | panic ch => exact hp.elim
  | outgrown => exact hp.elim

/-- **the law of an outermost loop** -/
theorem range_law {α : Type} {g : Operand} {ps : Array Tmp} {assign body : Code} {Q : Exit → Act → World → Prop} {a : Act} {w : World}
    (hro : F.round = none) (h1 : 1 ≤ n) {gf : Nat} {lb : Array Value} (hg : a.eval g = .func (.func gf) #[] lb) (hFg : F.fn gf) (eg : ∀ args w, (callFunc gf args).run P w = .ok (.enter gf args) w)
    {encs : α → Array Value} {q : Nat} {K : Nat → Prop} (hq : q < w.heap.size) (hKw : ∀ b, K b → b < w.heap.size) {xs : List α} (hseq : Gives F (n - 1) P gf lb encs q K xs w) (hps : ∀ x, (encs x).size = ps.size)
    (I : List α → World → Prop) (Ix : Code → List α → World → Prop) (hI : ∀ pre A B, I pre A → Sim q w.heap.size A B → I pre B) (hIx : ∀ j pre A B, Ix j pre A → Sim q w.heap.size A B → Ix j pre B) (h0 : I [] w)
    (Ax : α → Act → World → Prop) (hAx : ∀ x a' A B, Ax x a' A → Sim q w.heap.size A B → Ax x a' B)
    (hassign : ∀ (l : Nat) (pre : List α) (x : α) (W : World) (K' : Act → World → Prop), I pre W → pre ++ [x] <+: xs → w.heap.size + 2 ≤ W.heap.size → (∀ a' W', Held w.heap.size K W W' → I pre W' → Ax x a' W' → K' a' W') →
      assign.wpIn (F.inRound l) (n - 1 - 1) P (Exit.then K' (fun _ _ _ => False)) { tmps := (ps.zip (encs x)).foldl (fun t (p, v) => t.setIfInBounds p v) a.tmps, defers := [] } W)
    (hbody : ∀ (l : Nat) (pre : List α) (x : α) (a' : Act) (W : World), I pre W → Ax x a' W → pre ++ [x] <+: xs → w.heap.size + 2 ≤ W.heap.size → w.heap.size ≤ l → l < w.heap.size + 2 → (∃ r, W.heap[l]? = some (.loop r)) →
      body.wpIn (F.inRound l) (n - 1 - 1) P (Left w.heap.size K I Ix (pre ++ [x]) W) a' W)
    (hdone : ∀ (D : Nat) (W : World), w.heap.size ≤ D → I xs W → W.heap[D]? = some (.deferred (some [])) → Q .normal { a with defers := { target := .collected D, args := #[] } :: a.defers } W)
    (hstop : ∀ (D : Nat) (j : Code) (pre : List α) (W : World), w.heap.size ≤ D → pre <+: xs → Ix j pre W → W.heap[D]? = some (.deferred (some [])) → j.wpIn F n P Q { a with defers := { target := .collected D, args := #[] } :: a.defers } W) :
    (Code.rangeFunc g ps assign body).wpIn F n P Q a w := by
  refine wpIn_rangeFunc fun fn hfn => ?_
  rw [hro]
  obtain ⟨rec, hrec⟩ : ∃ rec : LoopState → Option Code → Loop, rec = fun st pe => { state := st, pending := pe, fn, tmps := a.tmps, params := ps, assign, body, defers := w.heap.size } := ⟨_, rfl⟩
  have hb1 : Below w.heap.size w ((w.alloc (.deferred (some []))).alloc (.loop (rec .ready none))) := ((Below.refl _ w).alloc (Nat.le_refl _) _).alloc (by simp) _
  have hL1 : ((w.alloc (.deferred (some []))).alloc (.loop (rec .ready none))).heap[w.heap.size + 1]? = some (.loop (rec .ready none)) := by
    have := World.alloc_heap_new (w.alloc (.deferred (some []))) (.loop (rec .ready none)); rwa [World.size_alloc] at this
  have hK1 : ((w.alloc (.deferred (some []))).alloc (.loop (rec .ready none))).heap[w.heap.size]? = some (.deferred (some [])) :=
    (Below.heap_alloc _ _ _ (by simp)).trans (World.alloc_heap_new w _)
  have hs1 : ((w.alloc (.deferred (some []))).alloc (.loop (rec .ready none))).heap.size = w.heap.size + 2 := by simp
  have he := run_enterLoop_outer (P := P) (w := w) fn a.tmps ps assign body
  rw [show ({ state := .ready, pending := none, fn, tmps := a.tmps, params := ps, assign, body, defers := w.heap.size } : Loop) = rec .ready none from by rw [hrec]] at he
  generalize (w.alloc (.deferred (some []))).alloc (.loop (rec .ready none)) = W1 at *
  refine ⟨w.heap.size + 1, [{ target := .collected w.heap.size, args := #[] }], W1, { target := .fn (.func gf) lb, args := #[.func (.yield (w.heap.size + 1)) #[] #[]] }, W1, gf,
    #[.func (.yield (w.heap.size + 1)) #[] #[]] ++ lb, W1, he, ?_, ?_, ?_, fun _ => h1, ?_⟩
  · simp only [resolve, hg]
    simp [go_sem]
  · intro f' hf'; simp [Target.leads] at hf'; subst hf'; exact hFg
  · simp [invoke, go_sem, eg]
  · refine (hseq (w.heap.size + 1)
      (fun pre W => I pre W ∧ W.heap[w.heap.size + 1]? = some (.loop (rec .ready none)) ∧ W.heap[w.heap.size]? = some (.deferred (some [])))
      (fun pre W => ∃ j, Ix j pre W ∧ W.heap[w.heap.size + 1]? = some (.loop (rec .done (some j))) ∧ W.heap[w.heap.size]? = some (.deferred (some [])))
      W1 hb1
      (fun pre A B h hg' => by
        have k1 := (Array.getElem?_eq_some_iff.1 h.2.1).1
        exact ⟨hI _ _ _ h.1 (Sim.of_but hg' (by omega)), (hg'.block _ k1 (by omega)).trans h.2.1, (hg'.block _ (by omega) (by omega)).trans h.2.2⟩)
      (fun pre A B h hg' => by
        obtain ⟨j, hj, h2, h3⟩ := h
        have k1 := (Array.getElem?_eq_some_iff.1 h2).1
        exact ⟨j, hIx _ _ _ _ hj (Sim.of_but hg' (by omega)), (hg'.block _ k1 (by omega)).trans h2, (hg'.block _ (by omega) (by omega)).trans h3⟩)
      ?_ ⟨hI _ _ _ h0 (Sim.of_below hb1 (Nat.le_refl _)), hL1, hK1⟩).mono ?_
    · rintro pre x W ⟨hi, hl, hk⟩ hpx hsz
      rw [hs1] at hsz
      refine (yield_round (F := F) (P := P) (n := n - 1 - 1) (B0 := w.heap.size) (q := q) (K := K) hrec hfn hps (by omega) (fun e => by have := hKw _ e; omega) I Ix hI hIx Ax hAx
        (fun A => A.heap[w.heap.size]? = some (.deferred (some [])) ∧ w.heap.size + 2 ≤ A.heap.size)
        (fun A B h hh => ⟨hh.rest _ _ (Nat.le_refl _) h.1 rfl, Nat.le_trans h.2 hh.size⟩)
        (fun A o' h => ⟨(World.putObj_heap_other (by omega)).trans h.1, by simpa using h.2⟩)
        hi hl ⟨hk, hsz⟩ (fun K' hK => hassign _ pre x W K' hi hpx hsz hK)
        (fun a' W' hi' hax' hr' hrec' => hbody _ pre x a' W' hi' hax' hpx hr'.2 (by omega) (by omega) hrec')).mono ?_
      rintro e W' (⟨rfl, ⟨h1, h2, h3⟩, h4, h5⟩ | ⟨rfl, j, h1, h2, h3⟩)
      · exact .inl ⟨rfl, ⟨h1, h2, h3.1⟩, h4, h5⟩
      · exact .inr ⟨rfl, j, h1, h2, h3.1⟩
    · rintro e W2 ⟨⟨v, rfl⟩, (⟨hi, hl, hk⟩ | ⟨pre, hpre, j, hi, hl, hk⟩)⟩
      · refine ⟨none, _, by have := run_endLoop (P := P) hl (by rw [hrec]; simp); rw [hrec] at this; exact this, hdone _ _ (Nat.le_refl _) (hI _ _ _ hi (Sim.putObj _ _ (by omega) hl rfl)) ((World.putObj_heap_other (by omega)).trans hk)⟩
      · refine ⟨some j, _, by have := run_endLoop (P := P) hl (by rw [hrec]; simp); rw [hrec] at this; exact this, hstop _ j pre _ (Nat.le_refl _) hpre (hIx _ _ _ _ hi (Sim.putObj _ _ (by omega) hl rfl)) ((World.putObj_heap_other (by omega)).trans hk)⟩

end Go.Proofs.YtpombeiabgbpiaaDoor
