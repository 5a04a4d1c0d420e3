/-
The laws of a range over an iterator, where the assign code copies the handed values into the named variables: the frame of a round needs no writing out.
-/
import Derived.Test.YtfljnfmocmhhdaaNest
namespace Go.Proofs.Ytfljnfmocmhhdaa
open Go.RowKit

variable {F : Fence} {n : Nat} {P : Program}

/-- the frame of a round: the parameters' slots and the variables' slots hold what is handed -/
def asg (ps ds : Array Tmp) (vs tmps : Array Value) : Array Value := (ds.zip vs).foldl (fun t (p, v) => t.setIfInBounds p v) ((ps.zip vs).foldl (fun t (p, v) => t.setIfInBounds p v) tmps)

theorem asg_two (p0 p1 d0 d1 : Tmp) (v0 v1 : Value) (t : Array Value) : asg #[p0, p1] #[d0, d1] #[v0, v1] t = (((t.setIfInBounds p0 v0).setIfInBounds p1 v1).setIfInBounds d0 v0).setIfInBounds d1 v1 := by simp [asg]

theorem range_law_as {α : Type} {g : Operand} {ps : Array Tmp} {assign body : Code} {Q : Exit → Act → World → Prop} {a : Act} {w : World} (ds : Array Tmp)
    (hro : F.round = none) (h1 : 1 ≤ n) {gf : Nat} {lb : Array Value} (hg : a.eval g = .func (.func gf) #[] lb) (hFg : F.fn gf) (eg : ∀ args w, (callFunc gf args).run P w = .ok (.enter gf args) w)
    {encs : α → Array Value} {c : Nat} {xs : List α} (hseq : Gives F (n - 1) P gf lb encs c xs w) (hps : ∀ x, (encs x).size = ps.size)
    (I : List α → World → Prop) (Ix : Code → List α → World → Prop) (hI : ∀ pre A B, I pre A → Sim w.heap.size A B → I pre B) (hIx : ∀ j pre A B, Ix j pre A → Sim w.heap.size A B → Ix j pre B) (h0 : I [] w)
    (hassign : ∀ (l : Nat) (x : α) (W : World) (K : Act → World → Prop), K { tmps := asg ps ds (encs x) a.tmps, defers := [] } W →
      assign.wpIn (F.inRound l) (n - 1 - 1) P (Exit.then K (fun _ _ _ => False)) { tmps := (ps.zip (encs x)).foldl (fun t (p, v) => t.setIfInBounds p v) a.tmps, defers := [] } W)
    (hbody : ∀ (l : Nat) (pre : List α) (x : α) (W : World), I pre W → pre ++ [x] <+: xs → w.heap.size + 2 + c ≤ W.heap.size → w.heap.size ≤ l → l < w.heap.size + 2 → (∃ r, W.heap[l]? = some (.loop r)) →
      body.wpIn (F.inRound l) (n - 1 - 1) P (Left w.heap.size (w.heap.size + 2) c I Ix (pre ++ [x]) W) { tmps := asg ps ds (encs x) a.tmps, defers := [] } W)
    (hdone : ∀ (D : Nat) (W : World), w.heap.size ≤ D → I xs W → W.heap[D]? = some (.deferred (some [])) → Q .normal { a with defers := { target := .collected D, args := #[] } :: a.defers } W)
    (hstop : ∀ (D : Nat) (j : Code) (pre : List α) (W : World), w.heap.size ≤ D → pre <+: xs → Ix j pre W → W.heap[D]? = some (.deferred (some [])) → j.wpIn F n P Q { a with defers := { target := .collected D, args := #[] } :: a.defers } W) :
    (Code.rangeFunc g ps assign body).wpIn F n P Q a w :=
  range_law hro h1 hg hFg eg hseq hps I Ix hI hIx h0 (fun x a' _ => a' = { tmps := asg ps ds (encs x) a.tmps, defers := [] }) (fun _ _ _ _ h _ => h)
    (fun l pre x W K hi _ _ hK => hassign l x W K (hK _ _ (Held.refl _ _ _ _) hi rfl))
    (fun l pre x a' W hi e hpx hwz h1 h2 h3 => by subst e; exact hbody l pre x W hi hpx hwz h1 h2 h3) hdone hstop

theorem range_law_in_as {α : Type} {g : Operand} {ps : Array Tmp} {assign body : Code} {Q : Exit → Act → World → Prop} {a : Act} {w : World} (ds : Array Tmp)
    {l₀ : Nat} {r₀ : Loop} (hro : F.round = some l₀) (hl₀ : w.heap[l₀]? = some (.loop r₀)) (h1 : 1 ≤ n) {gf : Nat} {lb : Array Value} (hg : a.eval g = .func (.func gf) #[] lb) (hFg : F.fn gf) (eg : ∀ args w, (callFunc gf args).run P w = .ok (.enter gf args) w)
    {encs : α → Array Value} {c : Nat} {xs : List α} (hseq : Gives F (n - 1) P gf lb encs c xs w) (hps : ∀ x, (encs x).size = ps.size)
    (I : List α → World → Prop) (Ix : Code → List α → World → Prop) (hI : ∀ pre A B, I pre A → Sim w.heap.size A B → I pre B) (hIx : ∀ j pre A B, Ix j pre A → Sim w.heap.size A B → Ix j pre B) (h0 : I [] w)
    (hassign : ∀ (l : Nat) (x : α) (W : World) (K : Act → World → Prop), K { tmps := asg ps ds (encs x) a.tmps, defers := [] } W →
      assign.wpIn (F.inRound l) (n - 1 - 1) P (Exit.then K (fun _ _ _ => False)) { tmps := (ps.zip (encs x)).foldl (fun t (p, v) => t.setIfInBounds p v) a.tmps, defers := [] } W)
    (hbody : ∀ (l : Nat) (pre : List α) (x : α) (W : World), I pre W → pre ++ [x] <+: xs → w.heap.size + 1 + c ≤ W.heap.size → w.heap.size ≤ l → l < w.heap.size + 1 → (∃ r, W.heap[l]? = some (.loop r)) →
      body.wpIn (F.inRound l) (n - 1 - 1) P (Left w.heap.size (w.heap.size + 1) c I Ix (pre ++ [x]) W) { tmps := asg ps ds (encs x) a.tmps, defers := [] } W)
    (hdone : ∀ (W : World), I xs W → Q .normal a W)
    (hstop : ∀ (j : Code) (pre : List α) (W : World), pre <+: xs → Ix j pre W → j.wpIn F n P Q a W) :
    (Code.rangeFunc g ps assign body).wpIn F n P Q a w :=
  range_law_in hro hl₀ h1 hg hFg eg hseq hps I Ix hI hIx h0 (fun x a' _ => a' = { tmps := asg ps ds (encs x) a.tmps, defers := [] }) (fun _ _ _ _ h _ => h)
    (fun l pre x W K hi _ _ hK => hassign l x W K (hK _ _ (Held.refl _ _ _ _) hi rfl))
    (fun l pre x a' W hi e hpx hwz h1 h2 h3 => by subst e; exact hbody l pre x W hi hpx hwz h1 h2 h3) hdone hstop

end Go.Proofs.Ytfljnfmocmhhdaa
