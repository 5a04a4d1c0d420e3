/-
A region that draws its order, in the body of a loop over an iterator, by the laws of a plain walk.
-/
import Derived.Test.YtfljnfmocmhhdaaWRound
import Derived.StillTailTactics
import Derived.Deep.RegionHeld3
namespace Go.Proofs.Ytfljnfmocmhhdaa
open Go.RowKit

section
variable {n : Nat} {P : Program} {ops : Array Oper} {md : Region.Mode} {Q : Exit → Act → World → Prop}

theorem rowsIn_wide {row : String} {args : Array Value} {w : World} {R : Value → World → Prop} (h : Rows P row args w R) : RowsIn Fence.wide n P row args w R := by
  intro c cs _
  obtain ⟨v, w', h1, h2⟩ := h c cs
  exact ⟨v, w', h1, stepsIn_wide.2 h2⟩

theorem opIn_plain (l : Nat) {o : Oper} {a : Act} {w : World} {K : Act → World → Prop} (hd : ∀ c, o.op ≠ .defer c) (h : o.wp P a w K Q) : o.wpIn (Fence.wide.inRound l) n P a w K Q := by
  refine opIn_round l rfl hd ⟨fun _ _ => trivial, ?_⟩
  unfold Oper.wp at h
  rw [show Fence.wide.round = none from rfl, Oper.semAt_none]
  generalize (execOp a.eval o).run P w = r at h ⊢
  cases r with
  | ok v w' =>
    cases v <;> simp only [Oper.upon] at h <;> simp only [Oper.uponIn]
    case value => exact h
    case skip => exact h
    case defer => exact h
    case enter f args => exact ⟨fun e => (by cases e), callsIn_wide.2 h⟩
    case row r args => exact ⟨fun e => (by cases e), rowsIn_wide h⟩
  | halt x w' => cases x <;> simp only [Oper.upon] at h <;> simp only [Oper.uponIn] <;> exact h

theorem wpAnyIn_plain (l : Nat) (hq : ¬ LetsOut Q) (hd : noDefer ops = true) : ∀ (fuel : Nat) (listed : Array Bool) (a : Act) (w : World), wpAny P md ops Q fuel listed a w → wpAnyIn (Fence.wide.inRound l) n P md ops Q fuel listed a w
  | 0, _, _, _, h => h
  | fuel + 1, listed, a, w, h => by
    refine ⟨h.1, fun i hi => ?_⟩
    have h2 := h.2 i hi
    unfold wpOp at h2
    unfold wpOpIn
    cases ho : ops[i]? with
    | none => rw [ho] at h2; exact wpAnyIn_plain l hq hd _ _ _ _ h2
    | some o =>
      rw [ho] at h2
      simp only at h2 ⊢
      by_cases hw : Region.wanted o (yielded ops a.tmps) = true
      · rw [if_pos hw] at h2 ⊢
        rcases h2 with h2 | h2
        · exact Oper.wpIn_mono (fun a w h => wpAnyIn_plain l hq hd _ _ _ _ h) (opIn_plain l (noDefer_spec hd ho) h2)
        · exact (hq h2.2).elim
      · rw [if_neg hw] at h2 ⊢
        exact ⟨fun _ _ => trivial, wpAnyIn_plain l hq hd _ _ _ _ h2⟩

/-- by a plain walk of whatever order -/
theorem region_plain {id : Nat} {a : Act} {w : World} (l : Nat) (hq : ¬ LetsOut Q) (hm : P.follows .mixedOrders = true) (hd : noDefer ops = true)
    (h : wpAny P .any ops Q ops.size (Array.replicate ops.size false) a { w with drawn := w.drawn + 1 }) : (Code.region id ops true).wpIn (Fence.wide.inRound l) n P Q a w :=
  wpIn_region_any hm (wpAnyIn_plain l hq hd _ _ _ _ h)

/-- reads and quiet calls ahead of a last operation that writes -/
theorem region_tail {id : Nat} {a : Act} {w : World} {ol : List Oper} (k : Nat) (l : Nat) (hq : ¬ LetsOut Q) (hm : P.follows .mixedOrders = true) (hB : Region.lexTailB .any ol.toArray k = true) (hd : noDefer ol.toArray = true)
    (h : wpStill P ol.toArray { w with drawn := w.drawn + 1 } (fun a' => wpList P ol.toArray Q (ol.drop k) a' { w with drawn := w.drawn + 1 }) (ol.take k) a) : (Code.region id ol.toArray true).wpIn (Fence.wide.inRound l) n P Q a w := by
  simp only [Region.lexTailB, Bool.and_eq_true, decide_eq_true_eq] at hB
  obtain ⟨⟨⟨⟨hsel, hn⟩, hs⟩, hc⟩, hlex⟩ := hB
  have hn' : k < ol.length := by simpa using hn
  have htl : (ol.take k).length = k := by simp; omega
  have hdl : (ol.drop k).length = ol.toArray.size - k := by simp
  have inv0 : HeadInv .any ol.toArray k (Array.replicate ol.toArray.size false) :=
    ⟨by simp, fun j oj _ hl => (by rw [getD_replicate_false] at hl; cases hl), fun t _ ht => getD_in (by simpa using ht) (getD_replicate_false _ _)⟩
  have H := wpAnyL_lex (md := .any) (g := ol.toArray.size - k) hsel hs hc hn (ol.take k) 0 _ a (fun j hj => by
    have hj' : j < k := by rw [htl] at hj; exact hj
    simp [hj']) (by simpa using htl) inv0 (by rw [htl]; exact hlex) h
  refine region_plain l hq hm hd ?_
  have := wpAny_of_head (Q' := Q) (g := ol.toArray.size - k) (fun listed a' hL => by
    have := wpAny_of_seq (md := .any) (Q' := Q) (ol.drop k) k listed a' { w with drawn := w.drawn + 1 } (fun j => by simp [List.getElem?_drop]) (by rw [hdl]; exact hL.1) hL.2
    rwa [hdl] at this) _ _ _ H
  rw [htl, show k + (ol.toArray.size - k) = ol.toArray.size by omega] at this
  exact this
end

end Go.Proofs.Ytfljnfmocmhhdaa
