/-
Load of Runs, plain: the tree again.
-/
import Derived.Test.YtfljnfmocmhhdaaRunsGood
import Derived.Test.YtfljnfmocmhhdaaWGood
namespace Go.Proofs.Ytfljnfmocmhhdaa
open Go.RowKit

theorem runP_range (l : List PutV) (h : ∀ p ∈ l, 0 ≤ p.2.2 ∧ p.2.2 < 1000000) : ∀ i, 0 ≤ runP l i ∧ runP l i < 1000000 := by
  unfold runP
  have h0 : ∀ i : Nat, (0 : Int) ≤ (fun _ => 0 : Nat → Int) i ∧ (fun _ => 0 : Nat → Int) i < 1000000 := fun i => by simp
  generalize (fun _ => 0 : Nat → Int) = f at *
  induction l generalizing f with
  | nil => exact h0
  | cons p l ih =>
    refine ih (fun q hq => h q (by simp [hq])) _ fun i => ?_
    have hp := h p (by simp)
    have hi := h0 i
    unfold stepP
    split
    · unfold cutI; split <;> omega
    · unfold updI
      split
      · unfold upd; split <;> omega
      · exact hi

theorem load_runs (f : Nat → Int) (h : ∀ i, 0 ≤ f i ∧ f i < 1000000) : ∀ k, k ≤ 512 → ∃ g, loadUp (runsOf (items f 0 0 k)) (fun _ => 0) = some g ∧ (∀ i, i < k → g i = f i) ∧ ∀ i, k ≤ i → g i = 0
  | 0, _ => ⟨fun _ => 0, rfl, fun i hi => by omega, fun _ _ => rfl⟩
  | k + 1, hk => by
    obtain ⟨g, h1, h2, h3⟩ := load_runs f h k (by omega)
    have h64 : In64 f := fun i _ => by have := h i; omega
    by_cases hz : f k = 0
    · rw [items_succ, if_neg (fun e => e.2 hz), List.append_nil]
      refine ⟨g, h1, fun i hi => ?_, fun i hi => h3 i (by omega)⟩
      by_cases e : i = k
      · subst e; rw [h3 i (Nat.le_refl _), hz]
      · exact h2 i (by omega)
    · have hfk := h k
      have hup : ∀ x, x = f k → (∀ i, i < k + 1 → upd g k x i = f i) ∧ ∀ i, k + 1 ≤ i → upd g k x i = 0 := fun x hx => by
        subst hx
        refine ⟨fun i hi => ?_, fun i hi => ?_⟩
        · by_cases e : i = k
          · subst e; rw [upd_same]
          · rw [upd_other _ _ e]; exact h2 i (by omega)
        · rw [upd_other _ _ (by omega)]; exact h3 i (by omega)
      have hgood := runs_good f h64 k (by omega)
      rw [items_succ, if_pos ⟨by omega, hz⟩, runsOf_snoc, Nat.zero_add]
      generalize runsOf (items f 0 0 k) = L at *
      have hfresh : ∃ g', loadUp (L ++ [((k : Int), f k, 1)]) (fun _ => 0) = some g' ∧ (∀ i, i < k + 1 → g' i = f i) ∧ ∀ i, k + 1 ≤ i → g' i = 0 := by
        have hnb : ¬ bad ((k : Int), f k, 1) := by simp only [bad]; omega
        rw [loadUp_append, h1, Option.bind_some, loadUp_one, if_neg hnb]
        refine ⟨_, rfl, ?_⟩
        have : setRun g (k : Int).toNat (f k) (1 : Int).toNat = upd g k (f k) := by
          show upd g ((k : Int).toNat + 0) (wrap64 (f k + (0 : Nat))) = _
          rw [show (k : Int).toNat + 0 = k by omega, show f k + ((0 : Nat) : Int) = f k by simp, wrap64_id (by omega)]
        simp only
        rw [this]
        exact hup _ rfl
      rcases List.eq_nil_or_concat L with rfl | ⟨m, ⟨o, p, c⟩, rfl⟩
      · exact hfresh
      · rw [List.concat_eq_append] at *
        by_cases hc : o + c = k ∧ wrap64 (p + c) = f k
        · rw [stepR_yes _ _ _ _ _ _ hc.1 hc.2]
          rw [loadUp_append] at h1 ⊢
          obtain ⟨on, cn, e1, e2, g1, g2, _⟩ := (hgood.each (o, p, c) (by simp)).nat
          simp only at e1 e2
          subst e1
          subst e2
          cases hm : loadUp m (fun _ => 0) with
          | none => rw [hm] at h1; cases h1
          | some g0 =>
            rw [hm, Option.bind_some, loadUp_one] at h1
            by_cases hb : bad ((on : Int), p, (cn : Int))
            · rw [if_pos hb] at h1; cases h1
            · rw [if_neg hb] at h1
              have hp1 : 1 ≤ p := by simp only [bad] at hb; omega
              have hnb : ¬ bad ((on : Int), p, (cn : Int) + 1) := by simp only [bad]; omega
              rw [Option.bind_some, loadUp_one, if_neg hnb]
              refine ⟨_, rfl, ?_⟩
              simp only [Option.some.injEq] at h1
              have : setRun g0 (on : Int).toNat p ((cn : Int) + 1).toNat = upd g k (wrap64 (p + (cn : Int))) := by
                rw [show ((cn : Int) + 1).toNat = (cn : Int).toNat + 1 by omega]
                show upd (setRun g0 (on : Int).toNat p (cn : Int).toNat) ((on : Int).toNat + (cn : Int).toNat) (wrap64 (p + ((cn : Int).toNat : Nat))) = _
                rw [h1, show (on : Int).toNat + (cn : Int).toNat = k by omega, show (((cn : Int).toNat : Nat) : Int) = (cn : Int) by omega]
              simp only
              rw [this]
              exact hup _ hc.2
        · rw [stepR_no _ _ _ _ _ _ hc]
          exact hfresh

/-- a list with a bad run in it is refused -/
theorem load_bad (a b : List Run) (x : Run) (h : bad x) (f : Nat → Int) : loadUp (a ++ x :: b) f = none := by
  rw [loadUp_append]
  cases loadUp a f with
  | none => rfl
  | some g => show loadUp (x :: b) g = none; rw [loadUp, if_pos h]

theorem RdT.own {w : World} {B n : Nat} {v : Value} {l : List PutV} (h : w.ownsRow B 41 3 v n (cellsT l)) (hl : l.length = n) (hn : n * 24 ≤ 140737488355328) (hb : ∀ p ∈ l, -9223372036854775808 ≤ p.2.1 ∧ -9223372036854775808 ≤ p.2.2 ∧ p.2.2 ≤ 9223372036854775807) : ∃ A c, v = .slice A n c ∧ RdT w A n c l := by
  rcases h.2 with ⟨rfl, h0⟩ | ⟨g, cap, cur, rfl, hB, hg, h1, h2, h3, h4⟩
  · subst h0
    exact ⟨none, 0, rfl, hl, by omega, by omega, hb, fun h => by omega⟩
  · refine ⟨_, cap, rfl, hl, h1, hn, hb, fun _ => ⟨g, 0, rfl, heap_lt hg, fun i p hp => ?_⟩⟩
    obtain ⟨e1, e2, e3⟩ := cellsT_at l i p hp
    rw [← h4, List.getElem?_take] at e1 e2 e3
    refine ⟨?_, ?_, ?_⟩
    · rw [Nat.zero_add, cell_of_row w _ _ _ _ _ hg]
      split at e1
      · simpa using e1
      · cases e1
    · rw [Nat.zero_add, cell_of_row w _ _ _ _ _ hg]
      split at e2
      · simpa using e2
      · cases e2
    · rw [Nat.zero_add, cell_of_row w _ _ _ _ _ hg]
      split at e3
      · simpa using e3
      · cases e3

end Go.Proofs.Ytfljnfmocmhhdaa
