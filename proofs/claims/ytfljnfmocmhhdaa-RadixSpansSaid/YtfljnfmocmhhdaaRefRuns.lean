/-
Runs, plain: the document's test is the program's.
-/
import Derived.Test.YtfljnfmocmhhdaaWRefCut
namespace Go.Proofs.Ytfljnfmocmhhdaa
open Go.RowKit

/-- values of int -/
def In64 (f : Nat → Int) : Prop := ∀ i, i < 512 → -9223372036854775808 ≤ f i ∧ f i ≤ 9223372036854775807
theorem wrap64_id {x : Int} (h : -9223372036854775808 ≤ x ∧ x ≤ 9223372036854775807) : wrap64 x = x := by unfold wrap64; omega
theorem wrap64_range (x : Int) : -9223372036854775808 ≤ wrap64 x ∧ wrap64 x ≤ 9223372036854775807 := by unfold wrap64; omega
theorem wrap64_succ (x : Int) : wrap64 (wrap64 (x - 1) + 1) = wrap64 x := by unfold wrap64; omega

/-- what stands behind k offsets -/
def RunK (f : Nat → Int) (k : Nat) (L : List Run) : Prop :=
  (L = [] ∧ (k = 0 ∨ f (k - 1) = 0)) ∨ ∃ (m : List Run) (o p c : Int), L = m ++ [(o, p, c)] ∧ 0 < k ∧ ((o + c < k ∧ f (k - 1) = 0) ∨ (o + c = k ∧ f (k - 1) ≠ 0 ∧ f (k - 1) = wrap64 (p + c - 1)))
/-- the document's test -/
abbrev goes (f : Nat → Int) (k : Nat) : Prop := 0 < k ∧ f (k - 1) ≠ 0 ∧ wrap64 (f (k - 1) + 1) = f k

theorem RunK.zero {f : Nat → Int} {k : Nat} {L : List Run} (h : RunK f k L) (hz : f k = 0) : RunK f (k + 1) L := by
  rcases h with ⟨h, _⟩ | ⟨m, o, p, c, h, hk, h1⟩
  · exact .inl ⟨h, .inr (by simpa using hz)⟩
  · refine .inr ⟨m, o, p, c, h, by omega, .inl ⟨?_, by simpa using hz⟩⟩
    rcases h1 with ⟨h1, _⟩ | ⟨h1, _⟩ <;> omega
theorem RunK.on {f : Nat → Int} {k : Nat} {L : List Run} (h : RunK f k L) (hg : goes f k) (hkz : f k ≠ 0) : ∃ (m : List Run) (o p c : Int), L = m ++ [(o, p, c)] ∧ stepR L k (f k) = m ++ [(o, p, c + 1)] ∧ RunK f (k + 1) (m ++ [(o, p, c + 1)]) := by
  obtain ⟨g1, g2, g3⟩ := hg
  rcases h with ⟨_, h | h⟩ | ⟨m, o, p, c, rfl, hk, h1⟩
  · omega
  · exact (g2 h).elim
  · rcases h1 with ⟨_, h1⟩ | ⟨h1, h2, h3⟩
    · exact (g2 h1).elim
    · have hw : wrap64 (p + c) = f k := by rw [← g3, h3, wrap64_succ]
      refine ⟨m, o, p, c, rfl, stepR_yes m o p c _ _ h1 hw, .inr ⟨m, o, p, c + 1, rfl, by omega, .inr ⟨by omega, ?_, ?_⟩⟩⟩
      · simpa using hkz
      · rw [show p + (c + 1) - 1 = p + c by omega, hw]; rfl
theorem RunK.fresh {f : Nat → Int} {k : Nat} {L : List Run} (h : RunK f k L) (hg : ¬ goes f k) (hk : f k ≠ 0) (hr : -9223372036854775808 ≤ f k ∧ f k ≤ 9223372036854775807) : stepR L k (f k) = L ++ [((k : Int), f k, 1)] ∧ RunK f (k + 1) (L ++ [((k : Int), f k, 1)]) := by
  refine ⟨?_, .inr ⟨L, k, f k, 1, rfl, by omega, .inr ⟨by omega, by simpa using hk, ?_⟩⟩⟩
  · rcases h with ⟨rfl, _⟩ | ⟨m, o, p, c, rfl, hk, h1⟩
    · rfl
    · refine stepR_no _ _ _ _ _ _ (fun hc => hg ?_)
      rcases h1 with ⟨h1, _⟩ | ⟨h1, h2, h3⟩
      · omega
      · exact ⟨hk, h2, by rw [h3, wrap64_succ]; exact hc.2⟩
  · rw [show f k + 1 - 1 = f k by omega, wrap64_id hr]; rfl

end Go.Proofs.Ytfljnfmocmhhdaa
