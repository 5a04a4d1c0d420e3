/-
Runs, plain: each run tells the tree's own values; neighbours do not go on; the counts add up.
-/
import Derived.Test.YtfljnfmocmhhdaaRefRuns
namespace Go.Proofs.Ytfljnfmocmhhdaa
open Go.RowKit

/-- a run of the first k offsets -/
structure GoodR (f : Nat → Int) (k : Nat) (x : Run) : Prop where
  nat : ∃ o c : Nat, x.1 = o ∧ x.2.2 = c ∧ 1 ≤ c ∧ o + c ≤ k ∧ ∀ j, j < c → f (o + j) = wrap64 (x.2.1 + j) ∧ f (o + j) ≠ 0
  pg : x.2.1 = f x.1.toNat
theorem GoodR.mono {f : Nat → Int} {k k' : Nat} {x : Run} (h : GoodR f k x) (hk : k ≤ k') : GoodR f k' x := by
  obtain ⟨o, c, h1, h2, h3, h4, h5⟩ := h.nat
  exact ⟨⟨o, c, h1, h2, h3, by omega, h5⟩, h.pg⟩

/-- two neighbours -/
def Apart2 (x y : Run) : Prop := x.1 + x.2.2 ≤ y.1 ∧ ¬ (x.1 + x.2.2 = y.1 ∧ wrap64 (x.2.1 + x.2.2) = y.2.1)
def sumC : List Run → Int
  | [] => 0
  | x :: l => x.2.2 + sumC l
theorem sumC_snoc (l : List Run) (x : Run) : sumC (l ++ [x]) = sumC l + x.2.2 := by
  induction l with
  | nil => simp [sumC]
  | cons y l ih => simp only [List.cons_append, sumC, ih]; omega

structure GoodL (f : Nat → Int) (k : Nat) (L : List Run) : Prop where
  each : ∀ x ∈ L, GoodR f k x
  next : ∀ i x y, L[i]? = some x → L[i + 1]? = some y → Apart2 x y
  sum : sumC L = (cntN f k : Nat)

theorem snoc_get {α : Type} (l : List α) (a : α) (i : Nat) (x : α) (h : (l ++ [a])[i]? = some x) : (i < l.length ∧ l[i]? = some x) ∨ (i = l.length ∧ x = a) := by
  rcases Nat.lt_or_ge i l.length with hl | hl
  · rw [List.getElem?_append_left hl] at h; exact .inl ⟨hl, h⟩
  · rw [List.getElem?_append_right hl] at h
    have : i - l.length = 0 := by
      have := (List.getElem?_eq_some_iff.1 h).1
      simp at this; omega
    rw [this] at h
    simp at h
    exact .inr ⟨by omega, h.symm⟩

theorem GoodL.zero {f : Nat → Int} {k : Nat} {L : List Run} (h : GoodL f k L) (hz : f k = 0) : GoodL f (k + 1) L :=
  ⟨fun x hx => (h.each x hx).mono (by omega), h.next, by rw [cntN_succ, if_pos hz]; exact h.sum⟩

theorem GoodL.fresh {f : Nat → Int} {k : Nat} {L : List Run} (h : GoodL f k L) (hz : f k ≠ 0) (hr : -9223372036854775808 ≤ f k ∧ f k ≤ 9223372036854775807)
    (hn : ∀ x, L.getLast? = some x → ¬ (x.1 + x.2.2 = k ∧ wrap64 (x.2.1 + x.2.2) = f k)) : GoodL f (k + 1) (L ++ [((k : Int), f k, 1)]) := by
  refine ⟨fun x hx => ?_, fun i x y h1 h2 => ?_, ?_⟩
  · rcases List.mem_append.1 hx with hx | hx
    · exact (h.each x hx).mono (by omega)
    · obtain rfl := List.mem_singleton.1 hx
      refine ⟨⟨k, 1, rfl, rfl, by omega, by omega, fun j hj => ?_⟩, by simp⟩
      obtain rfl : j = 0 := by omega
      simp only [Nat.add_zero]
      exact ⟨by rw [show f k + ((0 : Nat) : Int) = f k by simp, wrap64_id hr], hz⟩
  · rcases snoc_get L _ _ _ h2 with ⟨l2, e2⟩ | ⟨l2, rfl⟩
    · rcases snoc_get L _ _ _ h1 with ⟨_, e1⟩ | ⟨l1, _⟩
      · exact h.next i x y e1 e2
      · omega
    · rcases snoc_get L _ _ _ h1 with ⟨l1, e1⟩ | ⟨l1, _⟩
      · have hmem := List.mem_of_getElem? e1
        obtain ⟨o, c, h3, h4, _, h6, _⟩ := (h.each x hmem).nat
        refine ⟨by show x.1 + x.2.2 ≤ (k : Int); omega, hn x ?_⟩
        rw [List.getLast?_eq_getElem?, show L.length - 1 = i by omega]
        exact e1
      · omega
  · rw [sumC_snoc, cntN_succ, if_neg hz, h.sum]; simp

theorem GoodL.bump {f : Nat → Int} {k : Nat} {m : List Run} {o p c : Int} (h : GoodL f k (m ++ [(o, p, c)])) (hz : f k ≠ 0) (h1 : o + c = k) (h2 : wrap64 (p + c) = f k) : GoodL f (k + 1) (m ++ [(o, p, c + 1)]) := by
  obtain ⟨on, cn, e1, e2, g1, g2, g3⟩ := (h.each (o, p, c) (by simp)).nat
  simp only at e1 e2 g3
  refine ⟨fun x hx => ?_, fun i x y q1 q2 => ?_, ?_⟩
  · rcases List.mem_append.1 hx with hx | hx
    · exact (h.each x (by simp [hx])).mono (by omega)
    · obtain rfl := List.mem_singleton.1 hx
      refine ⟨⟨on, cn + 1, e1, by show c + 1 = _; omega, by omega, by omega, fun j hj => ?_⟩, (h.each (o, p, c) (by simp)).pg⟩
      by_cases hj2 : j < cn
      · exact g3 j hj2
      · have e3 : on + j = k := by omega
        have e4 : (j : Int) = c := by omega
        rw [e3]
        show f k = wrap64 (p + (j : Int)) ∧ f k ≠ 0
        rw [e4, h2]
        exact ⟨rfl, hz⟩
  · rcases snoc_get m _ _ _ q2 with ⟨l2, e3⟩ | ⟨l2, rfl⟩
    · rcases snoc_get m _ _ _ q1 with ⟨_, e4⟩ | ⟨l1, _⟩
      · exact h.next i x y (by rw [List.getElem?_append_left (by omega)]; exact e4) (by rw [List.getElem?_append_left (by omega)]; exact e3)
      · omega
    · rcases snoc_get m _ _ _ q1 with ⟨l1, e4⟩ | ⟨l1, _⟩
      · exact h.next i x (o, p, c) (by rw [List.getElem?_append_left (by omega)]; exact e4) (by rw [l2]; simp)
      · omega
  · have hs := h.sum
    rw [sumC_snoc] at hs
    rw [sumC_snoc, cntN_succ, if_neg hz]
    simp at hs ⊢
    omega

theorem runs_good (f : Nat → Int) (h64 : In64 f) : ∀ k, k ≤ 512 → GoodL f k (runsOf (items f 0 0 k))
  | 0, _ => ⟨fun x hx => by simp [runsOf, items] at hx, fun i x y h _ => by simp [runsOf, items] at h, rfl⟩
  | k + 1, hk => by
    have ih := runs_good f h64 k (by omega)
    by_cases hz : f k = 0
    · rw [items_succ, if_neg (fun e => e.2 hz), List.append_nil]
      exact ih.zero hz
    · rw [items_succ, if_pos ⟨by omega, hz⟩, runsOf_snoc, Nat.zero_add]
      generalize runsOf (items f 0 0 k) = L at *
      rcases List.eq_nil_or_concat L with rfl | ⟨m, ⟨o, p, c⟩, rfl⟩
      · exact ih.fresh hz (h64 k (by omega)) (fun x h => by simp at h)
      · rw [List.concat_eq_append] at *
        by_cases hc : o + c = k ∧ wrap64 (p + c) = f k
        · rw [stepR_yes _ _ _ _ _ _ hc.1 hc.2]
          exact ih.bump hz hc.1 hc.2
        · rw [stepR_no _ _ _ _ _ _ hc]
          refine ih.fresh hz (h64 k (by omega)) (fun x h => ?_)
          simp at h
          subst h
          exact hc

end Go.Proofs.Ytfljnfmocmhhdaa
