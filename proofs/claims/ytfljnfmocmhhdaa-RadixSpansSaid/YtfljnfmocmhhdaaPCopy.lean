/-
copied of a whole tree of ints: a copy in blocks of its own, one behind the other.
-/
import Derived.Test.YtfljnfmocmhhdaaPWCopied
namespace Go.Proofs.Ytfljnfmocmhhdaa.Spn
open Go.RowKit

/-- a copy of a part of the lowest level but one -/
def Cp1 (F : Nat → Int × Int) (c : Nat) (w : World) (g : Nat) : Prop := ∃ (p : Nat → Option Nat) (cs : Nat → Nat), NodeI w g p (fun _ => (0, 0)) ∧ c = 1 + tot cs 8 ∧ ∀ k, k < 8 →
  (p k = none ∧ cs k = 0 ∧ ∀ i, i < 8 → F (8 * k + i) = (0, 0)) ∨ (p k = some (g + 1 + tot cs k) ∧ cs k = 1 ∧ NodeI w (g + 1 + tot cs k) (fun _ => none) (fun i => F (8 * k + i)))
/-- a copy of a whole tree -/
def Cp2 (F : Nat → Int × Int) (c : Nat) (w : World) (g : Nat) : Prop := ∃ (p : Nat → Option Nat) (cs : Nat → Nat), NodeI w g p (fun _ => (0, 0)) ∧ c = 1 + tot cs 8 ∧ ∀ k, k < 8 →
  (p k = none ∧ cs k = 0 ∧ ∀ i, i < 64 → F (64 * k + i) = (0, 0)) ∨ (p k = some (g + 1 + tot cs k) ∧ Cp1 (fun i => F (64 * k + i)) (cs k) w (g + 1 + tot cs k))

theorem NodeI.same {w w' : World} {g : Nat} {p : Nat → Option Nat} {v : Nat → Int × Int} (h : NodeI w g p v) (he : w'.heap[g]? = w.heap[g]?) : NodeI w' g p v := he.trans h
theorem tot_lt (cs : Nat → Nat) {k : Nat} (hk : k < 8) : tot cs k + cs k ≤ tot cs 8 := by
  have := tot_le cs (i := k + 1) (k := 8) (by omega)
  simpa only [tot] using this
theorem Cp1.kept {F : Nat → Int × Int} {c : Nat} {w w' : World} {g : Nat} (h : Cp1 F c w g) (hk : ∀ x, g ≤ x → x < g + c → w'.heap[x]? = w.heap[x]?) : Cp1 F c w' g := by
  obtain ⟨p, cs, hn, hc, hh⟩ := h
  refine ⟨p, cs, hn.same (hk g (Nat.le_refl _) (by omega)), hc, fun k hk8 => ?_⟩
  rcases hh k hk8 with h1 | ⟨h1, h2, h3⟩
  · exact .inl h1
  · have := tot_lt cs hk8
    exact .inr ⟨h1, h2, h3.same (hk _ (by omega) (by omega))⟩
theorem Cp2.kept {F : Nat → Int × Int} {c : Nat} {w w' : World} {g : Nat} (h : Cp2 F c w g) (hk : ∀ x, g ≤ x → x < g + c → w'.heap[x]? = w.heap[x]?) : Cp2 F c w' g := by
  obtain ⟨p, cs, hn, hc, hh⟩ := h
  refine ⟨p, cs, hn.same (hk g (Nat.le_refl _) (by omega)), hc, fun k hk8 => ?_⟩
  rcases hh k hk8 with h1 | ⟨h1, h2⟩
  · exact .inl h1
  · have := tot_lt cs hk8
    exact .inr ⟨h1, h2.kept (fun x h3 h4 => hk x (by omega) (by omega))⟩

/-- how many leaves stand below -/
def cnt2 (L2 : Nat → Option Nat) (k i : Nat) : Nat := if L2 (8 * k + i) = none then 0 else 1
def cnt1 (L1 L2 : Nat → Option Nat) (k : Nat) : Nat := if L1 k = none then 0 else 1 + tot (cnt2 L2 k) 8
/-- how many nodes a tree has -/
def nodes (L1 L2 : Nat → Option Nat) : Nat := 1 + tot (cnt1 L1 L2) 8

theorem tot_zero : ∀ n, tot (fun _ => 0) n = 0
  | 0 => rfl
  | n + 1 => by simp [tot, tot_zero n]

theorem copied_leaf (w : World) (g : Nat) (v : Nat → Int × Int) (h : NodeI w g (fun _ => none) v) :
    Calls Try.prog 67 #[.pointer (some ⟨g, 0, none⟩)] w fun e w' => e = .returned (.pointer (some ⟨w.heap.size, 0, none⟩)) ∧ Below w.heap.size w w' ∧ w'.heap.size = w.heap.size + 1 ∧ NodeI w' w.heap.size (fun _ => none) v := by
  refine (copied_node w g _ v h (fun _ => 0) (fun _ _ _ => True) (fun _ _ _ _ _ _ => trivial) (fun _ _ _ => rfl) (fun k g' _ hp => by cases hp)).mono ?_
  rintro e w' ⟨he, hb, hs, hn, _⟩
  refine ⟨he, hb, ?_, hn.congr (fun _ _ => rfl) (fun _ _ => rfl)⟩
  rw [hs, tot_zero]

theorem copied_mid (w : World) (g k : Nat) (L2 : Nat → Option Nat) (f : Nat → Int × Int) (h : NodeI w g (fun i => L2 (8 * k + i)) (fun _ => (0, 0)))
    (hl : ∀ i, i < 8 → ∀ g', L2 (8 * k + i) = some g' → NodeI w g' (fun _ => none) (fun x => f (8 * (8 * k + i) + x))) (hh : ∀ i, i < 8 → L2 (8 * k + i) = none → ∀ x, x < 8 → f (8 * (8 * k + i) + x) = (0, 0)) :
    Calls Try.prog 67 #[.pointer (some ⟨g, 0, none⟩)] w fun e w' => e = .returned (.pointer (some ⟨w.heap.size, 0, none⟩)) ∧ Below w.heap.size w w' ∧ w'.heap.size = w.heap.size + (1 + tot (cnt2 L2 k) 8) ∧
      Cp1 (fun i => f (64 * k + i)) (1 + tot (cnt2 L2 k) 8) w' w.heap.size := by
  refine (copied_node w g _ _ h (cnt2 L2 k) (fun i b W => L2 (8 * k + i) ≠ none → NodeI W b (fun _ => none) (fun x => f (8 * (8 * k + i) + x))) ?_ (fun i _ hp => by simp [cnt2, hp]) (fun i g' hi hp W hb => ?_)).mono ?_
  · intro i b W W' hr hk hp
    exact (hr hp).same (hk b (Nat.le_refl _) (by simp [cnt2, hp]))
  · refine (copied_leaf W g' _ ((hl i hi g' hp).chg (Chg.of_below (fun _ => False) hb) (fun h => h))).mono ?_
    rintro e W' ⟨he, hb', hs, hn⟩
    exact ⟨he, hb', by rw [hs]; simp [cnt2, hp], fun _ => hn⟩
  · rintro e w' ⟨he, hb, hs, hn, hr⟩
    refine ⟨he, hb, by rw [hs]; omega, _, cnt2 L2 k, hn, rfl, fun i hi => ?_⟩
    rcases hp : L2 (8 * k + i) with _ | g'
    · refine .inl ⟨by simp, by simp [cnt2, hp], fun x hx => ?_⟩
      have := hh i hi hp x hx
      rwa [show 8 * (8 * k + i) + x = 64 * k + (8 * i + x) by omega] at this
    · refine .inr ⟨by simp, by simp [cnt2, hp], ?_⟩
      have := hr i hi (by simp [hp]) (by simp [hp])
      refine this.congr (fun _ _ => rfl) (fun x _ => ?_)
      rw [show 8 * (8 * k + i) + x = 64 * k + (8 * i + x) by omega]

theorem copied_root (w : World) (r : Nat) (f : Nat → Int × Int) (lb : Nat → Nat) (g0 : Nat) (L1 L2 : Nat → Option Nat) (h : ShapeI w r f lb g0 L1 L2) :
    Calls Try.prog 67 #[.pointer (some ⟨g0, 0, none⟩)] w fun e w' => e = .returned (.pointer (some ⟨w.heap.size, 0, none⟩)) ∧ Below w.heap.size w w' ∧ w'.heap.size = w.heap.size + nodes L1 L2 ∧
      Cp2 f (nodes L1 L2) w' w.heap.size := by
  have hole1 : ∀ k, k < 8 → L1 k = none → ∀ i, i < 64 → f (64 * k + i) = (0, 0) := fun k hk hn i hi => by
    have h2 := h.par (8 * k + i / 8) (by omega) (by rw [show (8 * k + i / 8) / 8 = k by omega]; exact hn)
    have := h.hole _ (by omega) h2 (i % 8) (by omega)
    rwa [show 8 * (8 * k + i / 8) + i % 8 = 64 * k + i by omega] at this
  refine (copied_node w g0 _ _ h.root (cnt1 L1 L2) (fun k b W => L1 k ≠ none → Cp1 (fun i => f (64 * k + i)) (cnt1 L1 L2 k) W b) (fun k b W W' hr hk hp => (hr hp).kept hk) (fun k _ hp => by simp [cnt1, hp]) (fun k g' hk hp W hb => ?_)).mono ?_
  · have hs := h.chg (Chg.of_below (fun _ => False) hb) (fun _ _ h => h)
    refine (copied_mid W g' k L2 f (hs.mid k hk g' hp) (fun i hi g2 h2 => hs.leaf _ (by omega) g2 h2) (fun i hi hn => hs.hole _ (by omega) hn)).mono ?_
    rintro e W' ⟨he, hb', hz, hc⟩
    have e1 : cnt1 L1 L2 k = 1 + tot (cnt2 L2 k) 8 := by simp [cnt1, hp]
    rw [e1]
    exact ⟨he, hb', hz, fun _ => hc⟩
  · rintro e w' ⟨he, hb, hs, hn, hr⟩
    refine ⟨he, hb, by rw [hs]; unfold nodes; omega, _, cnt1 L1 L2, hn, rfl, fun k hk => ?_⟩
    rcases hp : L1 k with _ | g'
    · exact .inl ⟨by simp, by simp [cnt1, hp], hole1 k hk hp⟩
    · exact .inr ⟨by simp, hr k hk (by simp [hp]) (by simp [hp])⟩

end Go.Proofs.Ytfljnfmocmhhdaa.Spn
