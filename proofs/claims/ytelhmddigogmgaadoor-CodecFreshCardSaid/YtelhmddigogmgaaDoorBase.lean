/-
Words that all walks of this seat share: a slice of whole numbers that is read, and the world that has only grown.
-/
import Derived.Test.YtelhmddigogmgaaDoorProg
import Derived.WalkKit
import Derived.ProofKit
import Derived.Outline
import Derived.Handy
import Derived.Lib.Hide
import Derived.Laws.BitsAllLaws
import Derived.Deep.QuietTactic
import Derived.BigQuiet
namespace Go.Proofs.YtelhmddigogmgaaDoor
open Go.RowKit

/-- the list's element, 0 behind its end -/
def nth (l : List Nat) (j : Nat) : Nat := l.getD j 0
theorem nth_get (l : List Nat) (j : Nat) (h : j < l.length) : nth l j = l[j] := by simp [nth, h]
theorem nth_lt {l : List Nat} {B : Nat} (h : ∀ x ∈ l, x < B) (hB : 0 < B) (j : Nat) : nth l j < B := by
  by_cases hj : j < l.length
  · rw [nth_get l j hj]; exact h _ (List.getElem_mem hj)
  · simp [nth, List.getElem?_eq_none (by omega : l.length ≤ j), hB]
theorem nth_drop (l : List Nat) (i j : Nat) : nth (l.drop i) j = nth l (i + j) := by simp [nth]
theorem nth_take (l : List Nat) (i j : Nat) (h : j < i) : nth (l.take i) j = nth l j := by simp [nth, h]
theorem take_succ_nth (l : List Nat) (k : Nat) (h : k < l.length) : l.take (k + 1) = l.take k ++ [nth l k] := by
  rw [List.take_succ_eq_append_getElem h, nth_get l k h]

theorem ret_int {k : IntKind} {a b : Int} (h : a = b) : Ending.returned (.int k a) = .returned (.int k b) := by rw [h]
theorem ret_bool {a b : Bool} (h : a = b) : Ending.returned (.bool a) = .returned (.bool b) := by rw [h]

/-- what a slice's value (address A, length n, capacity c) reads as -/
def Rd (w : World) (k : IntKind) (A : Option Addr) (n c : Nat) (l : List Nat) : Prop :=
  l.length = n ∧ n ≤ c ∧ c ≤ 9223372036854775807 ∧ n ≤ 140737488355328 ∧
    (c = 0 ∨ ∃ b off, A = some ⟨b, off, none⟩ ∧ ∀ j, j < n → w.cell? ⟨b, off + j, none⟩ = some (.int k (nth l j)))

theorem cell_below {w w' : World} {B : Nat} (hb : Below B w w') {a : Addr} {v : Value} (hB : w.heap.size ≤ B) (h : w.cell? a = some v) : w'.cell? a = some v :=
  (hb.cell (Nat.lt_of_lt_of_le (World.block_lt_of_cell? w a h) hB)).trans h

section
variable {w w' : World} {k : IntKind} {A : Option Addr} {n c : Nat} {l : List Nat}
theorem Rd.len (h : Rd w k A n c l) : l.length = n := h.1
theorem Rd.le (h : Rd w k A n c l) : n ≤ c := h.2.1
theorem Rd.cap (h : Rd w k A n c l) : c ≤ 9223372036854775807 := h.2.2.1
theorem Rd.lt (h : Rd w k A n c l) : n ≤ 140737488355328 := h.2.2.2.1
theorem Rd.at_ (h : Rd w k A n c l) (hp : 0 < n) : ∃ b off, A = some ⟨b, off, none⟩ ∧ ∀ j, j < n → w.cell? ⟨b, off + j, none⟩ = some (.int k (nth l j)) := by
  rcases h.2.2.2.2 with h0 | h1
  · have := h.le; omega
  · exact h1

theorem Rd.below (h : Rd w k A n c l) (hb : Below w.heap.size w w') : Rd w' k A n c l :=
  ⟨h.1, h.2.1, h.2.2.1, h.2.2.2.1, h.2.2.2.2.imp id fun ⟨b, off, e, hc⟩ => ⟨b, off, e, fun j hj => cell_below hb (Nat.le_refl _) (hc j hj)⟩⟩

theorem below_drewN {B : Nat} {a w : World} (h : Below B a w) (m : Nat) : Below B a (w.drewN m) := ⟨h.os, h.tape, h.output, h.size, h.block⟩
theorem Rd.drewN (h : Rd w k A n c l) (m : Nat) : Rd (w.drewN m) k A n c l := h.below (below_drewN (Below.refl _ _) m)
end
/-- a callee that leaves the world alone, met in a region that draws its order -/
theorem quietR {P : Program} {f : FuncId} {args : Array Value} {w : World} {n : Nat} {v : Value}
    (h : Calls P f args (w.drewN n) fun e w' => e = .returned v ∧ w.drewN n = w') : Calls P f args (w.drewN n) fun e w'' => e = .returned v ∧ ∃ m, w'' = w.drewN m :=
  h.mono fun _ _ ⟨he, hm⟩ => ⟨he, n, hm.symm⟩

/-- numbers as cells -/
def vals (k : IntKind) (l : List Nat) : List Value := l.map fun x : Nat => .int k x
def u8s (l : List Nat) : Array Value := (vals .u8 l).toArray
theorem vals_len (k : IntKind) (l : List Nat) : (vals k l).length = l.length := by simp [vals]
theorem u8s_size (l : List Nat) : (u8s l).size = l.length := by simp [u8s, vals]
theorem vals_get (k : IntKind) (l : List Nat) (j : Nat) (h : j < l.length) : (vals k l)[j]? = some (.int k (nth l j)) := by simp [vals, h, nth_get l j h]
theorem vals_append (k : IntKind) (a b : List Nat) : vals k (a ++ b) = vals k a ++ vals k b := by simp [vals]
/-- a block that holds numbers reads as they are -/
theorem Rd.block {w : World} {g : Nat} {k : IntKind} {cs : Array Value} {t : TypeId} {fr : Nat × Nat} {l : List Nat} (n c : Nat) (hg : w.heap[g]? = some (.cells cs t fr)) (hv : cs.toList.take n = vals k l) (hn : l.length = n) (hs : n ≤ c) (hc : c ≤ 9223372036854775807) (hl : n ≤ 140737488355328) :
    Rd w k (some ⟨g, 0, none⟩) n c l :=
  ⟨hn, hs, hc, hl, .inr ⟨g, 0, rfl, fun j hj => by
    have h1 : (cs.toList.take n)[j]? = some (.int k (nth l j)) := by rw [hv]; exact vals_get k l j (by omega)
    rw [List.getElem?_take, if_pos (by omega)] at h1
    simpa [World.cell?, hg] using h1⟩⟩
theorem Rd.new {w : World} {k : IntKind} {cs : Array Value} {t : TypeId} {l : List Nat} (n : Nat) (h : cs = (vals k l).toArray) (hn : l.length = n) (hl : n ≤ 140737488355328) :
    Rd (w.alloc (.cells cs t)) k (some ⟨w.heap.size, 0, none⟩) n n l := by
  subst h
  exact Rd.block n n (heap_alloc_new w _) (by subst hn; simp [← vals_len k l]) hn (Nat.le_refl _) (by omega) hl
/-- the first of what is read -/
theorem Rd.take {w : World} {k : IntKind} {A : Option Addr} {n c : Nat} {l : List Nat} (h : Rd w k A n c l) (m : Nat) (hm : m ≤ n) : Rd w k A m c (l.take m) :=
  ⟨by have := h.1; simp; omega, by have := h.le; omega, h.cap, by have := h.lt; omega, h.2.2.2.2.imp id fun ⟨b, off, e, hc⟩ =>
    ⟨b, off, e, fun j hj => by rw [nth_take l m j hj]; exact hc j (by omega)⟩⟩
/-- where s[lo:] begins -/
def adv (A : Option Addr) (c lo : Nat) : Option Addr := if c = lo then A else A.map (·.add lo)
/-- the rest of what is read -/
theorem Rd.drop {w : World} {k : IntKind} {A : Option Addr} {n c : Nat} {l : List Nat} (h : Rd w k A n c l) (m : Nat) (hm : m ≤ n) : Rd w k (adv A c m) (n - m) (c - m) (l.drop m) := by
  refine ⟨by have := h.1; simp; omega, by have := h.le; omega, by have := h.cap; omega, by have := h.lt; omega, ?_⟩
  unfold adv
  rcases h.2.2.2.2 with h0 | ⟨b, off, rfl, hc⟩
  · exact .inl (by omega)
  · by_cases hcm : c = m
    · rw [if_pos hcm]
      exact .inr ⟨b, off, rfl, fun j hj => by have := h.le; omega⟩
    · rw [if_neg hcm]
      refine .inr ⟨b, off + m, ?_, fun j hj => ?_⟩
      · simp only [Option.map_some, Addr.add]
        split
        · subst m; rfl
        · rfl
      · rw [nth_drop l m j, Nat.add_assoc]; exact hc (m + j) (by omega)
section
variable {P : Program} {t e : TypeId} {A : Option Addr} {n c : Nat}
theorem run_sliceTo (ht : P.underlying t = some (.slice e)) (hs : (P.info? e).map (·.size) = some 1) (hi : Nat) (h : hi ≤ c) :
    ∀ W : World, (Instr.slice t (.slice A n c) none (some (.int .i64 (hi : Int))) none).run P W = .ok (.slice A hi c) W := by
  intro W
  obtain ⟨i, h1, _⟩ := Option.map_eq_some_iff.1 hs
  have h0 : (0 : Int) ≤ hi ∧ (hi : Int) ≤ c := by omega
  simp [Instr.slice, Instr.sliceBounds, Instr.sliceBound, asIntOf, run_underlying ht, sizeOf, typeInfo, h1, h0, Result.andThen, h]
  cases A <;> simp [Addr.add]
theorem run_sliceBoth (ht : P.underlying t = some (.slice e)) (hs : (P.info? e).map (·.size) = some 1) (lo hi : Nat) (h1 : lo ≤ hi) (h2 : hi ≤ c) :
    ∀ W : World, (Instr.slice t (.slice A n c) (some (.int .i64 (lo : Int))) (some (.int .i64 (hi : Int))) none).run P W = .ok (.slice (adv A c lo) (hi - lo) (c - lo)) W := by
  intro W
  obtain ⟨i, h3, h4⟩ := Option.map_eq_some_iff.1 hs
  have h0 : (0 : Int) ≤ lo ∧ (lo : Int) ≤ hi := by omega
  have h5 : (0 : Int) ≤ hi ∧ (hi : Int) ≤ c := by omega
  simp [Instr.slice, Instr.sliceBounds, Instr.sliceBound, asIntOf, run_underlying ht, sizeOf, typeInfo, h3, h4, h0, h5, Result.andThen, h1, h2, adv]
theorem adv_some (b off c lo : Nat) (h : lo < c) : adv (some ⟨b, off, none⟩) c lo = some ⟨b, off + lo, none⟩ := by
  unfold adv
  rw [if_neg (by omega)]
  simp only [Option.map_some, Addr.add]
  split
  · subst lo; rfl
  · rfl
theorem run_sliceFrom (ht : P.underlying t = some (.slice e)) (hs : (P.info? e).map (·.size) = some 1) (lo : Nat) (h : lo ≤ n) :
    ∀ W : World, (Instr.slice t (.slice A n c) (some (.int .i64 (lo : Int))) none none).run P W = .ok (.slice (adv A c lo) (n - lo) (c - lo)) W := by
  intro W
  obtain ⟨i, h1, h2⟩ := Option.map_eq_some_iff.1 hs
  have h0 : (0 : Int) ≤ lo ∧ (lo : Int) ≤ n := by omega
  simp [Instr.slice, Instr.sliceBounds, Instr.sliceBound, asIntOf, run_underlying ht, sizeOf, typeInfo, h1, h2, h0, Result.andThen, h, adv]
end

theorem Rd.nil (w : World) (k : IntKind) : Rd w k none 0 0 [] := ⟨rfl, by omega, by omega, by simp, .inl rfl⟩

end Go.Proofs.YtelhmddigogmgaaDoor
