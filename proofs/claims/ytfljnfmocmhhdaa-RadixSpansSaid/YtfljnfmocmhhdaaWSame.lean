/-
place, place3, sameInts, sameRuns.
-/
import Derived.Test.YtfljnfmocmhhdaaWRefCopy
import Derived.Deep.QuietTactic
namespace Go.Proofs.Ytfljnfmocmhhdaa
open Go.RowKit

def plc (x : Int) : Nat := (x % 3).toNat
theorem plc_lt (x : Int) : plc x < 3 := by unfold plc; omega
theorem tmod3 (x : Int) : x.tmod 3 = if x < 0 ∧ x % 3 ≠ 0 then x % 3 - 3 else x % 3 := by
  rcases Int.lt_or_le x 0 with h | h
  · have e := Int.neg_tmod (-x) 3
    rw [Int.neg_neg] at e
    rw [e, Int.tmod_eq_emod_of_nonneg (by omega)]
    split <;> omega
  · rw [Int.tmod_eq_emod_of_nonneg h]
    split <;> omega

theorem place_any (x : Int) (w : World) : Calls Try.prog 43 #[.int .i64 x] w fun e w' => e = .returned (.int .i64 (plc x : Nat)) ∧ w = w' := by
  have ht := tmod3 x
  have hp : ((plc x : Nat) : Int) = x % 3 := by unfold plc; omega
  by_cases h : x.tmod 3 < 0
  · have hy : x.tmod 3 + 3 = (plc x : Nat) := by rw [hp]; split at ht <;> omega
    have hr : -3 ≤ x.tmod 3 := by split at ht <;> omega
    rw [← hy]
    clear ht hp hy
    go_enter Try.func43, Try.ntmps43
    go_wp2_with fail
    go_ret
    exact ⟨rfl, rfl⟩
  · have hy : x.tmod 3 = (plc x : Nat) := by rw [hp]; split at ht <;> omega
    have hr : 0 ≤ x.tmod 3 := by omega
    rw [← hy]
    clear ht hp hy h
    go_enter Try.func43, Try.ntmps43
    go_wp2_with fail
    go_ret
    exact ⟨rfl, rfl⟩

/-- what a slice of ints reads as -/
def RdI (w : World) (A : Option Addr) (n c : Nat) (l : List Int) : Prop :=
  l.length = n ∧ n ≤ 140737488355328 ∧ n ≤ c ∧ (n = 0 ∨ ∃ b off, A = some ⟨b, off, none⟩ ∧ ∀ (j : Nat) (u : Int), l[j]? = some u → w.cell? ⟨b, off + j, none⟩ = some (.int .i64 u))
theorem RdI.below {w w' : World} {A : Option Addr} {n c : Nat} {l : List Int} (h : RdI w A n c l) (hb : Below w.heap.size w w') : RdI w' A n c l :=
  ⟨h.1, h.2.1, h.2.2.1, h.2.2.2.imp id fun ⟨b, off, e, hh⟩ => ⟨b, off, e, fun j u hj => by
    have := hh j u hj
    rw [← this]
    exact World.cell?_of_block (hb.block b (World.block_lt_of_cell? w _ this))⟩⟩
theorem RdI.own {w : World} {B : Nat} {v : Value} {l : List Int} (h : w.ownsRow B 3 1 v l.length (l.map fun x => .int .i64 x)) (hl : l.length ≤ 140737488355328) : ∃ A c, v = .slice A l.length c ∧ RdI w A l.length c l := by
  rcases h.2 with ⟨rfl, h0⟩ | ⟨g, cap, cur, rfl, hB, hg, h1, h2, h3, h4⟩
  · rw [h0]
    exact ⟨none, 0, rfl, ⟨h0, by omega, by omega, .inl rfl⟩⟩
  · refine ⟨_, cap, rfl, rfl, hl, h1, .inr ⟨g, 0, rfl, fun j u hj => ?_⟩⟩
    rw [Nat.zero_add, cell_of_row w _ _ _ _ _ hg]
    have hj' : (l.map fun x => Value.int .i64 x)[j]? = some (.int .i64 u) := by rw [List.getElem?_map, hj]; rfl
    rw [← h4, List.getElem?_take] at hj'
    split at hj'
    · simpa using hj'
    · cases hj'

set_option maxRecDepth 100000 in
set_option maxHeartbeats 1000000 in
theorem sameInts_yes (l : List Int) (A B : Option Addr) (n c d : Nat) (w : World) (ha : RdI w A n c l) (hb : RdI w B n d l) :
    Calls Try.prog 48 #[.slice A n c, .slice B n d] w fun e w' => e = .returned (.bool true) ∧ Below w.heap.size w w' := by
  obtain ⟨hl, hn, hc1, _⟩ := id ha
  have hd1 := hb.2.2.1
  have HA := Lib.hid ha
  have HB := Lib.hid hb
  clear ha hb
  go_enter Try.func48, Try.ntmps48
  go_wp2_with fail
  go_loopw [5] (fun v5 wr => ∃ k : Nat, k ≤ n ∧ v5 = .int .i64 k ∧ Hid (Below w.heap.size w wr)) (fun v5 _ => n - (intOf v5).toNat)
  case atStart => exact ⟨0, by omega, rfl, Below.refl _ _⟩
  case round =>
    obtain ⟨k, hk, rfl, HW⟩ := hrel
    by_cases hlt : k < n
    · obtain ⟨x, hx⟩ : ∃ x, l[k]? = some x := ⟨_, List.getElem?_eq_getElem (by omega)⟩
      obtain ⟨_, _, _, h0 | ⟨b1, o1, rfl, h1⟩⟩ := HA.out.below HW.out
      · omega
      obtain ⟨_, _, _, h0 | ⟨b2, o2, rfl, h2⟩⟩ := HB.out.below HW.out
      · omega
      have d1 := h1 k x hx
      have d2 := h2 k x hx
      clear h1 h2 hx
      go_wp2_with fail
      go_quiet (fail)
      have HE : Hid (Below w.heap.size w (wr.drewN nq)) := HW.out.trans ⟨rfl, rfl, rfl, Nat.le_refl _, fun _ _ => rfl⟩
      clear HW
      go_wp2_with fail
      go_roundw
      case rel => exact ⟨k + 1, by omega, by go_num, HE⟩
      case measure => simp [intOf]; omega
    · obtain rfl : n = k := by omega
      go_wp2_with fail
      go_ret
      exact ⟨rfl, HW.out⟩

set_option maxRecDepth 100000 in
set_option maxHeartbeats 1000000 in
theorem sameRuns_yes (l : List Run) (A B : Option Addr) (n c d : Nat) (w : World) (ha : RdR w A n c l) (hb : RdR w B n d l) :
    Calls Try.prog 40 #[.slice A n c, .slice B n d] w fun e w' => e = .returned (.bool true) ∧ Below w.heap.size w w' := by
  obtain ⟨hl, hc1, _, hn, _⟩ := id ha
  have hd1 := hb.2.1
  have HA := Lib.hid ha
  have HB := Lib.hid hb
  clear ha hb
  go_enter Try.func40, Try.ntmps40
  go_wp2_with fail
  go_loopw [5] (fun v5 wr => ∃ k : Nat, k ≤ n ∧ v5 = .int .i64 k ∧ Hid (Below w.heap.size w wr)) (fun v5 _ => n - (intOf v5).toNat)
  case atStart => exact ⟨0, by omega, rfl, Below.refl _ _⟩
  case round =>
    obtain ⟨k, hk, rfl, HW⟩ := hrel
    by_cases hlt : k < n
    · obtain ⟨x, hx⟩ : ∃ x, l[k]? = some x := ⟨_, List.getElem?_eq_getElem (by omega)⟩
      obtain ⟨b1, o1, rfl, h1⟩ := (HA.out.below HW.out).at_ (by omega)
      obtain ⟨b2, o2, rfl, h2⟩ := (HB.out.below HW.out).at_ (by omega)
      obtain ⟨d1, d2, d3⟩ := h1 k x hx
      obtain ⟨f1, f2, f3⟩ := h2 k x hx
      clear h1 h2 hx
      go_wp2_with fail
      go_quiet (fail)
      have HE : Hid (Below w.heap.size w (wr.drewN nq)) := HW.out.trans ⟨rfl, rfl, rfl, Nat.le_refl _, fun _ _ => rfl⟩
      clear HW
      go_wp2_with fail
      go_roundw
      case rel => exact ⟨k + 1, by omega, by go_num, HE⟩
      case measure => simp [intOf]; omega
    · obtain rfl : n = k := by omega
      go_wp2_with fail
      go_ret
      exact ⟨rfl, HW.out⟩

end Go.Proofs.Ytfljnfmocmhhdaa
