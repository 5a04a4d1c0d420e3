/-
What pad, place and turn of the statements compute.
-/
import Derived.Test.YtelhmddigogmgaaDoorWFix
import Derived.Deep.OwnRows
namespace Go.Proofs.YtelhmddigogmgaaDoor
open Go.RowKit

/-- n bytes of l, the first k of them; zeros behind -/
def padK (l : List Nat) (n k : Nat) : List Nat := (List.range n).map fun j => if j < k then nth l j else 0
def padN (l : List Nat) (n : Nat) : List Nat := (List.range n).map fun j => nth l j
theorem padK_len (l : List Nat) (n k : Nat) : (padK l n k).length = n := by simp [padK]
theorem padN_len (l : List Nat) (n : Nat) : (padN l n).length = n := by simp [padN]
theorem padK_zero (l : List Nat) (n : Nat) : u8s (padK l n 0) = madeCells #[Value.int .u8 0] n := by
  apply Array.ext'
  rw [toList_madeCells_one]
  simp [u8s, vals, padK, List.map_const']
theorem padK_step (l : List Nat) (n k : Nat) (_ : k < n) : (u8s (padK l n k)).setIfInBounds k (.int .u8 (nth l k : Nat)) = u8s (padK l n (k + 1)) := by
  apply Array.ext'
  simp only [u8s, vals, padK, Array.toList_setIfInBounds, List.map_map]
  apply List.ext_getElem (by simp)
  intro i h1 h2
  simp only [List.getElem_set, List.getElem_map, List.getElem_range, Function.comp]
  by_cases hik : k = i
  · subst hik; simp
  · rw [if_neg hik]
    by_cases h : i < k
    · rw [if_pos h, if_pos (by omega)]
    · rw [if_neg h, if_neg (by omega)]
theorem padK_end (l : List Nat) (n k : Nat) (h : k = n ∨ l.length ≤ k) : padK l n k = padN l n := by
  apply List.map_congr_left
  intro j hj
  have hj := List.mem_range.1 hj
  by_cases hjk : j < k
  · rw [if_pos hjk]
  · rw [if_neg hjk]
    rcases h with rfl | h
    · exact absurd hj hjk
    · simp [nth, List.getElem?_eq_none (by omega : l.length ≤ j)]
theorem padN_byte {l : List Nat} (h : ∀ x ∈ l, x < 256) (n : Nat) : ∀ x ∈ padN l n, x < 256 := by
  intro x hx
  obtain ⟨j, _, rfl⟩ := List.mem_map.1 hx
  exact nth_lt h (by omega) j

/-- a new row of bytes of the call's own -/
def NewBytes (B : Nat) (w w' : World) (v : Value) (l : List Nat) : Prop :=
  ∃ g, v = .slice (some ⟨g, 0, none⟩) l.length l.length ∧ B ≤ g ∧ w'.heap[g]? = some (.cells (u8s l) 5 (0, 0)) ∧ Below B w w'

set_option maxHeartbeats 1000000 in
theorem pad_any (l : List Nat) (A : Option Addr) (m c : Nat) (n : Nat) (w : World) (hr : Rd w .u8 A m c l) (hn : n ≤ 140737488355328) :
    Calls Tryd.prog 24 #[.slice A m c, .int .i64 n] w fun e w' => ∃ v, e = .returned v ∧ NewBytes w.heap.size w w' v (padN l n) := by
  have hm := hr.lt
  have hc := hr.le
  have Hr := Lib.hid hr
  clear hr
  have hmk := run_make_row' (P := Tryd.prog) 23 5 (.int .u8 0) 1 Tryd.underlying23 info5 rfl .i64 .i64 n (by omega) (by omega)
  go_enter Tryd.func24, Tryd.ntmps24
  go_wp2_with fail
  go_loopw [6] (fun v6 wr => ∃ k : Nat, k ≤ n ∧ v6 = .int .i64 k ∧ k ≤ m ∧ wr.heap[w.heap.size]? = some (.cells (u8s (padK l n k)) 5 (0, 0)) ∧ Below w.heap.size w wr) (fun v6 _ => n - (intOf v6).toNat)
  case atStart => exact ⟨0, by omega, rfl, by omega, by rw [padK_zero]; exact heap_alloc_new w _, (Below.refl _ _).alloc (Nat.le_refl _) _⟩
  case round =>
    obtain ⟨k, hk, rfl, hkm, hcur, hbel⟩ := hrel
    have Hcur := Lib.hid hcur
    have Hbel := Lib.hid hbel
    by_cases hkn : k < n
    · by_cases hlt : k < m
      · obtain ⟨b, off, rfl, hcc⟩ := (Hr.out.below hbel).at_ (by omega)
        have hld := hcc k hlt
        have hfr := frozen_of_row wr w.heap.size k _ _ hcur
        have hst : wr.cell? ⟨w.heap.size, k, none⟩ = some (.int .u8 0) := by
          rw [cell_of_row wr _ k _ _ _ hcur]
          simp [u8s, vals, padK, hkn]
        clear hcc hcur hbel
        go_wp2
        go_roundw
        case rel => exact ⟨k + 1, by omega, by go_num, by omega, by rw [heap_setCell_same _ _ _ _ _ _ Hcur.out, padK_step l n k hkn], Hbel.out.setCell (Nat.le_refl _) _⟩
        case measure => simp [intOf]; omega
      · clear hcur hbel
        go_wp2
        go_ret
        exact ⟨_, rfl, w.heap.size, by rw [padN_len]; rfl, Nat.le_refl _, by rw [← padK_end l n k (.inr (by rw [Hr.out.len]; omega))]; exact Hcur.out, Hbel.out⟩
    · clear hcur hbel
      go_wp2
      go_ret
      exact ⟨_, rfl, w.heap.size, by rw [padN_len]; rfl, Nat.le_refl _, by rw [← padK_end l n k (.inl (by omega))]; exact Hcur.out, Hbel.out⟩

theorem emod_tmod (a n : Int) (hn : 0 < n) : a % n = if a.tmod n < 0 then a.tmod n + n else a.tmod n := by
  have h1 := Int.tmod_add_mul_tdiv a n
  have h2 : -n < a.tmod n ∧ a.tmod n < n := by
    constructor
    · have := Int.lt_tmod_of_pos a hn; omega
    · exact Int.tmod_lt_of_pos a hn
  have h3 : a % n = a.tmod n % n := by
    conv => lhs; rw [← h1]
    rw [Int.add_mul_emod_self_left]
  rw [h3]
  split
  · rw [show a.tmod n = (a.tmod n + n) + n * (-1) from by omega, Int.add_mul_emod_self_left]
    exact Int.emod_eq_of_lt (by omega) (by omega) |>.trans (by omega)
  · exact Int.emod_eq_of_lt (by omega) (by omega)

/-- at a place modulo n -/
def placeN (at_ : Int) (n : Nat) : Nat := if n = 0 then 0 else (at_ % (n : Int)).toNat
theorem placeN_le (at_ : Int) (n : Nat) : placeN at_ n ≤ n := by
  unfold placeN
  split
  · omega
  · have := Int.emod_lt_of_pos at_ (by omega : (0 : Int) < n)
    omega

set_option maxHeartbeats 400000 in
theorem place_any (at_ : Int) (n : Nat) (w : World) (hn : n ≤ 9223372036854775807) :
    Calls Tryd.prog 26 #[.int .i64 at_, .int .i64 n] w fun e w' => e = .returned (.int .i64 (placeN at_ n : Nat)) ∧ w = w' := by
  by_cases h0 : n = 0
  · subst h0
    go_enter Tryd.func26, Tryd.ntmps26
    go_wp2
    go_ret
    exact ⟨rfl, rfl⟩
  · have hn0 : 0 < n := by omega
    have h4 := Int.emod_nonneg at_ (by omega : (n : Int) ≠ 0)
    have HP : Hid (((placeN at_ n : Nat) : Int) = if at_.tmod n < 0 then at_.tmod n + n else at_.tmod n) := by
      unfold Hid placeN
      rw [if_neg h0, Int.toNat_of_nonneg h4]
      exact emod_tmod at_ n (by omega)
    have hz : ((n : Int) == 0) = false := by simp; omega
    have h2 : -(n : Int) < at_.tmod n ∧ at_.tmod n < n := by
      constructor
      · have := Int.lt_tmod_of_pos at_ (by omega : (0 : Int) < n); omega
      · exact Int.tmod_lt_of_pos at_ (by omega)
    obtain ⟨h5, h6⟩ := h2
    clear h0 h4
    generalize hq : at_.tmod (n : Int) = q at *
    by_cases hr : q < 0
    · rw [if_pos hr] at HP
      go_enter Tryd.func26, Tryd.ntmps26
      go_wp2
      go_ret
      exact ⟨ret_int (by rw [HP.out]), rfl⟩
    · rw [if_neg hr] at HP
      go_enter Tryd.func26, Tryd.ntmps26
      go_wp2
      go_ret
      exact ⟨ret_int (by rw [HP.out]), rfl⟩

end Go.Proofs.YtelhmddigogmgaaDoor
