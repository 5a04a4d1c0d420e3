/-
What the two lists of names compute, and the statement WholeNames: true.
-/
import Derived.Test.YtdgankpignpcdaaDoorWSum
import Derived.KernelRfl
import Derived.Great.Walk
namespace Go.Proofs.YtdgankpignpcdaaDoor
open Go.RowKit

/-- each number twice, as cells -/
def twice : List Int → List Value
  | [] => []
  | x :: l => .int .i64 x :: .int .i64 x :: twice l
theorem twice_get : ∀ (l : List Int) (i : Nat), i < l.length → ∃ x : Int, (twice l)[2 * i]? = some (.int .i64 x) ∧ (twice l)[2 * i + 1]? = some (.int .i64 x)
  | [], i, h => by simp at h
  | x :: l, 0, _ => ⟨x, rfl, rfl⟩
  | x :: l, i + 1, h => by
    obtain ⟨y, h1, h2⟩ := twice_get l i (by simpa using h)
    exact ⟨y, by rw [show 2 * (i + 1) = 2 * i + 1 + 1 by omega]; simpa [twice] using h1, by rw [show 2 * (i + 1) + 1 = 2 * i + 1 + 1 + 1 by omega]; simpa [twice] using h2⟩


/-- pairs of equal numbers lie in the block -/
def Pairs (w : World) (g n : Nat) : Prop := ∀ i, i < n → ∃ x : Int, w.cell? ⟨g, i * 2, none⟩ = some (.int .i64 x) ∧ w.cell? ⟨g, i * 2 + 1, none⟩ = some (.int .i64 x)
theorem Pairs.drewN {w : World} {g n : Nat} (h : Pairs w g n) (m : Nat) : Pairs (w.drewN m) g n := fun i hi => by
  obtain ⟨x, h1, h2⟩ := h i hi
  exact ⟨x, cell_below (below_drewN (Below.refl _ _) m) (Nat.le_refl _) h1, cell_below (below_drewN (Below.refl _ _) m) (Nat.le_refl _) h2⟩


def sizesL : List Int := [8, 64, 512, 7, 24, 1024, 8, 256, 8, 8, 128, 512, 1024, 1024, 2048, 28, 200, 512, 262144, 16, 100, 8, 249, 64, 20000, 2000, 4, 8192, 4611686018427387904, 4096, 1, 0, 1, 2, 3, 1, 2, 3, 4, 1, 2, 3, 4, 5, 6, 7, 8, 9, 10, 11, 12, 13, 14, 15, 16, 17, 18, 19, 20, 21]
def sizesC : Array Value := (twice sizesL).toArray
theorem sizesC_eq : (List.toArray (.int .i64 8 :: .int .i64 8 :: .int .i64 64 :: .int .i64 64 :: .int .i64 512 :: .int .i64 512 :: .int .i64 7 :: .int .i64 7 :: .int .i64 24 :: .int .i64 24 :: .int .i64 1024 :: .int .i64 1024 :: .int .i64 8 :: .int .i64 8 :: .int .i64 256 :: .int .i64 256 :: .int .i64 8 :: .int .i64 8 :: .int .i64 8 :: .int .i64 8 :: .int .i64 128 :: .int .i64 128 :: .int .i64 512 :: .int .i64 512 :: .int .i64 1024 :: .int .i64 1024 :: .int .i64 1024 :: .int .i64 1024 :: .int .i64 2048 :: .int .i64 2048 :: .int .i64 28 :: .int .i64 28 :: .int .i64 200 :: .int .i64 200 :: .int .i64 512 :: .int .i64 512 :: .int .i64 262144 :: .int .i64 262144 :: .int .i64 16 :: .int .i64 16 :: .int .i64 100 :: .int .i64 100 :: .int .i64 8 :: .int .i64 8 :: .int .i64 249 :: .int .i64 249 :: .int .i64 64 :: .int .i64 64 :: .int .i64 20000 :: .int .i64 20000 :: .int .i64 2000 :: .int .i64 2000 :: .int .i64 4 :: .int .i64 4 :: .int .i64 8192 :: .int .i64 8192 :: .int .i64 4611686018427387904 :: .int .i64 4611686018427387904 :: .int .i64 4096 :: .int .i64 4096 :: .int .i64 1 :: .int .i64 1 :: .int .i64 0 :: .int .i64 0 :: .int .i64 1 :: .int .i64 1 :: .int .i64 2 :: .int .i64 2 :: .int .i64 3 :: .int .i64 3 :: .int .i64 1 :: .int .i64 1 :: .int .i64 2 :: .int .i64 2 :: .int .i64 3 :: .int .i64 3 :: .int .i64 4 :: .int .i64 4 :: .int .i64 1 :: .int .i64 1 :: .int .i64 2 :: .int .i64 2 :: .int .i64 3 :: .int .i64 3 :: .int .i64 4 :: .int .i64 4 :: .int .i64 5 :: .int .i64 5 :: .int .i64 6 :: .int .i64 6 :: .int .i64 7 :: .int .i64 7 :: .int .i64 8 :: .int .i64 8 :: .int .i64 9 :: .int .i64 9 :: .int .i64 10 :: .int .i64 10 :: .int .i64 11 :: .int .i64 11 :: .int .i64 12 :: .int .i64 12 :: .int .i64 13 :: .int .i64 13 :: .int .i64 14 :: .int .i64 14 :: .int .i64 15 :: .int .i64 15 :: .int .i64 16 :: .int .i64 16 :: .int .i64 17 :: .int .i64 17 :: .int .i64 18 :: .int .i64 18 :: .int .i64 19 :: .int .i64 19 :: .int .i64 20 :: .int .i64 20 :: .int .i64 21 :: .int .i64 21 :: []) : Array Value) = sizesC := by kernel_rfl
theorem sizes_pairs (w : World) : Pairs (w.alloc (.cells sizesC 27)) w.heap.size 60 := by
  intro i h
  obtain ⟨x, h1, h2⟩ := twice_get sizesL i h
  refine ⟨x, ?_, ?_⟩
  · unfold World.cell?; rw [heap_alloc_new, Nat.mul_comm i 2]; simpa [sizesC] using h1
  · unfold World.cell?; rw [heap_alloc_new, Nat.mul_comm i 2]; simpa [sizesC] using h2

set_option maxHeartbeats 4000000 in
set_option maxRecDepth 100000 in
theorem sizes_any (w : World) : Calls Tryd.prog 5 #[] w fun e w' => e = .returned (.bool true) ∧ Below w.heap.size w w' := by
  go_enter Tryd.func5, Tryd.ntmps5
  go_wp2_with (refine Go.Great.wpList_buildSliceTo rfl 28 27 60 _ rfl w.heap.size rfl _ rfl Tryd.underlying28 sizesC ?hf ?_)
  case hf => kernel_rfl
  have hb : Below w.heap.size w (w.alloc (.cells sizesC 27)) := (Below.refl _ _).alloc (Nat.le_refl _) _
  have hcell := sizes_pairs w
  go_loopw [2] (fun v2 wr => ∃ k : Nat, k ≤ 60 ∧ v2 = .int .i64 k ∧ Hid (Pairs wr w.heap.size 60) ∧ Hid (Below w.heap.size w wr)) (fun v2 _ => 60 - (intOf v2).toNat)
  case atStart => exact ⟨0, by omega, rfl, hcell, hb⟩
  case round =>
    obtain ⟨i, hk, rfl, HP, HB⟩ := hrel
    clear hb hcell
    by_cases hlt : i < 60
    · obtain ⟨x, h1, h2⟩ := HP.out i hlt
      have hb1 : (x != x) = false := by simp
      go_wp2_with fail
      go_quiet (fail)
      go_wp2_with fail
      go_roundw
      case rel => exact ⟨i + 1, by omega, by go_num, HP.out.drewN _, below_drewN HB.out _⟩
      case measure => simp [intOf]; omega
    · have hge : 60 ≤ i := by omega
      go_wp2_with fail
      go_ret
      exact ⟨rfl, HB.out⟩


def errorsL : List Int := [0, 10, 11, 12, 13, 14, 20, 21, 30, 31, 32, 33, 34, 35, 36, 40, 41, 50, 51, 52, 60, 61, 70, 80, 81, 82, 83, 90, 110, 111, 112, 113, 114, 120, 121, 130, 131, 132, 140, 141, 142, 143, 144, 145, 150, 151, 152, 153, 160, 161, 162, 163, 164, 170, 171, 172, 173, 174, 190, 191, 192, 193, 194, 210, 211, 230, 231, 200, 201, 202, 203]
def errorsC : Array Value := (twice errorsL).toArray
theorem errorsC_eq : (List.toArray (.int .i64 0 :: .int .i64 0 :: .int .i64 10 :: .int .i64 10 :: .int .i64 11 :: .int .i64 11 :: .int .i64 12 :: .int .i64 12 :: .int .i64 13 :: .int .i64 13 :: .int .i64 14 :: .int .i64 14 :: .int .i64 20 :: .int .i64 20 :: .int .i64 21 :: .int .i64 21 :: .int .i64 30 :: .int .i64 30 :: .int .i64 31 :: .int .i64 31 :: .int .i64 32 :: .int .i64 32 :: .int .i64 33 :: .int .i64 33 :: .int .i64 34 :: .int .i64 34 :: .int .i64 35 :: .int .i64 35 :: .int .i64 36 :: .int .i64 36 :: .int .i64 40 :: .int .i64 40 :: .int .i64 41 :: .int .i64 41 :: .int .i64 50 :: .int .i64 50 :: .int .i64 51 :: .int .i64 51 :: .int .i64 52 :: .int .i64 52 :: .int .i64 60 :: .int .i64 60 :: .int .i64 61 :: .int .i64 61 :: .int .i64 70 :: .int .i64 70 :: .int .i64 80 :: .int .i64 80 :: .int .i64 81 :: .int .i64 81 :: .int .i64 82 :: .int .i64 82 :: .int .i64 83 :: .int .i64 83 :: .int .i64 90 :: .int .i64 90 :: .int .i64 110 :: .int .i64 110 :: .int .i64 111 :: .int .i64 111 :: .int .i64 112 :: .int .i64 112 :: .int .i64 113 :: .int .i64 113 :: .int .i64 114 :: .int .i64 114 :: .int .i64 120 :: .int .i64 120 :: .int .i64 121 :: .int .i64 121 :: .int .i64 130 :: .int .i64 130 :: .int .i64 131 :: .int .i64 131 :: .int .i64 132 :: .int .i64 132 :: .int .i64 140 :: .int .i64 140 :: .int .i64 141 :: .int .i64 141 :: .int .i64 142 :: .int .i64 142 :: .int .i64 143 :: .int .i64 143 :: .int .i64 144 :: .int .i64 144 :: .int .i64 145 :: .int .i64 145 :: .int .i64 150 :: .int .i64 150 :: .int .i64 151 :: .int .i64 151 :: .int .i64 152 :: .int .i64 152 :: .int .i64 153 :: .int .i64 153 :: .int .i64 160 :: .int .i64 160 :: .int .i64 161 :: .int .i64 161 :: .int .i64 162 :: .int .i64 162 :: .int .i64 163 :: .int .i64 163 :: .int .i64 164 :: .int .i64 164 :: .int .i64 170 :: .int .i64 170 :: .int .i64 171 :: .int .i64 171 :: .int .i64 172 :: .int .i64 172 :: .int .i64 173 :: .int .i64 173 :: .int .i64 174 :: .int .i64 174 :: .int .i64 190 :: .int .i64 190 :: .int .i64 191 :: .int .i64 191 :: .int .i64 192 :: .int .i64 192 :: .int .i64 193 :: .int .i64 193 :: .int .i64 194 :: .int .i64 194 :: .int .i64 210 :: .int .i64 210 :: .int .i64 211 :: .int .i64 211 :: .int .i64 230 :: .int .i64 230 :: .int .i64 231 :: .int .i64 231 :: .int .i64 200 :: .int .i64 200 :: .int .i64 201 :: .int .i64 201 :: .int .i64 202 :: .int .i64 202 :: .int .i64 203 :: .int .i64 203 :: []) : Array Value) = errorsC := by kernel_rfl
theorem errors_pairs (w : World) : Pairs (w.alloc (.cells errorsC 27)) w.heap.size 71 := by
  intro i h
  obtain ⟨x, h1, h2⟩ := twice_get errorsL i h
  refine ⟨x, ?_, ?_⟩
  · unfold World.cell?; rw [heap_alloc_new, Nat.mul_comm i 2]; simpa [errorsC] using h1
  · unfold World.cell?; rw [heap_alloc_new, Nat.mul_comm i 2]; simpa [errorsC] using h2

set_option maxHeartbeats 4000000 in
set_option maxRecDepth 100000 in
theorem errors_any (w : World) : Calls Tryd.prog 6 #[] w fun e w' => e = .returned (.bool true) ∧ Below w.heap.size w w' := by
  go_enter Tryd.func6, Tryd.ntmps6
  go_wp2_with (refine Go.Great.wpList_buildSliceTo rfl 28 27 71 _ rfl w.heap.size rfl _ rfl Tryd.underlying28 errorsC ?hf ?_)
  case hf => kernel_rfl
  have hb : Below w.heap.size w (w.alloc (.cells errorsC 27)) := (Below.refl _ _).alloc (Nat.le_refl _) _
  have hcell := errors_pairs w
  go_loopw [2] (fun v2 wr => ∃ k : Nat, k ≤ 71 ∧ v2 = .int .i64 k ∧ Hid (Pairs wr w.heap.size 71) ∧ Hid (Below w.heap.size w wr)) (fun v2 _ => 71 - (intOf v2).toNat)
  case atStart => exact ⟨0, by omega, rfl, hcell, hb⟩
  case round =>
    obtain ⟨i, hk, rfl, HP, HB⟩ := hrel
    clear hb hcell
    by_cases hlt : i < 71
    · obtain ⟨x, h1, h2⟩ := HP.out i hlt
      have hb1 : (x != x) = false := by simp
      go_wp2_with fail
      go_quiet (fail)
      go_wp2_with fail
      go_roundw
      case rel => exact ⟨i + 1, by omega, by go_num, HP.out.drewN _, below_drewN HB.out _⟩
      case measure => simp [intOf]; omega
    · have hge : 71 ≤ i := by omega
      go_wp2_with fail
      go_ret
      exact ⟨rfl, HB.out⟩


end Go.Proofs.YtdgankpignpcdaaDoor
