/-
leaf that grows, and Set, of a tree of ints.
-/
import Derived.Test.YtfljnfmocmhhdaaWTree
namespace Go.Proofs.Ytfljnfmocmhhdaa
open Go.RowKit

/-- a node more, below place k of node g -/
def more (w : World) (g k : Nat) : World := (w.setCell ⟨g, k, none⟩ (.pointer (some ⟨w.heap.size, 0, none⟩))).alloc (.cells #[.pointer none, .pointer none, .pointer none, .pointer none, .pointer none, .pointer none, .pointer none, .pointer none, .int .i64 0, .int .i64 0, .int .i64 0, .int .i64 0, .int .i64 0, .int .i64 0, .int .i64 0, .int .i64 0] 102)
theorem more_eq (w : World) (g k : Nat) : (w.setCell ⟨g, k, none⟩ (.pointer (some ⟨w.heap.size, 0, none⟩))).alloc (.cells #[.pointer none, .pointer none, .pointer none, .pointer none, .pointer none, .pointer none, .pointer none, .pointer none, .int .i64 0, .int .i64 0, .int .i64 0, .int .i64 0, .int .i64 0, .int .i64 0, .int .i64 0, .int .i64 0] 102) = more w g k := rfl
theorem more_size (w : World) (g k : Nat) : (more w g k).heap.size = w.heap.size + 1 := by simp [more]
theorem more_new (w : World) (g k : Nat) : NodeI (more w g k) w.heap.size (fun _ => none) (fun _ => 0) := by
  have := heap_alloc_new (w.setCell ⟨g, k, none⟩ (.pointer (some ⟨w.heap.size, 0, none⟩))) (.cells (nodeI (fun _ => none) (fun _ => 0)) 102)
  rw [World.size_setCell] at this
  exact this
theorem more_chg (w : World) (g k : Nat) : Chg (fun b => b = g) w (more w g k) := ((Chg.refl (fun b => b = g) w).setCell (p := ⟨g, k, none⟩) (fun _ => rfl) _).alloc _
theorem more_at {w : World} {g : Nat} {p : Nat → Option Nat} {v : Nat → Int} (h : NodeI w g p v) (k : Nat) (hk : k < 8) : NodeI (more w g k) g (upd p k (some w.heap.size)) v :=
  (h.setptr k hk (some w.heap.size)).chg ((Chg.refl (fun _ => False) _).alloc _) (fun h => h)

set_option maxHeartbeats 1000000 in
theorem grow_both (w : World) (r g0 off : Nat) (p : Nat → Option Nat) (c0 : w.cell? ⟨r, 0, none⟩ = some (.pointer (some ⟨g0, 0, none⟩))) (hr : NodeI w g0 p (fun _ => 0)) (ho : off < 512) (hp : p (off / 64) = none) :
    Calls Try.prog 55 #[.pointer (some ⟨r, 0, none⟩), .int .i64 off, .bool true] w fun e w' => e = .returned (.pointer (some ⟨w.heap.size + 1, 0, none⟩)) ∧ w' = more (more w g0 (off / 64)) w.heap.size (off / 8 % 8) := by
  have c1 := hr.ptr (off / 64) (by omega)
  have f1 := hr.free (off / 64)
  have hlt := hr.lt
  have e1 : (off : Int) / 64 % 8 = ((off / 64 : Nat) : Int) := by omega
  have e2 : (off : Int) / 8 % 8 = ((off / 8 % 8 : Nat) : Int) := by omega
  have hk1 : off / 64 < 8 := by omega
  have hk2 : off / 8 % 8 < 8 := by omega
  rw [hp, opt_none] at c1
  generalize off / 64 = k1 at *
  generalize off / 8 % 8 = k2 at *
  have hm := more_new w g0 k1
  have c2 := hm.ptr k2 hk2
  have f2 := hm.free k2
  have hz := more_size w g0 k1
  rw [opt_none] at c2
  clear hp hr hm
  have H2 := Lib.hid c2
  have F2 := Lib.hid f2
  have Z2 := Lib.hid hz
  clear c2 f2 hz
  go_enter Try.func55, Try.ntmps55
  go_wp2_with fail
  refine wp_loop_rounds 3 ?_
  rw [rounds_succ]
  go_wp2_with fail
  rw [more_eq]
  obtain ⟨w1, hw1⟩ : ∃ w1, more w g0 k1 = w1 := ⟨_, rfl⟩
  rw [hw1] at H2 F2 Z2 ⊢
  have HW := Lib.hid hw1
  clear hw1
  have c2 := H2.out
  have f2 := F2.out
  have hlt2 : w.heap.size < w1.heap.size := by rw [Z2.out]; omega
  clear c1 f1 H2 F2 c0
  rw [rounds_succ]
  go_wp2_with fail
  rw [more_eq]
  rw [rounds_succ]
  go_wp2_with fail
  go_ret
  exact ⟨by rw [Z2.out]; rfl, by rw [HW.out]⟩

set_option maxHeartbeats 1000000 in
theorem grow_one (w : World) (r g0 g1 off : Nat) (p q : Nat → Option Nat) (c0 : w.cell? ⟨r, 0, none⟩ = some (.pointer (some ⟨g0, 0, none⟩))) (hr : NodeI w g0 p (fun _ => 0)) (h1 : NodeI w g1 q (fun _ => 0)) (ho : off < 512) (hp : p (off / 64) = some g1) (hq : q (off / 8 % 8) = none) :
    Calls Try.prog 55 #[.pointer (some ⟨r, 0, none⟩), .int .i64 off, .bool true] w fun e w' => e = .returned (.pointer (some ⟨w.heap.size, 0, none⟩)) ∧ w' = more w g1 (off / 8 % 8) := by
  have c1 := hr.ptr (off / 64) (by omega)
  have c2 := h1.ptr (off / 8 % 8) (by omega)
  have f2 := h1.free (off / 8 % 8)
  have hlt := h1.lt
  have e1 : (off : Int) / 64 % 8 = ((off / 64 : Nat) : Int) := by omega
  have e2 : (off : Int) / 8 % 8 = ((off / 8 % 8 : Nat) : Int) := by omega
  have hk1 : off / 64 < 8 := by omega
  have hk2 : off / 8 % 8 < 8 := by omega
  rw [hp, opt_some] at c1
  rw [hq, opt_none] at c2
  generalize off / 64 = k1 at *
  generalize off / 8 % 8 = k2 at *
  clear hp hr hq h1
  go_enter Try.func55, Try.ntmps55
  go_wp2_with fail
  refine wp_loop_rounds 3 ?_
  rw [rounds_succ]
  go_wp2_with fail
  rw [rounds_succ]
  go_wp2_with fail
  rw [more_eq]
  rw [rounds_succ]
  go_wp2_with fail
  go_ret
  exact ⟨rfl, rfl⟩

set_option maxHeartbeats 1000000 in
theorem grow_none (w : World) (r g0 g1 g2 off : Nat) (p q : Nat → Option Nat) (c0 : w.cell? ⟨r, 0, none⟩ = some (.pointer (some ⟨g0, 0, none⟩))) (hr : NodeI w g0 p (fun _ => 0)) (h1 : NodeI w g1 q (fun _ => 0)) (ho : off < 512) (hp : p (off / 64) = some g1) (hq : q (off / 8 % 8) = some g2) :
    Calls Try.prog 55 #[.pointer (some ⟨r, 0, none⟩), .int .i64 off, .bool true] w fun e w' => e = .returned (.pointer (some ⟨g2, 0, none⟩)) ∧ w' = w := by
  have c1 := hr.ptr (off / 64) (by omega)
  have c2 := h1.ptr (off / 8 % 8) (by omega)
  have e1 : (off : Int) / 64 % 8 = ((off / 64 : Nat) : Int) := by omega
  have e2 : (off : Int) / 8 % 8 = ((off / 8 % 8 : Nat) : Int) := by omega
  have hk1 : off / 64 < 8 := by omega
  have hk2 : off / 8 % 8 < 8 := by omega
  rw [hp, opt_some] at c1
  rw [hq, opt_some] at c2
  generalize off / 64 = k1 at *
  generalize off / 8 % 8 = k2 at *
  clear hp hr hq h1
  go_enter Try.func55, Try.ntmps55
  go_wp2_with fail
  refine wp_loop_rounds 3 ?_
  rw [rounds_succ]
  go_wp2_with fail
  rw [rounds_succ]
  go_wp2_with fail
  rw [rounds_succ]
  go_wp2_with fail
  go_ret
  exact ⟨rfl, rfl⟩

end Go.Proofs.Ytfljnfmocmhhdaa
