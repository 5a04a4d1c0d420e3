/-
What the statement CodecLinear computes: true.
-/
import Derived.Test.YtelhmddigogmgaaDoorLTells
namespace Go.Proofs.YtelhmddigogmgaaDoor
open Go.RowKit

/-- three lists joined, the first k of n; zeros behind -/
def joinK (a b c : List Nat) (n k : Nat) : List Nat := (List.range n).map fun j => if j < k then nth a j ^^^ nth b j ^^^ nth c j else 0
theorem joinK_zero (a b c : List Nat) (n : Nat) : u8s (joinK a b c n 0) = madeCells #[Value.int .u8 0] n := by
  apply Array.ext'
  rw [toList_madeCells_one]
  simp [u8s, vals, joinK, List.map_const']
theorem joinK_step (a b c : List Nat) (n k : Nat) : (u8s (joinK a b c n k)).setIfInBounds k (.int .u8 (nth a k ^^^ nth b k ^^^ nth c k : Nat)) = u8s (joinK a b c n (k + 1)) := by
  apply Array.ext'
  simp only [u8s, vals, joinK, Array.toList_setIfInBounds, List.map_map]
  apply List.ext_getElem (by simp)
  intro i h1 h2
  simp only [List.getElem_set, List.getElem_map, List.getElem_range, Function.comp]
  by_cases hik : k = i
  · subst hik; simp
  · rw [if_neg hik]
    by_cases h : i < k
    · rw [if_pos h, if_pos (by omega)]
    · rw [if_neg h, if_neg (by omega)]
theorem joinK_end (a b c : List Nat) (n : Nat) : joinK a b c n n = (List.range n).map fun j => nth a j ^^^ nth b j ^^^ nth c j := by
  apply List.map_congr_left
  intro j hj
  rw [if_pos (List.mem_range.1 hj)]
theorem xor8 (x y : Nat) (hx : x < 256) (hy : y < 256) : bits .xor .u8 (x : Int) (y : Int) = ((x ^^^ y : Nat) : Int) := u8_xor_nat x y hx hy

set_option maxHeartbeats 1000000 in
theorem CodecLinear.walk (W : World) (v0 : Value) (o0 : Nums W .u8 256 1 v0) (v1 : Value) (o1 : Nums W .u8 256 1 v1) (v2 : Value) (o2 : Nums W .u8 256 1 v2) (ht : Tab W) :
    Calls Tryd.prog 5 #[v0, v1, v2] W fun e w' => e = .returned (.bool true) ∧ Below W.heap.size W w' := by
  obtain ⟨A, n, c, l, rfl, hr, hx, _⟩ := o0
  obtain ⟨A1, n1, c1, l1, rfl, hr1, hx1, _⟩ := o1
  obtain ⟨A2, n2, c2, l2, rfl, hr2, hx2, _⟩ := o2
  have hn := hr.lt
  have H := Lib.hid (fixed_any W ht)
  have Ht0 := Lib.hid ht
  have Hr := Lib.hid hr
  have Hr1 := Lib.hid hr1
  have Hr2 := Lib.hid hr2
  clear ht hr hr1 hr2
  have hmk := run_make_row' (P := Tryd.prog) 23 5 (.int .u8 0) 1 Tryd.underlying23 info5 rfl .i64 .i64 n (by omega) (by omega)
  go_enter Tryd.func5, Tryd.ntmps5
  go_wp2_with fail
  refine H.out.mono ?_
  rintro e w1 ⟨rfl, hb⟩
  have HB := Lib.hid hb
  clear hb H
  go_wp2_with fail
  refine (pad_any l1 _ _ _ n _ (Hr1.out.below HB.out) (by omega)).mono ?_
  rintro e w2 ⟨v, rfl, g, rfl, hg0, hg, hb2⟩
  rw [padN_len]
  have hyb := padN_byte hx1 n
  have hyl := padN_len l1 n
  generalize padN l1 n = y at *
  have HG1 := Lib.hid (Rd.cells hg n hyl hn)
  have HB2 := Lib.hid (HB.out.trans (hb2.mono HB.out.size))
  clear hb2 hg hg0 HB
  go_wp2_with fail
  refine (pad_any l2 _ _ _ n _ (Hr2.out.below HB2.out) (by omega)).mono ?_
  rintro e w3 ⟨v, rfl, g2, rfl, hg0, hg, hb2⟩
  rw [padN_len]
  have hzb := padN_byte hx2 n
  have hzl := padN_len l2 n
  generalize padN l2 n = z at *
  have HG2 := Lib.hid (Rd.cells hg n hzl hn)
  have HG3 := Lib.hid (HG1.out.below hb2)
  have HB3 := Lib.hid (HB2.out.trans (hb2.mono HB2.out.size))
  clear hb2 hg hg0 HB2 HG1
  have hW3 := HB3.out.size
  go_wp2_with fail
  go_loopw [11] (fun v11 wr => ∃ k : Nat, k ≤ n ∧ v11 = .int .i64 k ∧ wr.heap[w3.heap.size]? = some (.cells (u8s (joinK l y z n k)) 5 (0, 0)) ∧ Below w3.heap.size w3 wr) (fun v11 _ => n - (intOf v11).toNat)
  case atStart => exact ⟨0, by omega, rfl, by rw [joinK_zero]; exact heap_alloc_new w3 _, (Below.refl _ _).alloc (Nat.le_refl _) _⟩
  case round =>
    obtain ⟨k, hk, rfl, hcur, hbel⟩ := hrel
    have Hcur := Lib.hid hcur
    have Hbel := Lib.hid hbel
    by_cases hkn : k < n
    · obtain ⟨b, off, rfl, hcc⟩ := (Hr.out.below (HB3.out.trans (hbel.mono hW3))).at_ (by omega)
      have hld := hcc k hkn
      obtain ⟨b1, off1, e1, hcc1⟩ := (HG3.out.below hbel).at_ (by omega)
      cases e1
      have hld1 := hcc1 k hkn
      obtain ⟨b2, off2, e2, hcc2⟩ := (HG2.out.below hbel).at_ (by omega)
      cases e2
      have hld2 := hcc2 k hkn
      rw [Nat.zero_add] at hld1 hld2
      have q1 := nth_lt hx (by omega) k
      have q2 := nth_lt hyb (by omega) k
      have q3 := nth_lt hzb (by omega) k
      have x1 := xor8 (nth l k) (nth y k) q1 q2
      have x2 := xor8 (nth l k ^^^ nth y k) (nth z k) (Nat.xor_lt_two_pow (n := 8) q1 q2) q3
      have hfr := frozen_of_row wr w3.heap.size k _ _ hcur
      have hst : wr.cell? ⟨w3.heap.size, k, none⟩ = some (.int .u8 0) := by
        rw [cell_of_row wr _ k _ _ _ hcur]
        simp [u8s, vals, joinK, hkn]
      clear hcc hcc1 hcc2 hcur hbel
      go_wp2_with fail
      go_region
      go_wp2_with fail
      go_roundw
      case rel => exact ⟨k + 1, by omega, by go_num, (heap_setCell_same wr _ _ _ _ _ Hcur.out).trans (by rw [joinK_step]), (Hbel.out.setCell (Nat.le_refl _) _).drew⟩
      case measure => simp [intOf]; omega
    · have hk2 : k = n := by omega
      subst hk2
      have hcur2 := Hcur.out
      rw [joinK_end] at hcur2
      have hlin := sum_linear l y z k Hr.out.len hyl hzl
      have hjb : ∀ x ∈ (List.range k).map (fun j => nth l j ^^^ nth y j ^^^ nth z j), x < 256 := by
        intro x hx2
        obtain ⟨j, _, rfl⟩ := List.mem_map.1 hx2
        exact Nat.xor_lt_two_pow (n := 8) (Nat.xor_lt_two_pow (n := 8) (nth_lt hx (by omega) j) (nth_lt hyb (by omega) j)) (nth_lt hzb (by omega) j)
      have hjl : ((List.range k).map (fun j => nth l j ^^^ nth y j ^^^ nth z j)).length = k := by simp
      generalize (List.range k).map (fun j => nth l j ^^^ nth y j ^^^ nth z j) = q at *
      have R0 := Lib.hid (Rd.cells hcur2 k hjl hn)
      have R1 := Lib.hid (Hr.out.below (HB3.out.trans (hbel.mono hW3)))
      have R2 := Lib.hid (HG3.out.below hbel)
      have R3 := Lib.hid (HG2.out.below hbel)
      have HB4 := Lib.hid (HB3.out.trans (hbel.mono hW3))
      have T4 := Lib.hid (Ht0.out.below HB4.out)
      have Hlin := Lib.hid hlin
      have y1 := sumOnN_lt 0 l (by omega) hx
      have y2 := sumOnN_lt 0 y (by omega) hyb
      have y3 := sumOnN_lt 0 z (by omega) hzb
      clear hcur hbel hcur2 Hcur Hbel hlin hyl hzl hjl
      go_wp2_with fail
      refine (sum_any q hjb _ _ _ _ R0.out T4.out).mono ?_
      rintro e w4 ⟨rfl, rfl⟩
      go_wp2_with fail
      refine (sum_any l hx _ _ _ _ R1.out T4.out).mono ?_
      rintro e w4 ⟨rfl, rfl⟩
      go_wp2_with fail
      refine (sum_any y hyb _ _ _ _ R2.out T4.out).mono ?_
      rintro e w4 ⟨rfl, rfl⟩
      have x1 : bits .xor .u32 (sumN l : Int) (sumN y : Int) = ((sumN l ^^^ sumN y : Nat) : Int) := u32_xor_nat _ _ y1 y2
      go_wp2_with fail
      refine (sum_any z hzb _ _ _ _ R3.out T4.out).mono ?_
      rintro e w4 ⟨rfl, rfl⟩
      have x2 : bits .xor .u32 ((sumN l ^^^ sumN y : Nat) : Int) (sumN z : Int) = ((sumN l ^^^ sumN y ^^^ sumN z : Nat) : Int) := u32_xor_nat _ _ (Nat.xor_lt_two_pow (n := 32) y1 y2) y3
      rw [Hlin.out]
      generalize sumN l ^^^ sumN y ^^^ sumN z = r at *
      go_wp2_with fail
      go_ret
      exact ⟨ret_bool (by simp), HB4.out⟩

end Go.Proofs.YtelhmddigogmgaaDoor
