/-
What the statement CodecSpoilt computes: true.
-/
import Derived.Test.YtelhmddigogmgaaDoorLClosed
namespace Go.Proofs.YtelhmddigogmgaaDoor
open Go.RowKit Go.Extern.Stop

/-- the first k of a, the rest of o -/
def mixK (a o : List Nat) (k : Nat) : List Nat := (List.range 64).map fun j => if j < k then nth a j else nth o j
theorem mixK_zero (a o : List Nat) (ho : o.length = 64) : mixK a o 0 = o := by
  have := range_nth o
  rw [ho] at this
  rw [← this]
  apply List.map_congr_left
  intro j _
  rw [this]
  simp
theorem mixK_end (a o : List Nat) (ha : a.length = 64) : mixK a o 64 = a := by
  have := range_nth a
  rw [ha] at this
  rw [← this]
  apply List.map_congr_left
  intro j hj
  rw [this, if_pos (List.mem_range.1 hj)]
theorem mixK_step (a o : List Nat) (k : Nat) : (u8s (mixK a o k)).setIfInBounds k (.int .u8 (nth a k : Nat)) = u8s (mixK a o (k + 1)) := by
  apply Array.ext'
  simp only [u8s, vals, mixK, Array.toList_setIfInBounds, List.map_map]
  apply List.ext_getElem (by simp)
  intro i h1 h2
  simp only [List.getElem_set, List.getElem_map, List.getElem_range, Function.comp]
  by_cases hik : k = i
  · subst hik; simp
  · rw [if_neg hik]
    by_cases h : i < k
    · rw [if_pos h, if_pos (by omega)]
    · rw [if_neg h, if_neg (by omega)]
theorem mixK_len (a o : List Nat) (k : Nat) : (mixK a o k).length = 64 := by simp [mixK]
theorem zeros_len : (List.replicate 64 0 : List Nat).length = 64 := by simp

set_option maxRecDepth 100000 in
set_option maxHeartbeats 4000000 in
theorem CodecSpoilt.at_ (l : List Nat) (hn : l.length = 64) (hl : ∀ x ∈ l, x < 256) (at_ : Int) (m : Nat) (hm : m < 4294967296) (w : World) (ht : Tab w) :
    Calls Tryd.prog 8 #[.agg (u8s l), .int .i64 at_, .int .u32 m] w fun e w' => e = .returned (.bool true) ∧ Below w.heap.size w w' := by
  have HC := Lib.hid (fun (W : World) (hW : Tab W) => close_any l hn hl W hW)
  have hcb := closeN_byte hl
  have hcn := closeN_len l hn
  have HW := Lib.hid (fun (W : World) (hW : Tab W) => whole_any (closeN l) hcn hcb W hW)
  rw [whole_close l hn] at HW
  have hp := placeN_le at_ 512
  have HSp := Lib.hid (spoilt hn hl (placeN at_ 512) m hp)
  have HB := Lib.hid (turn_back hcb (placeN at_ 512) m)
  have HP := Lib.hid (fun (W : World) => place_any at_ 512 W (by omega))
  generalize closeN l = c at *
  generalize placeN at_ 512 = p at *
  have hu := Tryd.underlying33
  have hi : (Tryd.prog.info? 33).map (·.size) = some (vals .u8 l).length := by rw [vals_len, hn]; exact size33
  have hk := Keeps.first w l 33
  have Ht := Lib.hid ht
  clear ht
  go_enter Tryd.func8, Tryd.ntmps8
  go_wp2_with (refine wpList_load_mid rfl 33 (.tmp 3) rfl w.heap.size 0 rfl (vals .u8 l) _ hk.1 hu rfl hi ?_)
  refine (HC.out _ (Ht.out.below hk.2.1)).mono ?_
  rintro e w1 ⟨rfl, hb⟩
  have hB1 := (hk.2.1.trans (hb.mono hk.2.1.size))
  have hB2 : Below w.heap.size w (w1.alloc (.cells (u8s c) 33)) := hB1.alloc hB1.size _
  have hcs : (u8s c).size = 64 := by rw [u8s_size]; exact hcn
  have hone : (u8s c).all (·.oneCell') = true := all_oneCell_toArray (fun v hv => by simp only [vals, List.mem_map] at hv; obtain ⟨x, _, rfl⟩ := hv; rfl)
  have hst := run_storeCells_new (P := Tryd.prog) w1 33 (u8s (List.replicate 64 0)) (u8s c) (by rw [hcs]; exact size33) (by rw [hcs, u8s_size]; simp) hone
  rw [zero64] at hst
  have hg7 := heap_alloc_new w1 (.cells (u8s c) 33)
  have hsz1 : (Tryd.prog.info? 33).map (·.size) = some (u8s c).size := by rw [hcs]; exact size33
  have HB2 := Lib.hid hB2
  clear hk hb hone hB1 hB2
  go_wp2_with (first | (refine wpList_load_row rfl 33 (.tmp 7) rfl w1.heap.size rfl 33 (u8s c) (0, 0) _ hg7 hu rfl hsz1 ?_))
  generalize w1.alloc (.cells (u8s c) 33) = w2 at *
  clear hst hcs
  refine (HW.out _ (Ht.out.below HB2.out)).mono ?_
  rintro e w3 ⟨rfl, hb⟩
  have hg73 : w3.heap[w1.heap.size]? = some (.cells (u8s c) 33 (0, 0)) := (hb.block _ (Array.getElem?_eq_some_iff.1 hg7).1).trans hg7
  have HB3 := Lib.hid (HB2.out.trans (hb.mono HB2.out.size))
  have HR := Lib.hid (Rd.block (k := .u8) (l := c) 64 64 hg73 (by rw [← hcn, ← vals_len .u8 c, u8s]; simp) hcn (Nat.le_refl _) (by omega) (by omega))
  clear hb hg7 HB2 hg73
  go_wp2_with fail
  refine (pad_any c _ 64 64 64 w3 HR.out (by omega)).mono ?_
  rintro e w4 ⟨v, rfl, gb, rfl, hg0, hg, hb⟩
  have hpl : padN c 64 = c := by rw [← hcn]; exact range_nth c
  rw [hpl] at hg
  rw [hpl, hcn]
  have HB4 := Lib.hid (HB3.out.trans (hb.mono HB3.out.size))
  have HG := Lib.hid hg
  have HG0 := Lib.hid hg0
  clear hb hg hg0 hpl
  go_wp2_with fail
  refine (HP.out _).mono ?_
  rintro e w5 ⟨rfl, rfl⟩
  go_wp2_with fail
  refine (turn_any c hcb gb 64 hcn (by omega) p m hp hm _ HG.out).mono ?_
  rintro e w5 ⟨rfl, hg5, hb5⟩
  have hgW : w.heap.size ≤ gb := Nat.le_trans HB3.out.size HG0.out
  have HB5 := Lib.hid (HB4.out.grown hb5 HB4.out.size (fun k e => by cases e; exact hgW))
  have hxb := turnK_byte hcb p m 32
  have hxl : (turnK c p m 32).1.length = 64 := by rw [turnK_len]; exact hcn
  generalize (turnK c p m 32).1 = x at *
  generalize (turnK c p m 32).2 = b at *
  have HG5 := Lib.hid hg5
  clear hb5 hg5 HG HB4
  cases b with
  | false =>
    go_wp2_with fail
    go_ret
    exact ⟨rfl, HB5.out⟩
  | true =>
    go_wp2_with fail
    rw [← zero64]
    have HX := Lib.hid (HSp.out trivial)
    have hgs : gb < w5.heap.size := (Array.getElem?_eq_some_iff.1 HG5.out).1
    go_loopw [11] (fun v11 wr => ∃ k : Nat, k ≤ 64 ∧ v11 = .int .i64 k ∧ wr.heap[w5.heap.size]? = some (.cells (u8s (mixK x (List.replicate 64 0) k)) 33 (0, 0)) ∧ Below w5.heap.size w5 wr) (fun v11 _ => 64 - (intOf v11).toNat)
    case atStart => exact ⟨0, by omega, rfl, by rw [mixK_zero _ _ zeros_len]; exact heap_alloc_new w5 _, (Below.refl _ _).alloc (Nat.le_refl _) _⟩
    case round =>
      obtain ⟨k, hk, rfl, hcur, hbel⟩ := hrel
      have Hcur := Lib.hid hcur
      have Hbel := Lib.hid hbel
      by_cases hlt : k < 64
      · have hgb := (hbel.block gb hgs).trans HG5.out
        have hld := rangeAt_cell (l := x) (g := gb) (fun j v hv => by rw [cell_of_row wr _ _ _ _ _ hgb, Nat.zero_add]; simpa [u8s] using hv) k (by omega)
        have hfr := frozen_of_row wr w5.heap.size k _ _ hcur
        have hst : wr.cell? ⟨w5.heap.size, k, none⟩ = some (.int .u8 (nth (mixK x (List.replicate 64 0) k) k : Nat)) := by
          rw [cell_of_row wr _ k _ _ _ hcur]
          exact u8s_get _ k (by rw [mixK_len]; exact hlt)
        clear hcur hbel hgb
        go_wp2_with fail
        go_roundw
        case rel => exact ⟨k + 1, by omega, by go_num, by rw [heap_setCell_same _ _ _ _ _ _ Hcur.out, mixK_step], Hbel.out.setCell (Nat.le_refl _) _⟩
        case measure => simp [intOf]; omega
      · have hk2 : k = 64 := by omega
        rw [hk2, mixK_end x _ hxl] at hcur
        have hsz2 : (Tryd.prog.info? 33).map (·.size) = some (u8s x).size := by rw [u8s_size, hxl]; exact size33
        have hgb := (hbel.block gb hgs).trans HG5.out
        have HB6 := Lib.hid (HB5.out.trans (hbel.mono HB5.out.size))
        have hw5 := HB5.out.size
        clear hbel Hcur Hbel hk2
        go_wp2_with (first | (refine wpList_load_row rfl 33 (.tmp 10) rfl w5.heap.size rfl 33 (u8s x) (0, 0) _ hcur hu rfl hsz2 ?_))
        refine (whole_any x hxl hxb _ (Ht.out.below HB6.out)).mono ?_
        rintro e w6 ⟨rfl, hb⟩
        rw [HX.out]
        have hcur6 := (hb.block _ (Array.getElem?_eq_some_iff.1 hcur).1).trans hcur
        have hgb6 := (hb.block _ (Array.getElem?_eq_some_iff.1 hgb).1).trans hgb
        have HB7 := Lib.hid (HB6.out.trans (hb.mono HB6.out.size))
        clear hb hcur hgb HB6
        go_wp2_with fail
        refine (HP.out _).mono ?_
        rintro e w7 ⟨rfl, rfl⟩
        go_wp2_with fail
        refine (turn_any x hxb gb 64 hxl (by omega) p m hp hm _ hgb6).mono ?_
        rintro e w7 ⟨rfl, hg7, hb7⟩
        rw [HB.out] at hg7
        generalize (turnK x p m 32).2 = b2
        have hcur7 := (hb7.block _ (Array.getElem?_eq_some_iff.1 hcur6).1 (by simp; omega)).trans hcur6
        have HB8 := Lib.hid (HB7.out.grown hb7 HB7.out.size (fun k e => by cases e; exact hgW))
        have hne : gb ≠ w5.heap.size := by omega
        have HG7 := Lib.hid hg7
        have HC7 := Lib.hid hcur7
        have h7 : w.heap.size ≤ w5.heap.size := by omega
        clear hb7 hcur6 hgb6 HB7 hg7 hcur7 hsz2
        go_wp2_with fail
        go_loopw [12] (fun v12 wr => ∃ k : Nat, k ≤ 64 ∧ v12 = .int .i64 k ∧ wr.heap[w5.heap.size]? = some (.cells (u8s (mixK c x k)) 33 (0, 0)) ∧ wr.heap[gb]? = some (.cells (u8s c) 5 (0, 0)) ∧ Below w.heap.size w wr) (fun v12 _ => 64 - (intOf v12).toNat)
        case atStart => exact ⟨0, by omega, rfl, by rw [mixK_zero _ _ hxl]; exact HC7.out, HG7.out, HB8.out⟩
        case round =>
          obtain ⟨k, hk, rfl, hcur, hgb, hbel⟩ := hrel
          have Hcur := Lib.hid hcur
          have Hbel := Lib.hid hbel
          have Hgb := Lib.hid hgb
          by_cases hlt : k < 64
          · have hld := rangeAt_cell (l := c) (g := gb) (fun j v hv => by rw [cell_of_row wr _ _ _ _ _ hgb, Nat.zero_add]; simpa [u8s] using hv) k (by omega)
            have hfr := frozen_of_row wr w5.heap.size k _ _ hcur
            have hst : wr.cell? ⟨w5.heap.size, k, none⟩ = some (.int .u8 (nth (mixK c x k) k : Nat)) := by
              rw [cell_of_row wr _ k _ _ _ hcur]
              exact u8s_get _ k (by rw [mixK_len]; exact hlt)
            clear hcur hbel hgb
            go_wp2_with fail
            go_roundw
            case rel => exact ⟨k + 1, by omega, by go_num, by rw [heap_setCell_same _ _ _ _ _ _ Hcur.out, mixK_step], by rw [heap_setCell_other _ _ _ _ hne]; exact Hgb.out, Hbel.out.setCell h7 _⟩
            case measure => simp [intOf]; omega
          · have hk2 : k = 64 := by omega
            rw [hk2, mixK_end c _ hcn] at hcur
            clear hbel Hcur hk2 hgb Hgb
            go_wp2_with (first | (refine wpList_load_row rfl 33 (.tmp 10) rfl w5.heap.size rfl 33 (u8s c) (0, 0) _ hcur hu rfl hsz1 ?_))
            refine (HW.out _ (Ht.out.below Hbel.out)).mono ?_
            rintro e w9 ⟨rfl, hb⟩
            have HB9 := Lib.hid (Hbel.out.trans (hb.mono Hbel.out.size))
            clear hb hcur
            go_wp2_with fail
            go_ret
            exact ⟨rfl, HB9.out⟩

theorem CodecSpoilt.walk (W : World) (v0 : Value) (o0 : Line v0) (a : Int) (_ : (Lit.int .i64 a).wf = true) (m : Int) (wm : (Lit.int .u32 m).wf = true) (ht : Tab W) :
    Calls Tryd.prog 8 #[v0, .int .i64 a, .int .u32 m] W fun e w' => e = .returned (.bool true) ∧ Below W.heap.size W w' := by
  obtain ⟨l, rfl, hn, hl⟩ := o0
  obtain ⟨m0, m1⟩ := bounds_u32 wm
  obtain ⟨m, rfl⟩ := Int.eq_ofNat_of_zero_le m0
  exact CodecSpoilt.at_ l hn hl a m (by omega) W ht

end Go.Proofs.YtelhmddigogmgaaDoor
