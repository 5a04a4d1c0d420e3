/-
What the document's Bytes and Words compute: the same as the program's.
-/
import Derived.Test.YtelhmddigogmgaaDoorWRefNum
namespace Go.Proofs.YtelhmddigogmgaaDoor
open Go.RowKit

set_option maxHeartbeats 2000000 in
theorem refBytes_any (l : List Nat) (hl : ∀ y ∈ l, y < 18446744073709551616) (A : Option Addr) (n c : Nat) (w : World) (hr : Rd w .u64 A n c l) (hn8 : n * 8 ≤ 140737488355328) :
    Calls Tryd.prog 57 #[.slice A n c] w fun e w' => ∃ v, e = .returned v ∧ w'.ownsRow w.heap.size 5 1 v (8 * n) (vals .u8 (bytesN l)) ∧ Below w.heap.size w w' := by
  have hn := hr.lt
  have hln := hr.len
  have Hr := Lib.hid hr
  have Hl := Lib.hid hl
  clear hr hl
  go_enter Tryd.func57, Tryd.ntmps57
  go_wp2_with fail
  go_loopw [3, 4] (fun v3 v4 wr => ∃ k : Nat, k ≤ n ∧ v4 = .int .i64 k ∧ Hid (wr.ownsRow w.heap.size 5 1 v3 (8 * k) (vals .u8 (bytesN (l.take k)))) ∧ Hid (Below w.heap.size w wr)) (fun _ v4 _ => n - (intOf v4).toNat)
  case atStart => exact ⟨0, by omega, rfl, World.ownsRow_nil _ _ _ _, Below.refl _ _⟩
  case round =>
    obtain ⟨k, hk, rfl, Hown, Hbel⟩ := hrel
    by_cases hlt : k < n
    · obtain ⟨b, off, rfl, hcc⟩ := (Hr.out.below Hbel.out).at_ (by omega)
      have hld := hcc k hlt
      have hx := nth_lt Hl.out (by omega) k
      have h3 : Hid (l.take (k + 1) = l.take k ++ [nth l k]) := take_succ_nth l k (by omega)
      generalize nth l k = x at *
      have HL := Lib.hid (refLay_any w _ (8 * k) (bytesN (l.take k)) x 8 (by omega) (by omega) hx wr Hown.out Hbel.out)
      clear hcc
      go_wp2_with fail
      refine HL.out.mono ?_
      rintro e w2 ⟨v2, rfl, ho2, hb2⟩
      have hown3 : w2.ownsRow w.heap.size 5 1 v2 (8 * (k + 1)) (vals .u8 (bytesN (l.take (k + 1)))) := by
        rw [h3.out, bytesN_snoc]; exact ho2
      have H2 := Lib.hid hb2
      have H3 := Lib.hid hown3
      clear hown3 ho2 hb2 HL
      go_wp2_with fail
      go_roundw
      case rel => exact ⟨k + 1, by omega, by go_num, H3, H2⟩
      case measure => simp [intOf]; omega
    · obtain rfl : k = n := by omega
      have h4 : Hid (l.take k = l) := List.take_of_length_le (by omega)
      go_wp2_with fail
      go_ret
      exact ⟨_, rfl, by rw [← h4.out]; exact Hown.out, Hbel.out⟩

set_option maxHeartbeats 1000000 in
theorem refWords_no (A : Option Addr) (n c : Nat) (w : World) (hn : n ≤ 140737488355328) (h : n % 8 ≠ 0) :
    Calls Tryd.prog 58 #[.slice A n c] w fun e w' => e = .returned (.tuple #[.slice none 0 0, .int .i64 20]) ∧ w = w' := by
  have h1 : (((n : Int) % 8) != 0) = true := by simp; omega
  clear h
  go_enter Tryd.func58, Tryd.ntmps58
  go_wp2_with fail
  go_ret2
  exact ⟨rfl, rfl⟩

set_option maxHeartbeats 2000000 in
theorem refWords_yes (l : List Nat) (hl : ∀ x ∈ l, x < 256) (A : Option Addr) (n c q : Nat) (w : World) (hr : Rd w .u8 A n c l) (hq : n = 8 * q) :
    Calls Tryd.prog 58 #[.slice A n c] w fun e w' => ∃ v, e = .returned (.tuple #[v, .int .i64 0]) ∧ w'.ownsRow w.heap.size 37 1 v q (vals .u64 (wordsN l q)) ∧ Below w.heap.size w w' := by
  have hn := hr.lt
  have h1 : (((n : Int) % 8) != 0) = false := by simp; omega
  have hq1 : 8 * q ≤ n := by omega
  have hq2 : n ≤ 8 * q := by omega
  have Hr := Lib.hid hr
  obtain ⟨i0, hi, hz0, hz1, hz2⟩ := info_parts info37
  clear hr hq
  go_enter Tryd.func58, Tryd.ntmps58
  go_wp2_with fail
  go_loopw [4, 5] (fun v4 v5 wr => ∃ k : Nat, k ≤ q ∧ v5 = .int .i64 (8 * (k : Int)) ∧ wr.ownsRow w.heap.size 37 1 v4 k (vals .u64 (wordsN l k)) ∧ Below w.heap.size w wr) (fun _ v5 _ => 8 * q - (intOf v5).toNat)
  case atStart => exact ⟨0, by omega, rfl, World.ownsRow_nil _ _ _ _, Below.refl _ _⟩
  case round =>
    obtain ⟨k, hk, rfl, hown, hbel⟩ := hrel
    have Hown := Lib.hid hown
    have Hbel := Lib.hid hbel
    clear hown hbel
    by_cases hlt : k < q
    · have hw := number_any l hl A n c (8 * k) 8 (by omega) (by omega) wr (Hr.out.below Hbel.out) (by omega)
      rw [show ((8 * k : Nat) : Int) = 8 * (k : Int) from by simp, show ((8 : Nat) : Int) = 8 from rfl] at hw
      have Hw := Lib.hid hw
      clear hw
      go_wp2_with fail
      refine Hw.out.mono ?_
      rintro e w2 ⟨rfl, rfl⟩
      have hs := Hbel.out.size
      go_wp2_with (at_builtin; refine wpList_append_own _ rfl _ _ 48 rfl w.heap.size 37 i0 (.int .u64 0) 1 8 Tryd.underlying48 hi hz0 hz1 hz2 rfl (by decide) _ k _ rfl (Hown.out.alloc _) ⟨wr.heap.size, 0, none⟩ 1 1 [.int .u64 (numAt l (8 * k) 8 : Nat)] rfl rfl (World.news_of_block (cs := #[.int .u64 (numAt l (8 * k) 8 : Nat)]) (t := 37) (fr := (0, 0)) (heap_alloc_new wr _)) (by simp [Value.oneCell']) (by simp only [maxLen]; omega) (by omega) (by simp; omega) ?_; intro v2 w2 hown2 hg2 _)
      have hb2 : Below w.heap.size w w2 := (Hbel.out.alloc hs _).grown hg2 (by simp; omega) (fun b hb => (Hown.out.lt b hb).1)
      have hown3 : w2.ownsRow w.heap.size 37 1 v2 (k + 1) (vals .u64 (wordsN l (k + 1))) := by
        rw [wordsN_succ, vals_append]; exact hown2
      have H2 := Lib.hid hb2
      have H3 := Lib.hid hown3
      clear hb2 hown3 hown2 hg2
      go_wp2_with fail
      go_roundw
      case rel => exact ⟨k + 1, by omega, by go_num, H3.out, H2.out⟩
      case measure => simp [intOf]; omega
    · obtain rfl : k = q := by omega
      go_wp2_with fail
      go_ret2
      exact ⟨_, rfl, Hown.out, Hbel.out⟩

end Go.Proofs.YtelhmddigogmgaaDoor
