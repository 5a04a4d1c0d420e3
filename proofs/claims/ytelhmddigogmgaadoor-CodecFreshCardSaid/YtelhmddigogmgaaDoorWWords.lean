/-
What Words of package codec computes.
-/
import Derived.Test.YtelhmddigogmgaaDoorWNum
import Derived.Test.YtelhmddigogmgaaDoorWFix
import Derived.Deep.AppendLies
namespace Go.Proofs.YtelhmddigogmgaaDoor
open Go.RowKit

theorem info37 : (Tryd.prog.info? 37).map (fun i => (i.zero, i.size, i.bytes)) = some (some (.int .u64 0), 1, 8) := by kernel_rfl
/-- the first q words of bytes -/
def wordsN (l : List Nat) (q : Nat) : List Nat := (List.range q).map fun i => numAt l (8 * i) 8
theorem wordsN_succ (l : List Nat) (q : Nat) : wordsN l (q + 1) = wordsN l q ++ [numAt l (8 * q) 8] := by simp [wordsN, List.range_succ]
theorem wordsN_len (l : List Nat) (q : Nat) : (wordsN l q).length = q := by simp [wordsN]

set_option maxHeartbeats 1000000 in
theorem words_no (A : Option Addr) (n c : Nat) (w : World) (hn : n ≤ 140737488355328) (h : n % 8 ≠ 0) :
    Calls Tryd.prog 33 #[.slice A n c] w fun e w' => e = .returned (.tuple #[.slice none 0 0, .int .i64 20]) ∧ w = w' := by
  have h1 : (((n : Int) % 8) != 0) = true := by simp; omega
  clear h
  go_enter Tryd.func33, Tryd.ntmps33
  go_wp2_with fail
  go_ret2
  exact ⟨rfl, rfl⟩

set_option maxHeartbeats 1000000 in
theorem words_yes (l : List Nat) (hl : ∀ x ∈ l, x < 256) (A : Option Addr) (n c q : Nat) (w : World) (hr : Rd w .u8 A n c l) (hq : n = 8 * q) :
    Calls Tryd.prog 33 #[.slice A n c] w fun e w' => ∃ v, e = .returned (.tuple #[v, .int .i64 0]) ∧ w'.ownsRow w.heap.size 37 1 v q (vals .u64 (wordsN l q)) ∧ Below w.heap.size w w' := by
  have hn := hr.lt
  have h1 : (((n : Int) % 8) != 0) = false := by simp; omega
  have h2 : (n : Int) / 8 = (q : Int) := by omega
  have hq1 : 8 * q ≤ n := by omega
  have hq2 : n ≤ 8 * q := by omega
  have Hr := Lib.hid hr
  obtain ⟨i0, hi, hz0, hz1, hz2⟩ := info_parts info37
  clear hr hq
  go_enter Tryd.func33, Tryd.ntmps33
  go_wp2_with (refine wpList_make_own _ rfl _ _ 48 rfl w.heap.size 37 i0 (.int .u64 0) 1 Tryd.underlying48 hi hz0 hz1 .i64 .i64 _ q rfl rfl rfl (by rw [hz2]; omega) (by simp only [maxLen]; omega) (Nat.le_refl _) ?_; intro w1 hown hg)
  have hb1 : Below w.heap.size w w1 := (Below.refl _ _).grown hg (Nat.le_refl _) (fun k e => by cases e)
  have HB1 := Lib.hid hb1
  have HO := Lib.hid hown
  clear hown hg hb1
  go_loopw [4, 5] (fun v4 v5 wr => ∃ k : Nat, k ≤ q ∧ v5 = .int .i64 (8 * (k : Int)) ∧ wr.ownsRow w.heap.size 37 1 v4 k (vals .u64 (wordsN l k)) ∧ Below w.heap.size w wr) (fun _ v5 _ => 8 * q - (intOf v5).toNat)
  case atStart => exact ⟨0, by omega, rfl, HO.out, HB1.out⟩
  case round =>
    obtain ⟨k, hk, rfl, hown, hbel⟩ := hrel
    have Hown := Lib.hid hown
    have Hbel := Lib.hid hbel
    clear hown hbel
    by_cases hlt : k < q
    · have hw := word_yes l hl A n c (8 * k) wr (Hr.out.below Hbel.out) (by omega)
      rw [show ((8 * k : Nat) : Int) = 8 * (k : Int) from by simp] at hw
      have Hw := Lib.hid hw
      clear hw
      go_wp2_with fail
      refine Hw.out.mono ?_
      rintro e w2 ⟨rfl, rfl⟩
      have hs := Hbel.out.size
      go_wp2_with (at_builtin; refine wpList_append_own _ rfl _ _ 48 rfl w.heap.size 37 i0 (.int .u64 0) 1 8 Tryd.underlying48 hi hz0 hz1 hz2 rfl (by decide) _ k _ rfl (Hown.out.alloc _) ⟨wr.heap.size, 0, none⟩ 1 1 [.int .u64 (numAt l (8 * k) 8 : Nat)] rfl rfl (World.news_of_block (cs := #[.int .u64 (numAt l (8 * k) 8 : Nat)]) (t := 37) (fr := (0, 0)) (heap_alloc_new wr _)) (by simp [Value.oneCell']) (by simp only [maxLen]; omega) (by omega) (by simp; omega) ?_; intro v2 w2 hown2 hg2 _)
      have hb2 : Below w.heap.size w w2 := (Hbel.out.alloc hs _).grown hg2 (by simp; omega) (fun b hb => (Hown.out.lt b hb).1)
      have hown3 : w2.ownsRow w.heap.size 37 1 v2 (k + 1) (vals .u64 (wordsN l (k + 1))) := by
        rw [wordsN_succ, vals_append]; exact hown2
      have H2 := Lib.hid hb2
      have H3 := Lib.hid hown3
      clear hb2 hown3 hown2 hg2
      go_wp2_with fail
      go_roundw
      case rel => exact ⟨k + 1, by omega, by go_num, H3.out, H2.out⟩
      case measure => simp [intOf]; omega
    · obtain rfl : k = q := by omega
      go_wp2_with fail
      go_ret2
      exact ⟨_, rfl, Hown.out, Hbel.out⟩

end Go.Proofs.YtelhmddigogmgaaDoor
