/-
What Bytes computes: the words' bytes in a row of the call's own.
-/
import Derived.Test.YtelhmddigogmgaaDoorWOp
namespace Go.Proofs.YtelhmddigogmgaaDoor
open Go.RowKit

/-- the words' bytes -/
def bytesN (l : List Nat) : List Nat := l.flatMap (le 8)
theorem bytesN_len (l : List Nat) : (bytesN l).length = 8 * l.length := by
  unfold bytesN
  induction l with
  | nil => rfl
  | cons x l ih => simp [le_len, ih]; omega
theorem bytesN_byte (l : List Nat) : ∀ y ∈ bytesN l, y < 256 := by
  intro y hy
  obtain ⟨x, _, h⟩ := List.mem_flatMap.1 hy
  exact le_byte 8 x y h
theorem bytesN_snoc (l : List Nat) (x : Nat) : bytesN (l ++ [x]) = bytesN l ++ le 8 x := by simp [bytesN]

theorem own_under {W W' : World} {b e s n : Nat} {v : Value} {xs : List Value} (h : W.ownsRow b e s v n xs) (hb : Below W.heap.size W W') : W'.ownsRow b e s v n xs :=
  ⟨h.1, h.2.imp id fun ⟨g, cap, cur, hv, hg0, hg, r⟩ => ⟨g, cap, cur, hv, hg0, heap_below hb hg, r⟩⟩

set_option maxHeartbeats 2000000 in
theorem bytes_any (l : List Nat) (hl : ∀ y ∈ l, y < 18446744073709551616) (A : Option Addr) (n c : Nat) (w : World) (hr : Rd w .u64 A n c l) (hn8 : n * 8 ≤ 140737488355328) :
    Calls Tryd.prog 36 #[.slice A n c] w fun e w' => ∃ v, e = .returned v ∧ w'.ownsRow w.heap.size 5 1 v (8 * n) (vals .u8 (bytesN l)) ∧ Below w.heap.size w w' := by
  have hn := hr.lt
  have hln := hr.len
  obtain ⟨N, hN⟩ : ∃ N, N = 8 * n := ⟨_, rfl⟩
  have h2 : (8 : Int) * (n : Int) = (N : Int) := by omega
  have Hr := Lib.hid hr
  have HN := Lib.hid hN
  have hNb : N ≤ 140737488355328 := by omega
  obtain ⟨i0, hi, hz0, hz1, hz2⟩ := info_parts info5
  clear hr hN
  go_enter Tryd.func36, Tryd.ntmps36
  go_wp2_with (refine wpList_make_own _ rfl _ _ 23 rfl w.heap.size 5 i0 (.int .u8 0) 1 Tryd.underlying23 hi hz0 hz1 .i64 .i64 _ N rfl rfl rfl (by rw [hz2]; omega) (by simp only [maxLen]; omega) (Nat.le_refl _) ?_; intro w1 hown hg)
  have hb1 : Below w.heap.size w w1 := (Below.refl _ _).grown hg (Nat.le_refl _) (fun k e => by cases e)
  have HB1 := Lib.hid hb1
  have HO := Lib.hid hown
  clear hown hg hb1 h2
  go_loopw [3, 5, 6, 13] (fun v3 _ _ v13 wr => ∃ k : Nat, k ≤ n ∧ v13 = .int .i64 k ∧ Hid (wr.ownsRow w.heap.size 5 1 v3 (8 * k) (vals .u8 (bytesN (l.take k)))) ∧ Hid (Below w.heap.size w wr)) (fun _ _ _ v13 _ => n - (intOf v13).toNat)
  case atStart => exact ⟨0, by omega, rfl, HO.out, HB1⟩
  case round =>
    clear HO HB1
    obtain ⟨k, hk, rfl, Hown, Hbel⟩ := hrel
    by_cases hlt : k < n
    · obtain ⟨b, off, rfl, hcc⟩ := (Hr.out.below Hbel.out).at_ (by omega)
      have hld := hcc k hlt
      have hx := nth_lt hl (by omega) k
      have h3 : Hid (l.take (k + 1) = l.take k ++ [nth l k]) := take_succ_nth l k (by omega)
      have HLL := Lib.hid hl
      clear hcc hl
      generalize nth l k = x at *
      go_wp2_with fail
      refine (lay_any x hx _).mono ?_
      rintro e w2 ⟨rfl, hb⟩
      rw [le8 x hx]
      have hs := Hbel.out.size
      have hs2 := hb.size
      have Hb := Lib.hid (Hbel.out.trans (hb.mono hs))
      have Ho2 := Lib.hid (own_under Hown.out hb)
      have Hlt := Lib.hid Hown.out.lt
      have HV := Lib.hid (vals_one .u8 (le 8 x))
      clear hb
      go_wp2_with (at_builtin; rw [← le8 x hx]; refine wpList_append_own _ rfl _ _ 23 rfl w.heap.size 5 i0 (.int .u8 0) 1 1 Tryd.underlying23 hi hz0 hz1 hz2 rfl (by decide) _ (8 * k) _ rfl (Ho2.out.alloc _) ⟨w2.heap.size, 0, none⟩ 8 8 (vals .u8 (le 8 x)) rfl (by rw [vals_len, le_len]) (World.news_of_block (cs := u8s (le 8 x)) (t := 69) (fr := (0, 0)) (heap_alloc_new w2 _)) HV.out (by simp only [maxLen]; omega) (by omega) (by simp; omega) ?_; intro v2 w3 hown2 hg2 _)
      have hb3 : Below w.heap.size w w3 := (Hb.out.alloc (by omega) _).grown hg2 (by simp; omega) (fun b hb => (Hlt.out b hb).1)
      have hown3 : w3.ownsRow w.heap.size 5 1 v2 (8 * (k + 1)) (vals .u8 (bytesN (l.take (k + 1)))) := by
        rw [h3.out, bytesN_snoc, vals_append]; exact hown2
      have H2 := Lib.hid hb3
      have H3 := Lib.hid hown3
      clear hb3 hown3 hown2 hg2
      go_wp2_with fail
      go_roundw
      case rel => exact ⟨k + 1, by omega, by go_num, H3, H2⟩
      case measure => simp [intOf]; omega
    · obtain rfl : k = n := by omega
      have h4 : Hid (l.take k = l) := List.take_of_length_le (by omega)
      go_wp2_with fail
      go_ret
      exact ⟨_, rfl, by rw [← h4.out]; exact Hown.out, Hbel.out⟩

end Go.Proofs.YtelhmddigogmgaaDoor
