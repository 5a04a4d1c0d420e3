/-
The document's From, Len, Cut of a tree of ints.
-/
import Derived.Test.YtfljnfmocmhhdaaWRef
namespace Go.Proofs.Ytfljnfmocmhhdaa
open Go.RowKit

theorem info131 : (Try.prog.info? 131).map (fun i => (i.zero, i.size, i.bytes)) = some (some (.agg #[.int .i64 0, .int .i64 0]), 2, 16) := by kernel_rfl
/-- pairs as cells -/
def cellsP (l : List (Nat × Int)) : List Value := l.flatMap fun x => [.int .i64 x.1, .int .i64 x.2]
theorem cellsP_append (l m : List (Nat × Int)) : cellsP (l ++ m) = cellsP l ++ cellsP m := by simp [cellsP]
theorem cellsP_at (l : List (Nat × Int)) (i : Nat) (x : Nat × Int) (h : l[i]? = some x) : (cellsP l)[i * 2]? = some (.int .i64 x.1) ∧ (cellsP l)[i * 2 + 1]? = some (.int .i64 x.2) := by
  induction l generalizing i with
  | nil => simp at h
  | cons y l ih =>
    cases i with
    | zero =>
      obtain rfl : y = x := by simpa using h
      exact ⟨rfl, rfl⟩
    | succ i =>
      obtain ⟨h1, h2⟩ := ih i (by simpa using h)
      simp only [cellsP, List.flatMap_cons] at h1 h2 ⊢
      constructor
      · rw [show (i + 1) * 2 = 2 + i * 2 by omega, List.getElem?_append_right (by simp)]; simpa using h1
      · rw [show (i + 1) * 2 + 1 = 2 + (i * 2 + 1) by omega, List.getElem?_append_right (by simp)]; simpa using h2

/-- behind k rounds -/
structure RfI (w : World) (q : Nat) (f : Nat → Int) (v : Value) (l : List (Nat × Int)) (W : World) : Prop where
  row : W.ownsRow w.heap.size 131 2 v l.length (cellsP l)
  bel : Below w.heap.size w W

set_option maxRecDepth 100000 in
set_option maxHeartbeats 2000000 in
theorem ref_from (w : World) (q : Nat) (f : Nat → Int) (h : RefT w q f) (off : Int) : Calls Try.prog 44 #[.pointer (some ⟨q, 0, none⟩), .int .i64 off] w fun e w' => ∃ v, e = .returned v ∧
    w'.ownsRow w.heap.size 131 2 v (items f 0 off 512).length (cellsP (items f 0 off 512)) ∧ Below w.heap.size w w' := by
  obtain ⟨i0, hi, hz0, hz1, hz2⟩ := info_parts info131
  have HR := Lib.hid h
  clear h
  go_enter Try.func44, Try.ntmps44
  go_wp2_with fail
  go_loopw [5, 6] (fun v5 v6 wr => ∃ k : Nat, k ≤ 512 ∧ v6 = .int .i64 k ∧ Hid (RfI w q f v5 (items f 0 off k) wr)) (fun _ v6 _ => 512 - (intOf v6).toNat)
  case atStart => exact ⟨0, by omega, rfl, World.ownsRow_nil _ _ _ _, Below.refl _ _⟩
  case round =>
    obtain ⟨k, hk, rfl, HS⟩ := hrel
    by_cases hlt : k < 512
    · have hs := items_succ f 0 off k
      rw [Nat.zero_add] at hs
      by_cases h1 : off ≤ (k : Int)
      · have hc := (HR.out.below HS.out.bel).cell k hlt
        by_cases h2 : f k = 0
        · rw [if_neg (fun h => h.2 h2), List.append_nil] at hs
          rw [h2] at hc
          rw [← hs] at HS
          clear hs h2
          go_wp2_with fail
          go_roundw
          case rel => exact ⟨k + 1, by omega, by go_num, HS⟩
          case measure => simp [intOf]; omega
        · rw [if_pos ⟨h1, h2⟩] at hs
          have hb2 : (f k != 0) = true := by simpa using h2
          have hlen := items_len f 0 off k
          have hsz := HS.out.bel.size
          have HSs := Lib.hid hs
          clear hs h2
          go_wp2_with (at_builtin; refine wpList_append_own _ rfl _ _ 79 rfl w.heap.size 131 i0 (.agg #[.int .i64 0, .int .i64 0]) 2 16 Try.underlying79 hi hz0 hz1 hz2 rfl (by decide) _ (items f 0 off k).length _ rfl (HS.out.row.alloc _) ⟨wr.heap.size, 0, none⟩ 1 1 [.int .i64 k, .int .i64 (f k)] rfl rfl (World.news_of_block (cs := #[.int .i64 k, .int .i64 (f k)]) (t := 131) (fr := (0, 0)) (heap_alloc_new wr _)) (by simp [Value.oneCell']) (by simp only [maxLen]; omega) (by omega) (by simp; omega) ?_; intro v' w1 hown' hgrow _)
          have HE : Hid (RfI w q f v' (items f 0 off (k + 1)) w1) := by
            rw [HSs.out]
            refine ⟨?_, (HS.out.bel.alloc hsz _).grown hgrow (by simp; omega) (fun b hb => (HS.out.row.lt b hb).1)⟩
            rw [List.length_append, cellsP_append]
            exact hown'
          clear hown' hgrow HS
          go_roundw
          case rel => exact ⟨k + 1, by omega, by go_num, HE⟩
          case measure => simp [intOf]; omega
      · rw [if_neg (fun h => h1 h.1), List.append_nil] at hs
        rw [← hs] at HS
        clear hs
        go_wp2_with fail
        go_roundw
        case rel => exact ⟨k + 1, by omega, by go_num, HS⟩
        case measure => simp [intOf]; omega
    · obtain rfl : 512 = k := by omega
      go_wp2_with fail
      go_ret
      exact ⟨_, rfl, HS.out.row, HS.out.bel⟩

theorem items_cnt (f : Nat → Int) : ∀ n, (items f 0 0 n).length = cntN f n
  | 0 => rfl
  | n + 1 => by
    rw [items_succ, cntN_succ, List.length_append, items_cnt f n]
    by_cases h : f n = 0
    · rw [if_neg (fun e => e.2 h), if_pos h]; rfl
    · rw [if_pos ⟨by omega, h⟩, if_neg h]; rfl
theorem ref_len (w : World) (q : Nat) (f : Nat → Int) (h : RefT w q f) : Calls Try.prog 71 #[.pointer (some ⟨q, 0, none⟩)] w fun e w' => e = .returned (.int .i64 (cntI f)) ∧ Below w.heap.size w w' := by
  have HF := Lib.hid (ref_from w q f h 0)
  have HC := Lib.hid (items_cnt f 512)
  clear h
  go_enter Try.func71, Try.ntmps71
  go_wp2_with fail
  refine HF.out.mono ?_
  rintro e w1 ⟨v, rfl, ho, hb⟩
  obtain ⟨A, c, rfl, _⟩ := own_slice ho
  have HB := Lib.hid hb
  clear ho hb
  go_wp2_with fail
  go_ret
  exact ⟨by rw [HC.out]; rfl, HB.out⟩

end Go.Proofs.Ytfljnfmocmhhdaa
