/-
walk of a copied tree of ints: it hands on the offsets that are no holes, rising.
-/
import Derived.Test.YtfljnfmocmhhdaaCopy
import Derived.Test.YtfljnfmocmhhdaaIter
import Derived.RangeFuncNested
import Derived.RangeFuncBound
import Derived.RangeFuncCalls
import Derived.RangeFuncLeaves
import Derived.Shelf.Abstract
import Derived.Shelf.RegionOpen
import Derived.OwnWalkIn
import Derived.TacticsInMore
import Derived.LoopNIn
import Derived.LoopIn
namespace Go.Proofs.Ytfljnfmocmhhdaa
open Go.RowKit Go.Shelf
attribute [local go_sem] Oper.semAt_some

/-- what stands in the first n places of F, from off on -/
def items (F : Nat → Int) (base : Nat) (off : Int) (n : Nat) : List (Nat × Int) := (List.range n).filterMap fun i => if off ≤ ((base + i : Nat) : Int) ∧ F i ≠ 0 then some (base + i, F i) else none
def encI (x : Nat × Int) : Array Value := #[.int .i64 x.1, .int .i64 x.2]
theorem items_succ (F : Nat → Int) (base : Nat) (off : Int) (n : Nat) : items F base off (n + 1) = items F base off n ++ if off ≤ ((base + n : Nat) : Int) ∧ F n ≠ 0 then [(base + n, F n)] else [] := by
  unfold items
  rw [List.range_succ, List.filterMap_append]
  by_cases h : off ≤ ((base + n : Nat) : Int) ∧ F n ≠ 0
  · rw [if_pos h]; simp only [List.filterMap_cons, if_pos h, List.filterMap_nil]
  · rw [if_neg h]; simp only [List.filterMap_cons, if_neg h, List.filterMap_nil]
theorem items_add (F : Nat → Int) (base : Nat) (off : Int) (n : Nat) : ∀ m, items F base off (n + m) = items F base off n ++ items (fun i => F (n + i)) (base + n) off m
  | 0 => by simp [items]
  | m + 1 => by
    rw [show n + (m + 1) = (n + m) + 1 from rfl, items_succ, items_add F base off n m, items_succ, List.append_assoc, show base + n + m = base + (n + m) by omega]
theorem items_none (F : Nat → Int) (base : Nat) (off : Int) : ∀ m : Nat, ((base : Int) + m ≤ off ∨ ∀ i, i < m → F i = 0) → items F base off m = []
  | 0, _ => rfl
  | m + 1, h => by
    rw [items_succ, items_none F base off m (h.elim (fun h => .inl (by omega)) (fun h => .inr fun i hi => h i (by omega))), if_neg (by
      rintro ⟨h1, h2⟩
      rcases h with h | h
      · omega
      · exact h2 (h m (by omega)))]
    rfl

theorem items_pre (F : Nat → Int) (base : Nat) (off : Int) {i n : Nat} (h : i ≤ n) : items F base off i <+: items F base off n := by
  obtain ⟨m, rfl⟩ : ∃ m, n = i + m := ⟨n - i, by omega⟩
  rw [items_add]
  exact List.prefix_append _ _
theorem KeptIn.heap {s c : Nat} {A B : World} (h : KeptIn s c A B) {g : Nat} (h1 : s ≤ g) (h2 : g < s + c) : B.heap[g]? = A.heap[g]? := h g h1 h2

/-- what a call of yield does -/
def YPost (J Jx : List (Nat × Int) → World → Prop) (s c : Nat) (ys : List (Nat × Int)) (W : World) (e : Ending) (W' : World) : Prop :=
  (e = .returned (.bool true) ∧ J ys W' ∧ W.heap.size ≤ W'.heap.size ∧ KeptIn s c W W') ∨ (e = .returned (.bool false) ∧ Jx ys W')
/-- what a walk does -/
def WPost (J Jx : List (Nat × Int) → World → Prop) (s c : Nat) (pre ys : List (Nat × Int)) (W : World) (e : Ending) (W' : World) : Prop :=
  (e = .returned (.bool true) ∧ J (pre ++ ys) W' ∧ W.heap.size ≤ W'.heap.size ∧ KeptIn s c W W') ∨ (e = .returned (.bool false) ∧ ∃ q, q <+: ys ∧ Jx (pre ++ q) W')

set_option maxRecDepth 100000 in
set_option maxHeartbeats 2000000 in
theorem walk_leaf (F : Fence) (h53 : F.fn 53) (hro : F.round = none) (hd : F.depth = none) (l s c : Nat) (off : Int) (xs : List (Nat × Int)) (J Jx : List (Nat × Int) → World → Prop)
    (hY : ∀ m pre x W, J pre W → pre ++ [x] <+: xs → s + c ≤ W.heap.size → YieldAt F m Try.prog l (encI x) W (YPost J Jx s c (pre ++ [x]) W))
    (ho1 : -9223372036854775808 ≤ off) (ho2 : off ≤ 9223372036854775807)
    (n g base : Nat) (v : Nat → Int) (pre : List (Nat × Int)) (W : World) (hn : NodeI W g (fun _ => none) v) (hg1 : s ≤ g) (hg2 : g < s + c) (hJ : J pre W) (hx : pre ++ items v base off 8 <+: xs) (hb : base + 8 ≤ 512) (hsz : s + c ≤ W.heap.size) :
    CallsIn F n Try.prog 53 #[.pointer (some ⟨g, 0, none⟩), .int .i64 base, .int .i64 1, .int .i64 off, .func (.yield l) #[] #[]] W (WPost J Jx s c pre (items v base off 8) W) := by
  have hdd : ∀ k : Nat, (F.depth.isSome = true → 1 ≤ k) := fun k h => by rw [hd] at h; cases h
  have HY := Lib.hid hY
  have HX := Lib.hid hx
  have HN := Lib.hid hn
  have HJ := Lib.hid hJ
  clear hY hx hn hJ
  refine callsIn_of_wp Try.func53 rfl h53 ?_ hro
  simp only [Try.ntmps53, List.size_toArray, List.length_cons, List.length_nil, Nat.reduceAdd, Nat.reduceSub, Array.replicate_succ, Array.replicate_zero, List.push_toArray, List.append_toArray, List.nil_append, List.cons_append]
  gi_wp2
  gi_loopw [14] (fun v14 wr => ∃ k : Nat, k ≤ 8 ∧ v14 = .int .i64 k ∧ Hid (J (pre ++ items v base off k) wr ∧ W.heap.size ≤ wr.heap.size ∧ KeptIn s c W wr)) (fun v14 _ => 8 - (intOf v14).toNat)
  case atStart => exact ⟨0, by omega, rfl, by simpa [items] using HJ.out, Nat.le_refl _, KeptIn.refl _ _ _⟩
  case round =>
    clear HJ
    obtain ⟨k, hk, rfl, HS⟩ := hrel
    by_cases hlt : k < 8
    · have hs := items_succ v base off k
      by_cases h1 : (base : Int) + k + 1 ≤ off
      · rw [if_neg (by rintro ⟨h, _⟩; omega), List.append_nil] at hs
        have HT := Lib.hid HS.out
        rw [← hs] at HT
        clear hs HS
        gi_wp2
        go_roundw
        case rel => exact ⟨k + 1, by omega, by go_num, HT⟩
        case measure => simp [intOf]; omega
      · have hc := (HN.out.same (HS.out.2.2 g hg1 hg2)).val k hlt
        by_cases h2 : v k = 0
        · rw [if_neg (by rintro ⟨_, h⟩; exact h h2), List.append_nil] at hs
          have HT := Lib.hid HS.out
          rw [← hs] at HT
          rw [h2] at hc
          clear hs HS h2
          gi_wp2
          refine ⟨fun _ h => (by cases h), ?_⟩
          gi_wp2
          go_roundw
          case rel => exact ⟨k + 1, by omega, by go_num, HT⟩
          case measure => simp [intOf]; omega
        · rw [if_pos ⟨by omega, h2⟩] at hs
          have hb2 : (v k != 0) = true := by simpa using h2
          have hq : items v base off k ++ [(base + k, v k)] <+: items v base off 8 := by
            rw [← hs]; exact items_pre v base off (by omega)
          have hpx : pre ++ items v base off k ++ [(base + k, v k)] <+: xs := by
            rw [List.append_assoc]
            exact ((List.prefix_append_right_inj pre).2 hq).trans HX.out
          have HQ := Lib.hid hq
          have HS1 := Lib.hid hs
          obtain ⟨fn, tmps, assign, body, hy, hR⟩ := HY.out (n - 1) _ _ _ HS.out.1 hpx (by have := HS.out.2.1; omega)
          dsimp only [encI] at hy
          rw [show ((base + k : Nat) : Int) = (base : Int) + k from by omega] at hy
          have HRW := Lib.hid HS.out.2
          clear hpx hq hs HS
          gi_wp2
          refine hR.mono ?_
          clear hR hy
          rintro e W' (⟨rfl, hJ', hz, hk'⟩ | ⟨rfl, hJx⟩)
          · have HT : Hid (J (pre ++ items v base off (k + 1)) W' ∧ W.heap.size ≤ W'.heap.size ∧ KeptIn s c W W') := by
              rw [HS1.out, ← List.append_assoc]
              exact ⟨hJ', Nat.le_trans HRW.out.1 hz, HRW.out.2.trans hk'⟩
            clear hJ' hz hk'
            gi_wp2
            go_roundw
            case rel => exact ⟨k + 1, by omega, by go_num, HT⟩
            case measure => simp [intOf]; omega
          · have HT := Lib.hid hJx
            clear hJx
            gi_wp2
            go_ret
            exact .inr ⟨rfl, _, HQ.out, by rw [← List.append_assoc]; exact HT.out⟩
    · obtain rfl : 8 = k := by omega
      gi_wp2
      go_ret
      exact .inl ⟨rfl, HS.out.1, HS.out.2.1, HS.out.2.2⟩

end Go.Proofs.Ytfljnfmocmhhdaa
