/-
walk of a copied tree of ints: the two upper levels. (Printed by gen_inner.py.)
-/
import Derived.Test.YtfljnfmocmhhdaaWWalk
namespace Go.Proofs.Ytfljnfmocmhhdaa
open Go.RowKit Go.Shelf
attribute [local go_sem] Oper.semAt_some

set_option maxRecDepth 100000 in
set_option maxHeartbeats 2000000 in
theorem walk_inner_8 (F : Fence) (h53 : F.fn 53) (hro : F.round = none) (hd : F.depth = none) (l s c : Nat) (off : Int) (xs : List (Nat × Int)) (J Jx : List (Nat × Int) → World → Prop)
    (ho1 : -9223372036854775808 ≤ off) (ho2 : off ≤ 9223372036854775807)
    (n g base : Nat) (p : Nat → Option Nat) (v f : Nat → Int) (pre : List (Nat × Int)) (W : World) (hn : NodeI W g p v) (hg1 : s ≤ g) (hg2 : g < s + c) (hJ : J pre W) (hx : pre ++ items f base off (8 * 8) <+: xs) (hb : base + 8 * 8 ≤ 512)
    (hnone : ∀ k, k < 8 → p k = none → ∀ i, i < 8 → f (8 * k + i) = 0)
    (hcall : ∀ k g', k < 8 → p k = some g' → ∀ m pre' W', J pre' W' → pre' ++ items (fun i => f (8 * k + i)) (base + 8 * k) off 8 <+: xs → W.heap.size ≤ W'.heap.size → KeptIn s c W W' →
      CallsIn F m Try.prog 53 #[.pointer (some ⟨g', 0, none⟩), .int .i64 ((base : Int) + (k : Int) * 8), .int .i64 1, .int .i64 off, .func (.yield l) #[] #[]] W' (WPost J Jx s c pre' (items (fun i => f (8 * k + i)) (base + 8 * k) off 8) W')) :
    CallsIn F n Try.prog 53 #[.pointer (some ⟨g, 0, none⟩), .int .i64 base, .int .i64 8, .int .i64 off, .func (.yield l) #[] #[]] W (WPost J Jx s c pre (items f base off (8 * 8)) W) := by
  have hdd : ∀ k : Nat, (F.depth.isSome = true → 1 ≤ k) := fun k h => by rw [hd] at h; cases h
  have HC := Lib.hid hcall
  have H0 := Lib.hid hnone
  have HX := Lib.hid hx
  have HN := Lib.hid hn
  have HJ := Lib.hid hJ
  clear hcall hnone hx hn hJ
  refine callsIn_of_wp Try.func53 rfl h53 ?_ hro
  simp only [Try.ntmps53, List.size_toArray, List.length_cons, List.length_nil, Nat.reduceAdd, Nat.reduceSub, Array.replicate_succ, Array.replicate_zero, List.push_toArray, List.append_toArray, List.nil_append, List.cons_append]
  gi_wp2
  gi_loopw [14] (fun v14 wr => ∃ k : Nat, k ≤ 8 ∧ v14 = .int .i64 k ∧ Hid (J (pre ++ items f base off (8 * k)) wr ∧ W.heap.size ≤ wr.heap.size ∧ KeptIn s c W wr)) (fun v14 _ => 8 - (intOf v14).toNat)
  case atStart => exact ⟨0, by omega, rfl, by simpa [items] using HJ.out, Nat.le_refl _, KeptIn.refl _ _ _⟩
  case round =>
    clear HJ
    obtain ⟨k, hk, rfl, HS⟩ := hrel
    by_cases hlt : k < 8
    · have hs : items f base off (8 * (k + 1)) = items f base off (8 * k) ++ items (fun i => f (8 * k + i)) (base + 8 * k) off 8 := by
        rw [show 8 * (k + 1) = 8 * k + 8 by omega, items_add]
      have hq : items f base off (8 * k) ++ items (fun i => f (8 * k + i)) (base + 8 * k) off 8 <+: items f base off (8 * 8) := by
        rw [← hs]; exact items_pre f base off (by omega)
      by_cases h1 : (base : Int) + (k : Int) * 8 + 8 ≤ off
      · rw [items_none (fun i => f (8 * k + i)) (base + 8 * k) off 8 (.inl (by omega)), List.append_nil] at hs
        have HT := Lib.hid HS.out
        rw [← hs] at HT
        clear hs HS hq
        gi_wp2
        go_roundw
        case rel => exact ⟨k + 1, by omega, by go_num, HT⟩
        case measure => simp [intOf]; omega
      · have hc := (HN.out.same (HS.out.2.2 g hg1 hg2)).ptr k hlt
        rcases hpk : p k with _ | g'
        · rw [items_none (fun i => f (8 * k + i)) (base + 8 * k) off 8 (.inr (H0.out k hlt hpk)), List.append_nil] at hs
          have HT := Lib.hid HS.out
          rw [← hs] at HT
          rw [hpk, opt_none] at hc
          clear hs HS hq hpk
          gi_wp2
          go_roundw
          case rel => exact ⟨k + 1, by omega, by go_num, HT⟩
          case measure => simp [intOf]; omega
        · rw [hpk, opt_some] at hc
          have hpx : pre ++ items f base off (8 * k) ++ items (fun i => f (8 * k + i)) (base + 8 * k) off 8 <+: xs := by
            rw [List.append_assoc]
            exact ((List.prefix_append_right_inj pre).2 hq).trans HX.out
          have HK := Lib.hid (HC.out k g' hlt hpk (n - 1) _ wr HS.out.1 hpx HS.out.2.1 HS.out.2.2)
          have HQ := Lib.hid hq
          have HS1 := Lib.hid hs
          have HRW := Lib.hid HS.out.2
          clear hpx hq hs HS hpk
          gi_wp2_with ((try refine ⟨hdd _, ?_⟩); gi_at_call 53; refine HK.out.mono ?_; clear HK; rintro e W' (⟨rfl, hJ', hz, hk'⟩ | ⟨rfl, q, hq, hJx⟩))
          · have HT : Hid (J (pre ++ items f base off (8 * (k + 1))) W' ∧ W.heap.size ≤ W'.heap.size ∧ KeptIn s c W W') := by
              rw [HS1.out, ← List.append_assoc]
              exact ⟨hJ', Nat.le_trans HRW.out.1 hz, HRW.out.2.trans hk'⟩
            clear hJ' hz hk'
            go_roundw
            case rel => exact ⟨k + 1, by omega, by go_num, HT⟩
            case measure => simp [intOf]; omega
          · have HT := Lib.hid hJx
            have HQ2 := Lib.hid hq
            clear hJx hq
            go_ret
            exact .inr ⟨rfl, _, ((List.prefix_append_right_inj _).2 HQ2.out).trans HQ.out, by rw [← List.append_assoc]; exact HT.out⟩
    · obtain rfl : 8 = k := by omega
      gi_wp2
      go_ret
      exact .inl ⟨rfl, HS.out.1, HS.out.2.1, HS.out.2.2⟩

set_option maxRecDepth 100000 in
set_option maxHeartbeats 2000000 in
theorem walk_inner_64 (F : Fence) (h53 : F.fn 53) (hro : F.round = none) (hd : F.depth = none) (l s c : Nat) (off : Int) (xs : List (Nat × Int)) (J Jx : List (Nat × Int) → World → Prop)
    (_ho1 : -9223372036854775808 ≤ off) (_ho2 : off ≤ 9223372036854775807)
    (n g base : Nat) (p : Nat → Option Nat) (v f : Nat → Int) (pre : List (Nat × Int)) (W : World) (hn : NodeI W g p v) (hg1 : s ≤ g) (hg2 : g < s + c) (hJ : J pre W) (hx : pre ++ items f base off (64 * 8) <+: xs) (hb : base + 64 * 8 ≤ 512)
    (hnone : ∀ k, k < 8 → p k = none → ∀ i, i < 64 → f (64 * k + i) = 0)
    (hcall : ∀ k g', k < 8 → p k = some g' → ∀ m pre' W', J pre' W' → pre' ++ items (fun i => f (64 * k + i)) (base + 64 * k) off 64 <+: xs → W.heap.size ≤ W'.heap.size → KeptIn s c W W' →
      CallsIn F m Try.prog 53 #[.pointer (some ⟨g', 0, none⟩), .int .i64 ((base : Int) + (k : Int) * 64), .int .i64 8, .int .i64 off, .func (.yield l) #[] #[]] W' (WPost J Jx s c pre' (items (fun i => f (64 * k + i)) (base + 64 * k) off 64) W')) :
    CallsIn F n Try.prog 53 #[.pointer (some ⟨g, 0, none⟩), .int .i64 base, .int .i64 64, .int .i64 off, .func (.yield l) #[] #[]] W (WPost J Jx s c pre (items f base off (64 * 8)) W) := by
  have hdd : ∀ k : Nat, (F.depth.isSome = true → 1 ≤ k) := fun k h => by rw [hd] at h; cases h
  have HC := Lib.hid hcall
  have H0 := Lib.hid hnone
  have HX := Lib.hid hx
  have HN := Lib.hid hn
  have HJ := Lib.hid hJ
  clear hcall hnone hx hn hJ
  refine callsIn_of_wp Try.func53 rfl h53 ?_ hro
  simp only [Try.ntmps53, List.size_toArray, List.length_cons, List.length_nil, Nat.reduceAdd, Nat.reduceSub, Array.replicate_succ, Array.replicate_zero, List.push_toArray, List.append_toArray, List.nil_append, List.cons_append]
  gi_wp2
  gi_loopw [14] (fun v14 wr => ∃ k : Nat, k ≤ 8 ∧ v14 = .int .i64 k ∧ Hid (J (pre ++ items f base off (64 * k)) wr ∧ W.heap.size ≤ wr.heap.size ∧ KeptIn s c W wr)) (fun v14 _ => 8 - (intOf v14).toNat)
  case atStart => exact ⟨0, by omega, rfl, by simpa [items] using HJ.out, Nat.le_refl _, KeptIn.refl _ _ _⟩
  case round =>
    clear HJ
    obtain ⟨k, hk, rfl, HS⟩ := hrel
    by_cases hlt : k < 8
    · have hs : items f base off (64 * (k + 1)) = items f base off (64 * k) ++ items (fun i => f (64 * k + i)) (base + 64 * k) off 64 := by
        rw [show 64 * (k + 1) = 64 * k + 64 by omega, items_add]
      have hq : items f base off (64 * k) ++ items (fun i => f (64 * k + i)) (base + 64 * k) off 64 <+: items f base off (64 * 8) := by
        rw [← hs]; exact items_pre f base off (by omega)
      by_cases h1 : (base : Int) + (k : Int) * 64 + 64 ≤ off
      · rw [items_none (fun i => f (64 * k + i)) (base + 64 * k) off 64 (.inl (by omega)), List.append_nil] at hs
        have HT := Lib.hid HS.out
        rw [← hs] at HT
        clear hs HS hq
        gi_wp2
        go_roundw
        case rel => exact ⟨k + 1, by omega, by go_num, HT⟩
        case measure => simp [intOf]; omega
      · have hc := (HN.out.same (HS.out.2.2 g hg1 hg2)).ptr k hlt
        rcases hpk : p k with _ | g'
        · rw [items_none (fun i => f (64 * k + i)) (base + 64 * k) off 64 (.inr (H0.out k hlt hpk)), List.append_nil] at hs
          have HT := Lib.hid HS.out
          rw [← hs] at HT
          rw [hpk, opt_none] at hc
          clear hs HS hq hpk
          gi_wp2
          go_roundw
          case rel => exact ⟨k + 1, by omega, by go_num, HT⟩
          case measure => simp [intOf]; omega
        · rw [hpk, opt_some] at hc
          have hpx : pre ++ items f base off (64 * k) ++ items (fun i => f (64 * k + i)) (base + 64 * k) off 64 <+: xs := by
            rw [List.append_assoc]
            exact ((List.prefix_append_right_inj pre).2 hq).trans HX.out
          have HK := Lib.hid (HC.out k g' hlt hpk (n - 1) _ wr HS.out.1 hpx HS.out.2.1 HS.out.2.2)
          have HQ := Lib.hid hq
          have HS1 := Lib.hid hs
          have HRW := Lib.hid HS.out.2
          clear hpx hq hs HS hpk
          gi_wp2_with ((try refine ⟨hdd _, ?_⟩); gi_at_call 53; refine HK.out.mono ?_; clear HK; rintro e W' (⟨rfl, hJ', hz, hk'⟩ | ⟨rfl, q, hq, hJx⟩))
          · have HT : Hid (J (pre ++ items f base off (64 * (k + 1))) W' ∧ W.heap.size ≤ W'.heap.size ∧ KeptIn s c W W') := by
              rw [HS1.out, ← List.append_assoc]
              exact ⟨hJ', Nat.le_trans HRW.out.1 hz, HRW.out.2.trans hk'⟩
            clear hJ' hz hk'
            go_roundw
            case rel => exact ⟨k + 1, by omega, by go_num, HT⟩
            case measure => simp [intOf]; omega
          · have HT := Lib.hid hJx
            have HQ2 := Lib.hid hq
            clear hJx hq
            go_ret
            exact .inr ⟨rfl, _, ((List.prefix_append_right_inj _).2 HQ2.out).trans HQ.out, by rw [← List.append_assoc]; exact HT.out⟩
    · obtain rfl : 8 = k := by omega
      gi_wp2
      go_ret
      exact .inl ⟨rfl, HS.out.1, HS.out.2.1, HS.out.2.2⟩

end Go.Proofs.Ytfljnfmocmhhdaa
