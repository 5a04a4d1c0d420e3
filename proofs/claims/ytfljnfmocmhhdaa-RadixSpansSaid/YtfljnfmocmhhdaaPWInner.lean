/-
walk of a copied tree of spans: the two upper levels. (Printed by gen_pinner.py.)
-/
import Derived.Test.YtfljnfmocmhhdaaPWWalk
namespace Go.Proofs.Ytfljnfmocmhhdaa.Spn
open Go.RowKit Go.Shelf
attribute [local go_sem] Oper.semAt_some

/-- what has come between is the walk's own -/
def Since (s : Nat) (O O' : Nat → Prop) (W W' : World) : Prop := Grew W.heap.size O O' ∧ W.heap.size ≤ W'.heap.size ∧ KeptO s O W W'
theorem Since.of_alloc {s : Nat} {O O' : Nat → Prop} {W W' : World} {o : Obj} (h : Since s O O' (W.alloc o) W') : Since s O O' W W' := by
  obtain ⟨h2, h3, h4⟩ := h
  have hs : (W.alloc o).heap.size = W.heap.size + 1 := by simp
  exact ⟨fun b hb => (h2 b hb).imp id (fun e => by omega), by omega, fun b hb1 hb2 hb3 => (h4 b hb1 (by omega) hb3).trans (Below.heap_alloc _ _ _ hb2)⟩

set_option maxRecDepth 100000 in
set_option maxHeartbeats 2000000 in
theorem walk_inner_8 (l s : Nat) (off : Int) (xs : List (Nat × (Int × Int))) (J : (Nat → Prop) → List (Nat × (Int × Int)) → World → Prop) (Jx : List (Nat × (Int × Int)) → World → Prop)
    (hJs : ∀ O pre A B, J O pre A → Below A.heap.size A B → J O pre B)
    (_ho1 : -9223372036854775808 ≤ off) (_ho2 : off ≤ 9223372036854775807)
    (n g base : Nat) (p : Nat → Option Nat) (v f : Nat → Int × Int) (O : Nat → Prop) (pre : List (Nat × (Int × Int))) (W : World) (hn : NodeI W g p v) (hg1 : s ≤ g) (hg2 : ¬ O g) (hJ : J O pre W) (hx : pre ++ items f base off (8 * 8) <+: xs) (hb : base + 8 * 8 ≤ 512)
    (hnone : ∀ k, k < 8 → p k = none → ∀ i, i < 8 → f (8 * k + i) = (0, 0))
    (hcall : ∀ k g', k < 8 → p k = some g' → ∀ m O' pre' W', J O' pre' W' → pre' ++ items (fun i => f (8 * k + i)) (base + 8 * k) off 8 <+: xs → Since s O O' W W' →
      CallsIn Fence.wide m Try.prog 68 #[.pointer (some ⟨g', 0, none⟩), .int .i64 ((base : Int) + (k : Int) * 8), .int .i64 1, .int .i64 off, .func (.yield l) #[] #[]] W' (WPost J Jx s O' pre' (items (fun i => f (8 * k + i)) (base + 8 * k) off 8) W')) :
    CallsIn Fence.wide n Try.prog 68 #[.pointer (some ⟨g, 0, none⟩), .int .i64 base, .int .i64 8, .int .i64 off, .func (.yield l) #[] #[]] W (WPost J Jx s O pre (items f base off (8 * 8)) W) := by
  have hro : Fence.wide.round = none := rfl
  have hdd : ∀ k : Nat, (Fence.wide.depth.isSome = true → 1 ≤ k) := fun k h => by cases h
  have HC := Lib.hid hcall
  have H0 := Lib.hid hnone
  have HX := Lib.hid hx
  have HN := Lib.hid hn
  have HJ : Hid (WI J s O (W.alloc (.cells #[.int .i64 0, .int .i64 0] 56)) (pre ++ items f base off (8 * 0)) (W.alloc (.cells #[.int .i64 0, .int .i64 0] 56))) :=
    WI.start (by simpa [items] using hJs _ _ _ _ hJ ((Below.refl _ _).alloc (Nat.le_refl _) _))
  clear hcall hnone hx hn hJ hJs
  refine callsIn_of_wp Try.func68 rfl trivial ?_ hro
  simp only [Try.ntmps68, List.size_toArray, List.length_cons, List.length_nil, Nat.reduceAdd, Nat.reduceSub, Array.replicate_succ, Array.replicate_zero, List.push_toArray, List.append_toArray, List.nil_append, List.cons_append]
  gi_wp2
  gi_loopw [14] (fun v14 wr => ∃ k : Nat, k ≤ 8 ∧ v14 = .int .i64 k ∧ Hid (WI J s O (W.alloc (.cells #[.int .i64 0, .int .i64 0] 56)) (pre ++ items f base off (8 * k)) wr)) (fun v14 _ => 8 - (intOf v14).toNat)
  case atStart => exact ⟨0, by omega, rfl, HJ⟩
  case round =>
    clear HJ
    obtain ⟨k, hk, rfl, HS⟩ := hrel
    by_cases hlt : k < 8
    · have hs : items f base off (8 * (k + 1)) = items f base off (8 * k) ++ items (fun i => f (8 * k + i)) (base + 8 * k) off 8 := by
        rw [show 8 * (k + 1) = 8 * k + 8 by omega, items_add]
      have hq : items f base off (8 * k) ++ items (fun i => f (8 * k + i)) (base + 8 * k) off 8 <+: items f base off (8 * 8) := by
        rw [← hs]; exact items_pre f base off (by omega)
      by_cases h1 : (base : Int) + (k : Int) * 8 + 8 ≤ off
      · rw [items_none (fun i => f (8 * k + i)) (base + 8 * k) off 8 (.inl (by omega)), List.append_nil] at hs
        have HT := Lib.hid HS.out
        rw [← hs] at HT
        clear hs HS hq
        gi_wp2
        go_roundw
        case rel => exact ⟨k + 1, by omega, by go_num, HT⟩
        case measure => simp [intOf]; omega
      · have hc := (HS.out.node HN.out hg1 hg2).ptr k hlt
        rcases hpk : p k with _ | g'
        · rw [items_none (fun i => f (8 * k + i)) (base + 8 * k) off 8 (.inr (H0.out k hlt hpk)), List.append_nil] at hs
          have HT := Lib.hid HS.out
          rw [← hs] at HT
          rw [hpk, opt_none] at hc
          clear hs HS hq hpk
          gi_wp2
          go_roundw
          case rel => exact ⟨k + 1, by omega, by go_num, HT⟩
          case measure => simp [intOf]; omega
        · rw [hpk, opt_some] at hc
          have hpx : pre ++ items f base off (8 * k) ++ items (fun i => f (8 * k + i)) (base + 8 * k) off 8 <+: xs := by
            rw [List.append_assoc]
            exact ((List.prefix_append_right_inj pre).2 hq).trans HX.out
          obtain ⟨O1, hJ1, hsn⟩ := HS.out
          have HK := Lib.hid (HC.out k g' hlt hpk (n - 1) O1 _ wr hJ1 hpx (Since.of_alloc hsn))
          have HQ := Lib.hid hq
          have HS1 := Lib.hid hs
          have HRW := Lib.hid hsn
          clear hpx hq hs HS hpk hJ1 hsn
          gi_wp2_with (refine ⟨trivial, hdd _, ?_⟩; gi_at_call 68; refine HK.out.mono ?_; clear HK; rintro e W' (⟨rfl, hwi⟩ | ⟨rfl, q, hq, hJx⟩))
          · obtain ⟨O2, hJ', hg', hz, hk'⟩ := hwi
            have HT : Hid (WI J s O (W.alloc (.cells #[.int .i64 0, .int .i64 0] 56)) (pre ++ items f base off (8 * (k + 1))) W') := by
              rw [HS1.out, ← List.append_assoc]
              exact WI.step HRW.out.1 HRW.out.2.1 HRW.out.2.2 hJ' hg' hz hk'
            clear hJ' hz hk' hg'
            go_roundw
            case rel => exact ⟨k + 1, by omega, by go_num, HT⟩
            case measure => simp [intOf]; omega
          · have HT := Lib.hid hJx
            have HQ2 := Lib.hid hq
            clear hJx hq
            go_ret
            exact .inr ⟨rfl, _, ((List.prefix_append_right_inj _).2 HQ2.out).trans HQ.out, by rw [← List.append_assoc]; exact HT.out⟩
    · obtain rfl : 8 = k := by omega
      gi_wp2
      go_ret
      exact .inl ⟨rfl, HS.out.out⟩

set_option maxRecDepth 100000 in
set_option maxHeartbeats 2000000 in
theorem walk_inner_64 (l s : Nat) (off : Int) (xs : List (Nat × (Int × Int))) (J : (Nat → Prop) → List (Nat × (Int × Int)) → World → Prop) (Jx : List (Nat × (Int × Int)) → World → Prop)
    (hJs : ∀ O pre A B, J O pre A → Below A.heap.size A B → J O pre B)
    (_ho1 : -9223372036854775808 ≤ off) (_ho2 : off ≤ 9223372036854775807)
    (n g base : Nat) (p : Nat → Option Nat) (v f : Nat → Int × Int) (O : Nat → Prop) (pre : List (Nat × (Int × Int))) (W : World) (hn : NodeI W g p v) (hg1 : s ≤ g) (hg2 : ¬ O g) (hJ : J O pre W) (hx : pre ++ items f base off (64 * 8) <+: xs) (hb : base + 64 * 8 ≤ 512)
    (hnone : ∀ k, k < 8 → p k = none → ∀ i, i < 64 → f (64 * k + i) = (0, 0))
    (hcall : ∀ k g', k < 8 → p k = some g' → ∀ m O' pre' W', J O' pre' W' → pre' ++ items (fun i => f (64 * k + i)) (base + 64 * k) off 64 <+: xs → Since s O O' W W' →
      CallsIn Fence.wide m Try.prog 68 #[.pointer (some ⟨g', 0, none⟩), .int .i64 ((base : Int) + (k : Int) * 64), .int .i64 8, .int .i64 off, .func (.yield l) #[] #[]] W' (WPost J Jx s O' pre' (items (fun i => f (64 * k + i)) (base + 64 * k) off 64) W')) :
    CallsIn Fence.wide n Try.prog 68 #[.pointer (some ⟨g, 0, none⟩), .int .i64 base, .int .i64 64, .int .i64 off, .func (.yield l) #[] #[]] W (WPost J Jx s O pre (items f base off (64 * 8)) W) := by
  have hro : Fence.wide.round = none := rfl
  have hdd : ∀ k : Nat, (Fence.wide.depth.isSome = true → 1 ≤ k) := fun k h => by cases h
  have HC := Lib.hid hcall
  have H0 := Lib.hid hnone
  have HX := Lib.hid hx
  have HN := Lib.hid hn
  have HJ : Hid (WI J s O (W.alloc (.cells #[.int .i64 0, .int .i64 0] 56)) (pre ++ items f base off (64 * 0)) (W.alloc (.cells #[.int .i64 0, .int .i64 0] 56))) :=
    WI.start (by simpa [items] using hJs _ _ _ _ hJ ((Below.refl _ _).alloc (Nat.le_refl _) _))
  clear hcall hnone hx hn hJ hJs
  refine callsIn_of_wp Try.func68 rfl trivial ?_ hro
  simp only [Try.ntmps68, List.size_toArray, List.length_cons, List.length_nil, Nat.reduceAdd, Nat.reduceSub, Array.replicate_succ, Array.replicate_zero, List.push_toArray, List.append_toArray, List.nil_append, List.cons_append]
  gi_wp2
  gi_loopw [14] (fun v14 wr => ∃ k : Nat, k ≤ 8 ∧ v14 = .int .i64 k ∧ Hid (WI J s O (W.alloc (.cells #[.int .i64 0, .int .i64 0] 56)) (pre ++ items f base off (64 * k)) wr)) (fun v14 _ => 8 - (intOf v14).toNat)
  case atStart => exact ⟨0, by omega, rfl, HJ⟩
  case round =>
    clear HJ
    obtain ⟨k, hk, rfl, HS⟩ := hrel
    by_cases hlt : k < 8
    · have hs : items f base off (64 * (k + 1)) = items f base off (64 * k) ++ items (fun i => f (64 * k + i)) (base + 64 * k) off 64 := by
        rw [show 64 * (k + 1) = 64 * k + 64 by omega, items_add]
      have hq : items f base off (64 * k) ++ items (fun i => f (64 * k + i)) (base + 64 * k) off 64 <+: items f base off (64 * 8) := by
        rw [← hs]; exact items_pre f base off (by omega)
      by_cases h1 : (base : Int) + (k : Int) * 64 + 64 ≤ off
      · rw [items_none (fun i => f (64 * k + i)) (base + 64 * k) off 64 (.inl (by omega)), List.append_nil] at hs
        have HT := Lib.hid HS.out
        rw [← hs] at HT
        clear hs HS hq
        gi_wp2
        go_roundw
        case rel => exact ⟨k + 1, by omega, by go_num, HT⟩
        case measure => simp [intOf]; omega
      · have hc := (HS.out.node HN.out hg1 hg2).ptr k hlt
        rcases hpk : p k with _ | g'
        · rw [items_none (fun i => f (64 * k + i)) (base + 64 * k) off 64 (.inr (H0.out k hlt hpk)), List.append_nil] at hs
          have HT := Lib.hid HS.out
          rw [← hs] at HT
          rw [hpk, opt_none] at hc
          clear hs HS hq hpk
          gi_wp2
          go_roundw
          case rel => exact ⟨k + 1, by omega, by go_num, HT⟩
          case measure => simp [intOf]; omega
        · rw [hpk, opt_some] at hc
          have hpx : pre ++ items f base off (64 * k) ++ items (fun i => f (64 * k + i)) (base + 64 * k) off 64 <+: xs := by
            rw [List.append_assoc]
            exact ((List.prefix_append_right_inj pre).2 hq).trans HX.out
          obtain ⟨O1, hJ1, hsn⟩ := HS.out
          have HK := Lib.hid (HC.out k g' hlt hpk (n - 1) O1 _ wr hJ1 hpx (Since.of_alloc hsn))
          have HQ := Lib.hid hq
          have HS1 := Lib.hid hs
          have HRW := Lib.hid hsn
          clear hpx hq hs HS hpk hJ1 hsn
          gi_wp2_with (refine ⟨trivial, hdd _, ?_⟩; gi_at_call 68; refine HK.out.mono ?_; clear HK; rintro e W' (⟨rfl, hwi⟩ | ⟨rfl, q, hq, hJx⟩))
          · obtain ⟨O2, hJ', hg', hz, hk'⟩ := hwi
            have HT : Hid (WI J s O (W.alloc (.cells #[.int .i64 0, .int .i64 0] 56)) (pre ++ items f base off (64 * (k + 1))) W') := by
              rw [HS1.out, ← List.append_assoc]
              exact WI.step HRW.out.1 HRW.out.2.1 HRW.out.2.2 hJ' hg' hz hk'
            clear hJ' hz hk' hg'
            go_roundw
            case rel => exact ⟨k + 1, by omega, by go_num, HT⟩
            case measure => simp [intOf]; omega
          · have HT := Lib.hid hJx
            have HQ2 := Lib.hid hq
            clear hJx hq
            go_ret
            exact .inr ⟨rfl, _, ((List.prefix_append_right_inj _).2 HQ2.out).trans HQ.out, by rw [← List.append_assoc]; exact HT.out⟩
    · obtain rfl : 8 = k := by omega
      gi_wp2
      go_ret
      exact .inl ⟨rfl, HS.out.out⟩

end Go.Proofs.Ytfljnfmocmhhdaa.Spn
