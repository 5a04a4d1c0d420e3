/-
What copyBytes, copyWords of the statements compute, and sameBytes, sameWords of two lists that read the same.
-/
import Derived.Test.YtelhmddigogmgaaDoorWWords
import Derived.Test.YtelhmddigogmgaaDoorWLines
import Derived.Laws.AppendOwnNone
namespace Go.Proofs.YtelhmddigogmgaaDoor
open Go.RowKit

theorem news_of_rd {w : World} {k : IntKind} {ad : Addr} {n c : Nat} {l : List Nat} (h : Rd w k (some ad) n c l) : ∀ j u, (vals k l)[j]? = some u → w.cell? (ad.add j) = some u := by
  intro j u hu
  have hj : j < l.length := by
    have : j < (vals k l).length := (List.getElem?_eq_some_iff.1 hu).1
    rwa [vals_len] at this
  obtain ⟨b', off', e, hc⟩ := h.at_ (by have := h.len; omega)
  obtain rfl := Option.some.inj e
  rw [vals_get k l j hj] at hu
  rw [Go.WideShapes.add_plain, hc j (by rw [← h.len]; exact hj)]
  exact hu
theorem Rd.none_cap {w : World} {k : IntKind} {n c : Nat} {l : List Nat} (h : Rd w k none n c l) : c = 0 := by
  rcases h.2.2.2.2 with h0 | ⟨b, off, e, _⟩
  · exact h0
  · cases e

set_option maxHeartbeats 400000 in
theorem copyBytes_any (l : List Nat) (A : Option Addr) (n c : Nat) (w : World) (hr : Rd w .u8 A n c l) :
    Calls Tryd.prog 37 #[.slice A n c] w fun e w' => ∃ v, e = .returned v ∧ w'.ownsRow w.heap.size 5 1 v n (vals .u8 l) ∧ Below w.heap.size w w' := by
  obtain ⟨i0, hi, hz0, hz1, hz2⟩ := info_parts info5
  have hn := hr.lt
  have hl := hr.len
  rcases A with _ | ad
  · obtain rfl := hr.none_cap
    have h0 := hr.le
    obtain rfl : n = 0 := by omega
    obtain rfl : l = [] := List.eq_nil_of_length_eq_zero hl
    clear hr
    go_enter Tryd.func37, Tryd.ntmps37
    go_wp2_with (at_builtin; refine wpList_append_own_none rfl _ _ 23 rfl w.heap.size 5 i0 1 Tryd.underlying23 hi (.slice none 0 0) 0 [] rfl (World.ownsRow_nil _ _ _ _) rfl ?_)
    go_ret
    exact ⟨_, rfl, World.ownsRow_nil _ _ _ _, Below.refl _ _⟩
  · have H := Lib.hid (news_of_rd hr)
    have hone : ∀ u ∈ vals .u8 l, u.oneCell' = true := vals_one .u8 l
    have HO := Lib.hid hone
    clear hr hone
    go_enter Tryd.func37, Tryd.ntmps37
    go_wp2_with (at_builtin; refine wpList_append_own _ rfl _ _ 23 rfl w.heap.size 5 i0 (.int .u8 0) 1 1 Tryd.underlying23 hi hz0 hz1 hz2 rfl (by decide) (.slice none 0 0) 0 [] rfl (World.ownsRow_nil _ _ _ _) ad n c (vals .u8 l) rfl (by rw [vals_len]; omega) H.out HO.out (by simp only [maxLen]; omega) (by omega) (Nat.le_refl _) ?_; intro v2 w2 hown2 hg2 _)
    have hb2 : Below w.heap.size w w2 := (Below.refl _ _).grown hg2 (Nat.le_refl _) (fun b hb => by cases hb)
    rw [Nat.zero_add, List.nil_append] at hown2
    have H2 := Lib.hid hb2
    have H3 := Lib.hid hown2
    clear hb2 hown2 hg2
    go_wp2_with fail
    go_ret
    exact ⟨_, rfl, H3.out, H2.out⟩

set_option maxHeartbeats 400000 in
theorem copyWords_any (l : List Nat) (A : Option Addr) (n c : Nat) (w : World) (hr : Rd w .u64 A n c l) (hn8 : n * 8 ≤ 140737488355328) :
    Calls Tryd.prog 35 #[.slice A n c] w fun e w' => ∃ v, e = .returned v ∧ w'.ownsRow w.heap.size 37 1 v n (vals .u64 l) ∧ Below w.heap.size w w' := by
  obtain ⟨i0, hi, hz0, hz1, hz2⟩ := info_parts info37
  have hn := hr.lt
  have hl := hr.len
  rcases A with _ | ad
  · obtain rfl := hr.none_cap
    have h0 := hr.le
    obtain rfl : n = 0 := by omega
    obtain rfl : l = [] := List.eq_nil_of_length_eq_zero hl
    clear hr
    go_enter Tryd.func35, Tryd.ntmps35
    go_wp2_with (at_builtin; refine wpList_append_own_none rfl _ _ 48 rfl w.heap.size 37 i0 1 Tryd.underlying48 hi (.slice none 0 0) 0 [] rfl (World.ownsRow_nil _ _ _ _) rfl ?_)
    go_ret
    exact ⟨_, rfl, World.ownsRow_nil _ _ _ _, Below.refl _ _⟩
  · have H := Lib.hid (news_of_rd hr)
    have hone : ∀ u ∈ vals .u64 l, u.oneCell' = true := vals_one .u64 l
    have HO := Lib.hid hone
    clear hr hone
    go_enter Tryd.func35, Tryd.ntmps35
    go_wp2_with (at_builtin; refine wpList_append_own _ rfl _ _ 48 rfl w.heap.size 37 i0 (.int .u64 0) 1 8 Tryd.underlying48 hi hz0 hz1 hz2 rfl (by decide) (.slice none 0 0) 0 [] rfl (World.ownsRow_nil _ _ _ _) ad n c (vals .u64 l) rfl (by rw [vals_len]; omega) H.out HO.out (by simp only [maxLen]; omega) (by omega) (Nat.le_refl _) ?_; intro v2 w2 hown2 hg2 _)
    have hb2 : Below w.heap.size w w2 := (Below.refl _ _).grown hg2 (Nat.le_refl _) (fun b hb => by cases hb)
    rw [Nat.zero_add, List.nil_append] at hown2
    have H2 := Lib.hid hb2
    have H3 := Lib.hid hown2
    clear hb2 hown2 hg2
    go_wp2_with fail
    go_ret
    exact ⟨_, rfl, H3.out, H2.out⟩

set_option maxHeartbeats 400000 in
theorem sameBytes_any (l : List Nat) (A A2 : Option Addr) (n c c2 : Nat) (w : World) (hr : Rd w .u8 A n c l) (hr2 : Rd w .u8 A2 n c2 l) :
    Calls Tryd.prog 38 #[.slice A n c, .slice A2 n c2] w fun e w' => e = .returned (.bool true) ∧ ∃ m, w' = w.drewN m := by
  have hn := hr.lt
  have R1 := Lib.hid hr
  have R2 := Lib.hid hr2
  have e0 : ((n : Int) != (n : Int)) = false := by simp
  clear hr hr2
  go_enter Tryd.func38, Tryd.ntmps38
  go_wp2_with fail
  go_loopw [5] (fun v5 wr => ∃ k : Nat, k ≤ n ∧ v5 = .int .i64 k ∧ Hid (∃ m, wr = w.drewN m)) (fun v5 _ => n - (intOf v5).toNat)
  case atStart => exact ⟨0, by omega, rfl, 0, rfl⟩
  case round =>
    obtain ⟨k, hk, rfl, Hm⟩ := hrel
    clear e0
    obtain ⟨m, rfl⟩ := Hm.out
    by_cases hlt : k < n
    · obtain ⟨b, off, rfl, hc1⟩ := R1.out.at_ (by omega)
      obtain ⟨b2, off2, rfl, hc2⟩ := R2.out.at_ (by omega)
      have h1 := hc1 k hlt
      have h2 := hc2 k hlt
      have e1 : ((nth l k : Int) != (nth l k : Int)) = false := by simp
      clear hc1 hc2 Hm
      go_wp2_with fail
      go_quiet (fail)
      go_wp2_with fail
      go_roundw
      case rel => exact ⟨k + 1, by omega, by go_num, _, rfl⟩
      case measure => simp [intOf]; omega
    · clear Hm
      go_wp2_with fail
      go_ret
      exact ⟨rfl, m, rfl⟩

set_option maxHeartbeats 400000 in
theorem sameWords_any (l : List Nat) (A A2 : Option Addr) (n c c2 : Nat) (w : World) (hr : Rd w .u64 A n c l) (hr2 : Rd w .u64 A2 n c2 l) :
    Calls Tryd.prog 39 #[.slice A n c, .slice A2 n c2] w fun e w' => e = .returned (.bool true) ∧ ∃ m, w' = w.drewN m := by
  have hn := hr.lt
  have R1 := Lib.hid hr
  have R2 := Lib.hid hr2
  have e0 : ((n : Int) != (n : Int)) = false := by simp
  clear hr hr2
  go_enter Tryd.func39, Tryd.ntmps39
  go_wp2_with fail
  go_loopw [5] (fun v5 wr => ∃ k : Nat, k ≤ n ∧ v5 = .int .i64 k ∧ Hid (∃ m, wr = w.drewN m)) (fun v5 _ => n - (intOf v5).toNat)
  case atStart => exact ⟨0, by omega, rfl, 0, rfl⟩
  case round =>
    obtain ⟨k, hk, rfl, Hm⟩ := hrel
    clear e0
    obtain ⟨m, rfl⟩ := Hm.out
    by_cases hlt : k < n
    · obtain ⟨b, off, rfl, hc1⟩ := R1.out.at_ (by omega)
      obtain ⟨b2, off2, rfl, hc2⟩ := R2.out.at_ (by omega)
      have h1 := hc1 k hlt
      have h2 := hc2 k hlt
      have e1 : ((nth l k : Int) != (nth l k : Int)) = false := by simp
      clear hc1 hc2 Hm
      go_wp2_with fail
      go_quiet (fail)
      go_wp2_with fail
      go_roundw
      case rel => exact ⟨k + 1, by omega, by go_num, _, rfl⟩
      case measure => simp [intOf]; omega
    · clear Hm
      go_wp2_with fail
      go_ret
      exact ⟨rfl, m, rfl⟩

end Go.Proofs.YtelhmddigogmgaaDoor
