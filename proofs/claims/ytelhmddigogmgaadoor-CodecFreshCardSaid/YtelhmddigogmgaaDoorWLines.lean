/-
What Lines of package codec computes.
-/
import Derived.Test.YtelhmddigogmgaaDoorWLine
import Derived.Test.YtelhmddigogmgaaDoorWFix
import Derived.Deep.AppendLies
namespace Go.Proofs.YtelhmddigogmgaaDoor
open Go.RowKit

theorem info33 : (Tryd.prog.info? 33).map (fun i => (i.zero, i.size, i.bytes)) = some (some (.agg (u8s (List.replicate 64 0))), 64, 64) := by kernel_rfl
theorem size5 : (Tryd.prog.info? 5).map (·.size) = some 1 := by kernel_rfl
theorem Rd.range {W : World} {A : Option Addr} {n c b off : Nat} {l : List Nat} (h : Rd W .u8 A n c l) (hA : A = some ⟨b, off, none⟩) (lo m : Nat) (hm : lo + m ≤ n) : W.rangeAt b (off + lo) (vals .u8 ((l.drop lo).take m)) := by
  intro j v hv
  have hj : j < m ∧ j < l.length - lo := by
    have := (List.getElem?_eq_some_iff.1 hv).1
    simp [vals] at this
    omega
  rcases h.2.2.2.2 with h0 | ⟨b', off', hA', hc⟩
  · have := h.le; omega
  · rw [hA'] at hA
    cases hA
    have h1 := hc (lo + j) (by omega)
    rw [vals_get _ _ _ (by simp; omega)] at hv
    rw [Nat.add_assoc, h1, ← hv, nth_take _ _ _ hj.1, nth_drop]
theorem vals_one (k : IntKind) (l : List Nat) : ∀ u ∈ vals k l, u.oneCell' = true := by
  intro u hu
  simp only [vals, List.mem_map] at hu
  obtain ⟨x, _, rfl⟩ := hu
  rfl

theorem array_at (b o c : Nat) : ∀ W : World, (Instr.arrayAt 33 (.slice (some ⟨b, o, none⟩) 64 c)).run Tryd.prog W = .ok (.pointer (some ⟨b, o, none⟩)) W := by
  intro W
  simp [Instr.arrayAt, run_underlying Tryd.underlying33]

/-- a row built of a whole line's cells, as the walk spells it -/
theorem fold_cells (vs : List Value) : ∀ (k : Nat) (cs : Array Value), k + vs.length ≤ cs.size →
    (List.foldl (fun (cs : Array Value) (x : Value × Nat) => cs.setIfInBounds x.snd x.fst) cs (vs.zipIdx k)).toList = cs.toList.take k ++ vs ++ cs.toList.drop (k + vs.length) := by
  induction vs with
  | nil => intro k cs _; simp
  | cons v vs ih =>
    intro k cs h
    simp only [List.length_cons] at h
    rw [List.zipIdx_cons, List.foldl_cons, ih (k + 1) _ (by simp; omega)]
    simp only [Array.toList_setIfInBounds]
    apply List.ext_getElem?
    intro i
    simp only [List.getElem?_append, List.length_take, List.length_set, List.length_append, List.length_cons, Array.length_toList, List.getElem?_take, List.getElem?_set, List.getElem?_drop, List.getElem?_cons]
    have h1 : min (k + 1) cs.size = k + 1 := by omega
    have h2 : min k cs.size = k := by omega
    rw [h1, h2]
    by_cases c1 : i < k
    · simp [c1, show i < k + 1 by omega, show i < k + 1 + vs.length by omega, show i < k + (vs.length + 1) by omega, show k ≠ i by omega]
    · by_cases c2 : i = k
      · subst c2
        simp [show i < i + 1 + vs.length by omega, show i < cs.size by omega]
      · by_cases c3 : i < k + 1 + vs.length
        · simp [c1, show ¬ i < k + 1 by omega, c3, show i < k + (vs.length + 1) by omega, show i - k ≠ 0 by omega, show i - (k + 1) = i - k - 1 by omega]
        · have e1 : ¬ i < k + (vs.length + 1) := by omega
          have e2 : k + 1 + vs.length + (i - (k + 1 + vs.length)) = i := by omega
          have e3 : k + (vs.length + 1) + (i - (k + (vs.length + 1))) = i := by omega
          have e4 : ¬ k = i := by omega
          simp [c3, e1, e2, e3, e4]
theorem fold_line (seg : List Nat) (h : seg.length = 64) :
    List.foldl (fun (cs : Array Value) (x : Value × Nat) => cs.setIfInBounds x.snd x.fst) (u8s (List.replicate 64 0)) (vals .u8 seg).zipIdx = (vals .u8 seg).toArray := by
  apply Array.ext'
  have e := fold_cells (vals .u8 seg) 0 (u8s (List.replicate 64 0)) (by rw [vals_len, u8s_size]; simp [h])
  rw [e, vals_len, h]
  have hz : (u8s (List.replicate 64 0)).toList.length ≤ 64 := by rw [Array.length_toList, u8s_size, List.length_replicate]; exact Nat.le_refl _
  generalize (u8s (List.replicate 64 0)).toList = z at hz
  simp [List.drop_eq_nil_of_le hz]

set_option maxHeartbeats 1000000 in
theorem lines_no (A : Option Addr) (n c : Nat) (w : World) (hn : n ≤ 140737488355328) (h : n % 64 ≠ 0) :
    Calls Tryd.prog 34 #[.slice A n c] w fun e w' => e = .returned (.tuple #[.slice none 0 0, .int .i64 20]) ∧ w = w' := by
  have h1 : (((n : Int) % 64) != 0) = true := by simp; omega
  clear h
  go_enter Tryd.func34, Tryd.ntmps34
  go_wp2_with fail
  go_ret2
  exact ⟨rfl, rfl⟩

set_option maxRecDepth 100000 in
set_option maxHeartbeats 1000000 in
theorem lines_yes (l : List Nat) (A : Option Addr) (n c q : Nat) (w : World) (hr : Rd w .u8 A n c l) (hq : n = 64 * q) :
    Calls Tryd.prog 34 #[.slice A n c] w fun e w' => ∃ v, e = .returned (.tuple #[v, .int .i64 0]) ∧ w'.ownsRow w.heap.size 33 64 v q (vals .u8 l) ∧ Below w.heap.size w w' := by
  have hn := hr.lt
  have hc := hr.le
  have h1 : (((n : Int) % 64) != 0) = false := by simp; omega
  have h2 : (n : Int) / 64 = (q : Int) := by omega
  have hq1 : 64 * q ≤ n := by omega
  have hq2 : n ≤ 64 * q := by omega
  have Hr := Lib.hid hr
  have Hq := Lib.hid hq
  obtain ⟨i0, hi, hz0, hz1, hz2⟩ := info_parts info33
  have Hz0 := Lib.hid hz0
  have hu := Tryd.underlying33
  clear hr hq hz0
  go_enter Tryd.func34, Tryd.ntmps34
  go_wp2_with (refine wpList_make_own _ rfl _ _ 51 rfl w.heap.size 33 i0 (.agg (u8s (List.replicate 64 0))) 64 Tryd.underlying51 hi Hz0.out hz1 .i64 .i64 _ q rfl rfl rfl (by rw [hz2]; omega) (by simp only [maxLen]; omega) (Nat.le_refl _) ?_; intro w1 hown hg)
  have hb1 : Below w.heap.size w w1 := (Below.refl _ _).grown hg (Nat.le_refl _) (fun k e => by cases e)
  have HB1 := Lib.hid hb1
  have HO := Lib.hid hown
  clear hown hg hb1
  go_loopw [4, 5] (fun v4 v5 wr => ∃ k : Nat, k ≤ q ∧ v5 = .int .i64 (64 * (k : Int)) ∧ wr.ownsRow w.heap.size 33 64 v4 k (vals .u8 (l.take (64 * k))) ∧ Below w.heap.size w wr) (fun _ v5 _ => 64 * q - (intOf v5).toNat)
  case atStart => exact ⟨0, by omega, rfl, by simpa [vals] using HO.out, HB1.out⟩
  case round =>
    obtain ⟨k, hk, rfl, hown, hbel⟩ := hrel
    have Hown := Lib.hid hown
    have Hbel := Lib.hid hbel
    clear hown hbel
    by_cases hlt : k < q
    · have hR := Hr.out.below Hbel.out
      obtain ⟨b, off, rfl, _⟩ := hR.at_ (by omega)
      have f1 := run_sliceBoth (A := some ⟨b, off, none⟩) (n := n) (c := c) Tryd.underlying23 size5 (64 * k) (64 * k + 64) (by omega) (by omega)
      rw [adv_some _ _ _ _ (by omega), show 64 * k + 64 - 64 * k = 64 from by omega, show ((64 * k : Nat) : Int) = 64 * (k : Int) from by simp, show ((64 * k + 64 : Nat) : Int) = 64 * (k : Int) + 64 from by simp] at f1
      have hrg := hR.range rfl (64 * k) 64 (by omega)
      have hsl : ((l.drop (64 * k)).take 64).length = 64 := by have := Hr.out.len; simp; omega
      have hsz : (Tryd.prog.info? 33).map (·.size) = some (vals .u8 ((l.drop (64 * k)).take 64)).length := by rw [vals_len, hsl]; exact size33
      have HS : Hid (l.take (64 * (k + 1)) = l.take (64 * k) ++ (l.drop (64 * k)).take 64) := by
        unfold Hid
        rw [show 64 * (k + 1) = 64 * k + 64 from by omega, List.take_add]
      have hs := Hbel.out.size
      have ht : 64 * (k : Int) < (n : Int) := by omega
      have hat := array_at b (off + 64 * k) (c - 64 * k)
      have Hsl := Lib.hid hsl
      have hfold := fold_line _ hsl
      have hvl : (vals .u8 ((l.drop (64 * k)).take 64)).length = 64 := by rw [vals_len, hsl]
      rw [zero64] at hfold
      clear hR hsl
      generalize (l.drop (64 * k)).take 64 = seg at *
      go_wp2_with (first | (refine wpList_load_mid rfl 33 (.tmp 26) rfl b (off + 64 * k) rfl (vals .u8 seg) _ hrg hu rfl hsz ?_) | (at_builtin; go_loud (refine wpList_append_own _ rfl _ _ 51 rfl w.heap.size 33 i0 (.agg (u8s (List.replicate 64 0))) 64 64 Tryd.underlying51 hi Hz0.out hz1 hz2 (by rw [Value.cells, u8s_size]; simp) (by decide) _ k _ rfl (Hown.out.alloc _) ⟨wr.heap.size, 0, none⟩ 1 1 (vals .u8 seg) rfl (by rw [vals_len, Hsl.out]) (World.news_of_block (cs := (vals .u8 seg).toArray) (t := 33) (fr := (0, 0)) (heap_alloc_new wr _)) (vals_one _ _) (by simp only [maxLen]; omega) (by omega) (by simp; omega) ?_); intro v2 w2 hown2 hg2 _))
      have hb2 : Below w.heap.size w w2 := (Hbel.out.alloc hs _).grown hg2 (by simp; omega) (fun b hb => (Hown.out.lt b hb).1)
      have hown3 : w2.ownsRow w.heap.size 33 64 v2 (k + 1) (vals .u8 (l.take (64 * (k + 1)))) := by
        rw [HS.out, vals_append]; exact hown2
      have H2 := Lib.hid hb2
      have H3 := Lib.hid hown3
      clear hb2 hown3 hown2 hg2
      go_wp2_with fail
      go_roundw
      case rel => exact ⟨k + 1, by omega, by go_num, H3.out, H2.out⟩
      case measure => simp [intOf]; omega
    · obtain rfl : k = q := by omega
      have ht : ¬ 64 * (k : Int) < (n : Int) := by omega
      have H9 := Hown.out
      rw [← Hq.out, ← Hr.out.len, List.take_length] at H9
      have H9 := Lib.hid H9
      go_wp2_with fail
      go_ret2
      exact ⟨_, rfl, H9.out, Hbel.out⟩

end Go.Proofs.YtelhmddigogmgaaDoor
