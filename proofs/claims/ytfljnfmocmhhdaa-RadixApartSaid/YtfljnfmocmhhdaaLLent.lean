/-
lentIn of any short list of runs: true; nothing old is changed.
-/
import Derived.Test.YtfljnfmocmhhdaaWApp
namespace Go.Proofs.Ytfljnfmocmhhdaa
open Go.RowKit

theorem lent_row {w : World} {B n g cap : Nat} {L : List Run} {tl : List Value} (h : w.ownsRow B 66 3 (.slice (some ⟨g, 0, none⟩) (n + 3) cap) (n + 3) (cellsR L ++ tl)) (hL : L.length = n) (hn : n ≤ 512) :
    RdR w (some ⟨g, 0, none⟩) n cap L ∧ n + 3 ≤ cap ∧ cap ≤ 9223372036854775807 ∧ ∀ j u, tl[j]? = some u → w.cell? ⟨g, n * 3 + j, none⟩ = some u := by
  have hat := fun (j : Nat) (u : Value) (hj : (cellsR L ++ tl)[j]? = some u) => (own_at h hj).1
  rcases h.2 with ⟨e, _⟩ | ⟨g', cap', cur, e, hB, hg, h1, h2, h3, h4⟩
  · cases e
  · injection e with e1 e2 e3
    subst e3
    have h2' : cap ≤ 9223372036854775807 := by simpa [maxLen] using h2
    have hcl : (cellsR L).length = n * 3 := by rw [cellsR_len, hL]
    refine ⟨⟨hL, by omega, h2', by omega, .inr ⟨g, 0, rfl, fun j u hj => ?_⟩⟩, by omega, h2', fun j u hj => hat _ _ ?_⟩
    · rw [Nat.zero_add]
      exact hat j u (by rw [List.getElem?_append_left (List.getElem?_eq_some_iff.1 hj).1]; exact hj)
    · rw [List.getElem?_append_right (by omega), hcl, Nat.add_sub_cancel_left]
      exact hj

set_option maxRecDepth 100000 in
set_option maxHeartbeats 4000000 in
theorem lentIn_any (w : World) (A : Option Addr) (n c : Nat) (L : List Run) (hr : RdR w A n c L) (hA : A = none → c = 0) (hn : n ≤ 512) : Calls Try.prog 49 #[.slice A n c] w fun e w' => e = .returned (.bool true) ∧ Below w.heap.size w w' := by
  obtain ⟨i0, hi, hz0, hz1, hz2⟩ := info_parts info66
  have HS := Lib.hid (hr.src hA)
  have hL := Lib.hid hr.1
  have hnc := hr.2.1
  have hc9 := hr.2.2.1
  have HR := Lib.hid hr
  have HF1 : Hid (∀ v W, W.ownsRow w.heap.size 66 3 v (0 + n) ([] ++ cellsR L) → w.grownBy W (Value.slice none 0 0).ownBlock → Hid (W.ownsRow w.heap.size 66 3 v n (cellsR L)) ∧ Below w.heap.size w W) := fun v W ho hg => by
    rw [Nat.zero_add, List.nil_append] at ho
    refine ⟨ho, ((Chg.refl (fun _ => False) w).grown hg (fun k e _ => ?_)).below _ (Nat.le_refl _) (fun _ _ e => e)⟩
    cases e
  clear hr hA
  go_enter Try.func49, Try.ntmps49
  go_wp2_with (first | (at_builtin; refine wpList_append_src _ rfl _ _ 63 rfl w.heap.size 66 i0 (.agg #[.int .i64 0, .int .i64 0, .int .i64 0]) 3 24 Try.underlying63 hi hz0 hz1 hz2 rfl (by decide) (.slice none 0 0) 0 [] rfl (World.ownsRow_nil _ _ _ _) A n c (cellsR L) rfl HS.out (cellsR_one _) (by simp only [maxLen]; omega) (by omega) (Nat.le_refl _) ?_; intro v4 W2 hown2 hgr2; obtain ⟨HO2, HB2⟩ := HF1.out v4 W2 hown2 hgr2; clear hown2 hgr2; have hs2 := HB2.size) | (at_builtin; (refine wpList_append_own _ rfl _ _ 63 rfl w.heap.size 66 i0 (.agg #[.int .i64 0, .int .i64 0, .int .i64 0]) 3 24 Try.underlying63 hi hz0 hz1 hz2 rfl (by decide) v4 n (cellsR L) rfl (HO2.out.alloc _) ⟨W2.heap.size, 0, none⟩ 3 3 [.int .i64 71, .int .i64 0, .int .i64 0, .int .i64 72, .int .i64 0, .int .i64 0, .int .i64 73, .int .i64 0, .int .i64 0] rfl rfl (World.news_of_block (cs := #[.int .i64 71, .int .i64 0, .int .i64 0, .int .i64 72, .int .i64 0, .int .i64 0, .int .i64 73, .int .i64 0, .int .i64 0]) (t := 66) (fr := (0, 0)) (heap_alloc_new W2 _)) (by simp [Value.oneCell']) (by simp only [maxLen]; omega) (by omega) (by simp; omega) ?_); intro v5 W3 hown3 hgr3 _; (obtain ⟨g, cap, rfl⟩ := ownsRow_succ hown3); (obtain ⟨hr3, hcp, hcp2, hcl⟩ := lent_row hown3 hL.out hn); (have HB3 := Lib.hid (below_grown HO2.out hs2 hgr3)); have HR3 := Lib.hid hr3; have HCL := Lib.hid hcl; clear hown3 hgr3 hr3 hcl))
  refine (load_any L _ n cap W3 HR3.out).mono ?_
  rintro e W4 ⟨hb4, hlo⟩
  have HB4 := Lib.hid (below_lift (HB2.trans HB3.out) hb4)
  have HS4 := Lib.hid (sameRuns_yes L _ _ n cap c W4 (HR3.out.below hb4) (HR.out.below HB4.out))
  have HC4 : Hid (∀ W5, Below W4.heap.size W4 W5 → ∀ j u, ([.int .i64 71, .int .i64 0, .int .i64 0, .int .i64 72, .int .i64 0, .int .i64 0, .int .i64 73, .int .i64 0, .int .i64 0] : List Value)[j]? = some u → W5.cell? ⟨g, n * 3 + j, none⟩ = some u) := fun W5 hb5 j u hj => cell_below hb5 (cell_below hb4 (HCL.out j u hj))
  have hv : ∃ v, e = .returned v := by
    rcases hlo with ⟨_, rfl⟩ | ⟨_, _, _, _, rfl, _⟩ <;> exact ⟨_, rfl⟩
  obtain ⟨v, rfl⟩ := hv
  clear hlo hb4 HB3 HR3 HCL HR HS HO2 HB2
  go_wp2_with fail
  refine HS4.out.mono ?_
  rintro e W5 ⟨rfl, hb5⟩
  have HB5 := Lib.hid (below_lift HB4.out hb5)
  have c0 : W5.cell? ⟨g, n * 3, none⟩ = some (.int .i64 71) := by have := HC4.out W5 hb5 0 _ rfl; rwa [show n * 3 + 0 = n * 3 by omega] at this
  have c1 : W5.cell? ⟨g, n * 3 + 1, none⟩ = some (.int .i64 0) := by have := HC4.out W5 hb5 1 _ rfl; rwa [show n * 3 + 1 = n * 3 + 1 by omega] at this
  have c2 : W5.cell? ⟨g, n * 3 + 2, none⟩ = some (.int .i64 0) := by have := HC4.out W5 hb5 2 _ rfl; rwa [show n * 3 + 2 = n * 3 + 2 by omega] at this
  have c3 : W5.cell? ⟨g, (n + 1) * 3, none⟩ = some (.int .i64 72) := by have := HC4.out W5 hb5 3 _ rfl; rwa [show n * 3 + 3 = (n + 1) * 3 by omega] at this
  have c4 : W5.cell? ⟨g, (n + 1) * 3 + 1, none⟩ = some (.int .i64 0) := by have := HC4.out W5 hb5 4 _ rfl; rwa [show n * 3 + 4 = (n + 1) * 3 + 1 by omega] at this
  have c5 : W5.cell? ⟨g, (n + 1) * 3 + 2, none⟩ = some (.int .i64 0) := by have := HC4.out W5 hb5 5 _ rfl; rwa [show n * 3 + 5 = (n + 1) * 3 + 2 by omega] at this
  have c6 : W5.cell? ⟨g, (n + 2) * 3, none⟩ = some (.int .i64 73) := by have := HC4.out W5 hb5 6 _ rfl; rwa [show n * 3 + 6 = (n + 2) * 3 by omega] at this
  have c7 : W5.cell? ⟨g, (n + 2) * 3 + 1, none⟩ = some (.int .i64 0) := by have := HC4.out W5 hb5 7 _ rfl; rwa [show n * 3 + 7 = (n + 2) * 3 + 1 by omega] at this
  have c8 : W5.cell? ⟨g, (n + 2) * 3 + 2, none⟩ = some (.int .i64 0) := by have := HC4.out W5 hb5 8 _ rfl; rwa [show n * 3 + 8 = (n + 2) * 3 + 2 by omega] at this
  clear hb5 HC4 HS4 HB4
  go_wp2_with fail
  go_ret
  exact ⟨rfl, HB5.out⟩

end Go.Proofs.Ytfljnfmocmhhdaa
