/-
begin: three new trees, and the document's.
-/
import Derived.Test.YtfljnfmocmhhdaaWAsks
import Derived.Deep.RegionWith
namespace Go.Proofs.Ytfljnfmocmhhdaa
open Go.RowKit

theorem some3_upd (n : Nat) (r : Nat → Nat) (x : Nat) (i : Nat) : upd (some3 n r) n (some x) i = some3 (n + 1) (upd r n x) i := by
  unfold upd some3
  by_cases e : i = n
  · subst e; simp
  · by_cases h : i < n
    · simp only [if_neg e, if_pos h, if_pos (show i < n + 1 by omega)]
    · simp only [if_neg e, if_neg h, if_neg (show ¬ i < n + 1 by omega)]
theorem some3_upd3 (r : Nat → Nat) (d x : Nat) (hd : d < 3) (i : Nat) (hi : i < 3) : upd (some3 3 r) d (some x) i = some3 3 (upd r d x) i := by
  unfold upd some3
  by_cases e : i = d
  · subst e; simp [hd]
  · simp [e, hi]

set_option maxRecDepth 100000 in
set_option maxHeartbeats 4000000 in
theorem begin_any (w : World) : Calls Try.prog 42 #[] w fun e w' => ∃ g r q f lb, e = .returned (.tuple #[.pointer (some ⟨g, 0, none⟩), .bool true]) ∧ St w 3 g r q f lb w' := by
  have HS0 : Hid (∃ r q f lb, St w 0 w.heap.size r q f lb (w.alloc (.cells #[.pointer none, .pointer none, .pointer none, .pointer none, .pointer none, .pointer none] 84))) := by
    refine ⟨fun _ => 0, fun _ => 0, fun _ _ => 0, fun _ _ => 0, heap_alloc_new w _, ?_, ?_, ?_, Nat.le_refl _, ?_, ?_, ?_, (Below.refl _ _).alloc (Nat.le_refl _) _⟩ <;> (intro i hi; omega)
  go_enter Try.func42, Try.ntmps42
  go_wp2_with fail
  go_loopw [3] (fun v3 wr => ∃ k : Nat, k ≤ 3 ∧ v3 = .int .i64 k ∧ Hid (∃ r q f lb, St w k w.heap.size r q f lb wr)) (fun v3 _ => 3 - (intOf v3).toNat)
  case atStart => exact ⟨0, by omega, rfl, HS0⟩
  case round =>
    clear HS0
    obtain ⟨k, hk, rfl, HS⟩ := hrel
    by_cases hlt : k < 3
    · have HN := Lib.hid new_tree
      have HM := Lib.hid ref_new_tree
      obtain ⟨r, q, f, lb, hst⟩ := HS.out
      have HST := Lib.hid hst
      have HF : Hid (∀ W' : World, Below wr.heap.size wr W' → W'.cell? ⟨w.heap.size, k, none⟩ = some (.pointer none) ∧ W'.frozen? ⟨w.heap.size, k, none⟩ = false) := fun W' hb => by
        have hst2 := hst.below hb
        refine ⟨?_, hst2.free k⟩
        rw [cell_of_row W' _ _ _ _ _ hst2.blk, bothC_p _ _ k hlt, some3, if_neg (by omega)]; rfl
      clear hst HS
      go_wp2_with fail
      go_region_with (go_at_call 50; refine (HN.out _).mono ?_; rintro e W2 ⟨rfl, ht2, hb2, hs2⟩; obtain ⟨e2, f2⟩ := HF.out W2 ((Below.refl wr.heap.size wr).drew.trans hb2))
      have hz := HST.out.bel.size
      have hgl := heap_lt HST.out.blk
      have hb2' : Below wr.heap.size wr W2 := (Below.refl wr.heap.size wr).drew.trans hb2
      have hblk2 : W2.heap[w.heap.size]? = some (.cells (bothC (some3 k r) (some3 k q)) 84 (0, 0)) := (hb2'.block _ hgl).trans HST.out.blk
      have ht2' : TreeI W2 (wr.heap.size + 1) (fun _ => 0) (lbNew wr.heap.size) := ht2
      have hs2' : W2.heap.size = wr.heap.size + 2 := hs2
      obtain ⟨W3, hW3⟩ : ∃ X, W2.setCell ⟨w.heap.size, k, none⟩ (.pointer (some ⟨wr.heap.size + 1, 0, none⟩)) = X := ⟨_, rfl⟩
      have hblk3 : W3.heap[w.heap.size]? = some (.cells (bothC (some3 (k + 1) (upd r k (wr.heap.size + 1))) (some3 k q)) 84 (0, 0)) := by
        rw [← hW3, heap_setCell_same W2 _ k _ _ _ hblk2, ← opt_some, bothC_setp _ _ k hlt]
        rw [bothC_congr (fun i _ => some3_upd k r _ i) (fun i _ => rfl)]
      have hc3 : Chg (fun b => b = w.heap.size) wr W3 := by
        rw [← hW3]; exact (Chg.of_below (fun b => b = w.heap.size) hb2').setCell (p := ⟨w.heap.size, k, none⟩) (fun _ => rfl) _
      have ht3 : TreeI W3 (wr.heap.size + 1) (fun _ => 0) (lbNew wr.heap.size) := by
        rw [← hW3]
        refine ht2'.chg ((Chg.refl (fun b => b = w.heap.size) W2).setCell (p := ⟨w.heap.size, k, none⟩) (fun _ => rfl) _) (fun b hb e => by have := (lbNew_ge hb).1; omega)
      have hs3 : wr.heap.size + 2 ≤ W3.heap.size := by rw [← hW3, ← hs2']; simp
      rw [hW3]
      have HF2 : Hid (∀ W' : World, Below W3.heap.size W3 W' → W'.cell? ⟨w.heap.size, 3 + k, none⟩ = some (.pointer none) ∧ W'.frozen? ⟨w.heap.size, 3 + k, none⟩ = false) := fun W' hb => by
        have hblk' := (hb.block _ (heap_lt hblk3)).trans hblk3
        refine ⟨?_, frozen_of_row W' _ _ _ _ hblk'⟩
        rw [cell_of_row W' _ _ _ _ _ hblk', bothC_q _ _ k hlt, some3, if_neg (by omega)]; rfl
      have HB3 := Lib.hid hblk3
      have HC3 := Lib.hid hc3
      have HT3 := Lib.hid ht3
      clear hW3 hblk3 hc3 ht3 ht2 ht2' hb2 hb2' hs2 hs2' e2 f2 hblk2 HF W2
      go_wp2_with fail
      go_region_with (go_at_call 60; refine (HM.out _).mono ?_; rintro e W4 ⟨rfl, hr4, hb4, hs4⟩; obtain ⟨e4, f4⟩ := HF2.out W4 ((Below.refl W3.heap.size W3).drew.trans hb4))
      have hb4' : Below W3.heap.size W3 W4 := (Below.refl W3.heap.size W3).drew.trans hb4
      have hr4' : RefT W4 W3.heap.size (fun _ => 0) := hr4
      have hblk4 : W4.heap[w.heap.size]? = some (.cells (bothC (some3 (k + 1) (upd r k (wr.heap.size + 1))) (some3 k q)) 84 (0, 0)) := (hb4'.block _ (heap_lt HB3.out)).trans HB3.out
      obtain ⟨W5, hW5⟩ : ∃ X, W4.setCell ⟨w.heap.size, 3 + k, none⟩ (.pointer (some ⟨W3.heap.size, 0, none⟩)) = X := ⟨_, rfl⟩
      have hc5 : Chg (fun b => b = w.heap.size) W4 W5 := by
        rw [← hW5]; exact (Chg.refl (fun b => b = w.heap.size) W4).setCell (p := ⟨w.heap.size, 3 + k, none⟩) (fun _ => rfl) _
      have HE : Hid (St w (k + 1) w.heap.size (upd r k (wr.heap.size + 1)) (upd q k W3.heap.size) (upd f k (fun _ => 0)) (upd lb k (lbNew wr.heap.size)) W5) := by
        refine HST.out.put (fun i hi hne => by omega) (HC3.out.trans ((Chg.of_below (fun b => b = w.heap.size) hb4').trans hc5 (fun _ _ e => e)) (fun _ _ e => e)) ?_ ?_ ?_ (fun i _ => by omega) ?_ (by omega)
        · rw [← hW5, heap_setCell_same W4 _ (3 + k) _ _ _ hblk4, ← opt_some, bothC_setq _ _ k hlt]
          rw [bothC_congr (fun i _ => rfl) (fun i _ => some3_upd k q _ i)]
        · exact (HT3.out.below hb4').chg hc5 (fun b hb e => by have := (lbNew_ge hb).1; omega)
        · exact hr4'.chg hc5 (by omega)
        · intro b hb
          have := lbNew_ge hb
          omega
      have e5 : W5.cell? ⟨w.heap.size, k, none⟩ = some (.pointer (some ⟨wr.heap.size + 1, 0, none⟩)) := by
        rw [cell_of_row W5 _ _ _ _ _ HE.out.blk, bothC_p _ _ k hlt, some3, if_pos (by omega), upd_same]; rfl
      rw [hW5]
      clear hW5 hc5 hblk4 hr4 hr4' hb4 hb4' hs4 e4 f4 HF2 HB3 HC3 HT3
      go_wp2_with fail
      go_roundw
      case rel => exact ⟨k + 1, by omega, by go_num, _, _, _, _, HE.out⟩
      case measure => simp [intOf]; omega
    · obtain rfl : 3 = k := by omega
      obtain ⟨r, q, f, lb, hst⟩ := HS.out
      have HST := Lib.hid hst
      clear hst HS
      go_wp2_with fail
      go_ret2
      exact ⟨_, r, q, f, lb, rfl, HST.out⟩

end Go.Proofs.Ytfljnfmocmhhdaa
