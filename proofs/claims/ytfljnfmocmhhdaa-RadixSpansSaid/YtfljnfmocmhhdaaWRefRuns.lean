/-
The document's Runs of a tree of ints.
-/
import Derived.Test.YtfljnfmocmhhdaaRefRuns
import Derived.Deep.AppendLies
namespace Go.Proofs.Ytfljnfmocmhhdaa
open Go.RowKit

/-- behind k rounds -/
structure RrI (w : World) (v : Value) (L : List Run) (W : World) : Prop where
  row : W.ownsRow w.heap.size 66 3 v L.length (cellsR L)
  bel : Below w.heap.size w W

theorem RrI.append {w W w1 : World} {v v' : Value} {l : List Run} {x : Run} {m : Nat} (h : RrI w v l W) {t : TypeId} {cs : Array Value}
    (hown : w1.ownsRow w.heap.size 66 3 v' (l.length + 1) (cellsR l ++ [.int .i64 x.1, .int .i64 x.2.1, .int .i64 x.2.2])) (hg : ((W.drewN m).alloc (.cells cs t)).grownBy w1 v.ownBlock) : RrI w v' (l ++ [x]) w1 := by
  have hlt := h.row.lt
  refine ⟨?_, ?_⟩
  · rw [cellsR_append, List.length_append]
    exact hown
  · refine h.bel.trans (((((Chg.refl (fun b => v.ownBlock = some b) W).drewN m).alloc (.cells cs t)).grown hg (fun k e _ => e)).below _ h.bel.size ?_)
    intro b hb e
    have := hlt _ e
    omega

theorem runs_items (f : Nat → Int) (k : Nat) (h : f k ≠ 0) : runsOf (items f 0 0 (k + 1)) = stepR (runsOf (items f 0 0 k)) k (f k) := by
  rw [items_succ, if_pos ⟨by omega, h⟩, runsOf_snoc, Nat.zero_add]
theorem runs_items_zero (f : Nat → Int) (k : Nat) (h : f k = 0) : runsOf (items f 0 0 (k + 1)) = runsOf (items f 0 0 k) := by
  rw [items_succ, if_neg (fun e => e.2 h), List.append_nil]

set_option maxRecDepth 100000 in
set_option maxHeartbeats 4000000 in
theorem ref_runs (w : World) (q : Nat) (f : Nat → Int) (h : RefT w q f) (hr : In64 f) : Calls Try.prog 73 #[.pointer (some ⟨q, 0, none⟩)] w fun e w' => ∃ v, e = .returned v ∧
    w'.ownsRow w.heap.size 66 3 v (runsOf (items f 0 0 512)).length (cellsR (runsOf (items f 0 0 512))) ∧ Below w.heap.size w w' := by
  obtain ⟨i0, hi, hz0, hz1, hz2⟩ := info_parts info66
  have HR := Lib.hid h
  have H64 := Lib.hid hr
  clear h hr
  go_enter Try.func73, Try.ntmps73
  go_wp2_with fail
  go_loopw [3, 4] (fun v3 v4 wr => ∃ k : Nat, k ≤ 512 ∧ v4 = .int .i64 k ∧ Hid (RrI w v3 (runsOf (items f 0 0 k)) wr) ∧ Hid (RunK f k (runsOf (items f 0 0 k)))) (fun _ v4 _ => 512 - (intOf v4).toNat)
  case atStart => exact ⟨0, by omega, rfl, ⟨World.ownsRow_nil _ _ _ _, Below.refl _ _⟩, .inl ⟨rfl, .inl rfl⟩⟩
  case round =>
    obtain ⟨k, hk, rfl, HS, HK⟩ := hrel
    by_cases hlt : k < 512
    · have hc := (HR.out.below HS.out.bel).cell k hlt
      by_cases hz : f k = 0
      · have HT := HS
        have HK2 := Lib.hid (HK.out.zero hz)
        rw [← runs_items_zero f k hz] at HT HK2
        rw [hz] at hc
        clear hz HS HK
        go_wp2_with fail
        go_roundw
        case rel => exact ⟨k + 1, by omega, by go_num, HT, HK2⟩
        case measure => simp [intOf]; omega
      · have hs := runs_items f k hz
        have hz0' : (f k == 0) = false := by simpa using hz
        have hcp := fun (h0 : 0 < k) => (HR.out.below HS.out.bel).cell (k - 1) (by omega)
        have hmem : ∀ y ∈ items f 0 0 k, y.1 < 512 := fun y hy => by have := (items_mem hy).1; omega
        obtain ⟨hinv, hlen⟩ := runsOf_inv _ hmem
        have hlen2 := items_len f 0 0 k
        have hbel := HS.out.bel.size
        by_cases hg : goes f k
        · obtain ⟨m, o, p, c, hL, hst, hK2⟩ := HK.out.on hg hz
          rw [hst] at hs
          have hrow := HS.out.row
          rw [hL] at hrow hinv hlen
          have hml : (m ++ [(o, p, c)]).length = m.length + 1 := by simp
          rw [hml] at hrow hlen
          obtain ⟨A, cap, rfl, hA⟩ := own_slice hrow
          obtain ⟨g, rfl⟩ := hA (by simp)
          obtain ⟨d2, f2⟩ := own_at hrow (cellsR_last m o p c 2 (by omega))
          obtain ⟨q1, q2, q3⟩ := hinv (o, p, c) (by simp)
          simp only [if_false, (by decide : ¬ (2 = 0)), (by decide : ¬ (2 = 1))] at d2 q1 q2 q3
          have hgb := (hrow.lt g rfl).1
          have HROW := Lib.hid hrow
          obtain ⟨g1, g2, g3⟩ := hg
          have hcp1 := hcp g1
          have e1 : (f (k - 1) != 0) = true := by simpa using g2
          have e2 : (wrap64 (f (k - 1) + 1) == f k) = true := by simpa using g3
          have HE : Hid (∀ n, RrI w (.slice (some ⟨g, 0, none⟩) (m.length + 1) cap) (runsOf (items f 0 0 (k + 1))) ((wr.drewN n).setCell ⟨g, m.length * 3 + 2, none⟩ (.int .i64 (c + 1)))) := fun n => by
            rw [hs]
            refine ⟨?_, ((Below.refl _ _).trans (HS.out.bel.trans (show Below w.heap.size wr (wr.drewN n) from ⟨rfl, rfl, rfl, Nat.le_refl _, fun _ _ => rfl⟩))).setCell (p := ⟨g, m.length * 3 + 2, none⟩) hgb _⟩
            have := own_set (own_chg HROW.out ((Chg.refl (fun _ => False) wr).drewN n) (fun _ _ h => h)) (m.length * 3 + 2) (.int .i64 (c + 1))
            rw [cellsR_bump] at this
            simpa using this
          have HK3 : Hid (RunK f (k + 1) (runsOf (items f 0 0 (k + 1)))) := by rw [hs]; exact hK2
          rw [hL] at HS
          clear hz hs hcp hmem hinv hL hst hK2 hrow HROW hA hml g2 g3 HS HK
          generalize m.length = n at d2 f2 hlen HE ⊢
          go_wp2_with fail
          go_quiet (fail)
          go_wp2_with fail
          go_roundw
          case rel => exact ⟨k + 1, by omega, by go_num, HE.out _, HK3⟩
          case measure => simp [intOf]; omega
        · obtain ⟨hst, hK2⟩ := HK.out.fresh hg hz (H64.out k hlt)
          rw [hst] at hs
          generalize hL : runsOf (items f 0 0 k) = L at *
          have HK3 : Hid (RunK f (k + 1) (runsOf (items f 0 0 (k + 1)))) := by rw [hs]; exact hK2
          have HHS := Lib.hid hs
          have hLl : L.length ≤ 512 := by omega
          have hcase : (¬ 0 < k) ∨ (0 < k ∧ (f (k - 1) != 0) = false) ∨ (0 < k ∧ (f (k - 1) != 0) = true ∧ (wrap64 (f (k - 1) + 1) == f k) = false) := by
            by_cases h1 : 0 < k
            · by_cases h2 : f (k - 1) = 0
              · exact .inr (.inl ⟨h1, by simpa using h2⟩)
              · exact .inr (.inr ⟨h1, by simpa using h2, by simpa using fun h3 => hg ⟨h1, h2, h3⟩⟩)
            · exact .inl h1
          clear hz hs hmem hinv hst hK2 HK hg hlen hL
          have HROW := Lib.hid HS.out.row
          rcases hcase with h1 | ⟨h1, e1⟩ | ⟨h1, e1, e2⟩
          all_goals
            try have hcp1 := hcp h1
            clear hcp
            go_wp2_with fail
            go_quiet (fail)
            rename_i nq
            have HRq := Lib.hid (own_chg HROW.out ((Chg.refl (fun _ => False) wr).drewN nq) (fun _ _ h => h))
            go_wp2_with (at_builtin; refine wpList_append_own _ rfl _ _ 63 rfl w.heap.size 66 i0 (.agg #[.int .i64 0, .int .i64 0, .int .i64 0]) 3 24 Try.underlying63 hi hz0 hz1 hz2 rfl (by decide) _ L.length (cellsR L) rfl (HRq.out.alloc _) ⟨wr.heap.size, 0, none⟩ 1 1 [.int .i64 k, .int .i64 (f k), .int .i64 1] rfl rfl (World.news_of_block (cs := #[.int .i64 k, .int .i64 (f k), .int .i64 1]) (t := 66) (fr := (0, 0)) (heap_alloc_new (wr.drewN nq) _)) (by simp [Value.oneCell']) (by simp only [maxLen]; omega) (by omega) (by simp; omega) ?_; intro v' w1 hown' hgrow _)
            have HE := Lib.hid (HS.out.append (x := ((k : Int), f k, 1)) hown' hgrow)
            clear hown' hgrow
            go_wp2_with fail
            go_roundw
            case rel => exact ⟨k + 1, by omega, by go_num, by rw [HHS.out]; exact HE.out, HK3⟩
            case measure => simp [intOf]; omega
    · obtain rfl : 512 = k := by omega
      go_wp2_with fail
      go_ret
      exact ⟨_, rfl, HS.out.row, HS.out.bel⟩

end Go.Proofs.Ytfljnfmocmhhdaa
