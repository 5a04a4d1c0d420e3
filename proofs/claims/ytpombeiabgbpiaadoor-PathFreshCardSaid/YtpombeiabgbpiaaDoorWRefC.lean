/-
The document's Clean: what it makes of a path is what the program makes.
-/
import Derived.Test.YtpombeiabgbpiaaDoorWClean
import Derived.Test.YtpombeiabgbpiaaDoorWPlain
namespace Go.Proofs.YtpombeiabgbpiaaDoor
open Go.RowKit

set_option maxRecDepth 100000 in
set_option maxHeartbeats 4000000 in
theorem refClean_any (w : World) (v : Value) (l : List ByteArray) (sl : Bool) (hr : RdS w v l) (hlen : l.length ≤ 8796093022207) :
    Calls Tryd.prog 48 #[.agg #[v, .bool sl]] w fun e w' => ∃ u, e = .returned (.agg #[u, .bool (clS l sl)]) ∧ RdS w' u (clF [] l) ∧ Below w.heap.size w w' := by
  obtain ⟨i0, hi, hz0, hz1, hz2⟩ := info_parts info9
  obtain ⟨A, c, rfl, h1, h2, h3⟩ := hr
  have HR := Lib.hid h3
  have hcm : c ≤ 9223372036854775807 := maxLen_eq ▸ h2
  obtain ⟨n, hn⟩ : ∃ n, l.length = n := ⟨_, rfl⟩
  have HL := Lib.hid hn
  rw [hn] at h1 hlen ⊢
  have HS0 : Hid (ClSt w (.slice A n c) sl [] (.slice none 0 0) ((w.alloc (.cells #[.slice A n c, .bool sl] 25)).alloc (.cells #[.slice none 0 0, .bool false] 25))) := by
    refine Lib.hid ⟨World.ownsRow_nil _ _ _ _, (Below.heap_alloc _ _ _ (by simp)).trans (heap_alloc_new w _), ?_, ((Below.refl _ _).alloc (Nat.le_refl _) _).alloc (by simp) _⟩
    simpa using heap_alloc_new (w.alloc (.cells #[.slice A n c, .bool sl] 25)) (.cells #[.slice none 0 0, .bool false] 25)
  obtain ⟨C, hC⟩ : ∃ C, clF [] l = C := ⟨_, rfl⟩
  obtain ⟨S, hS⟩ : ∃ S, clS l sl = S := ⟨_, rfl⟩
  have HC := Lib.hid hC
  have HS := Lib.hid hS
  rw [hC, hS]
  clear h3 h2 hn hC hS
  go_enter Tryd.func48, Tryd.ntmps48
  go_wp2_with fail
  go_loopw [3, 4] (fun v3 v4 wr => ∃ k : Nat, k ≤ n ∧ v4 = .int .i64 k ∧ Hid (∃ st, ClSt w (.slice A n c) sl st v3 wr ∧ clF st (l.drop k) = C ∧ st.length ≤ k)) (fun _ v4 _ => n - (intOf v4).toNat)
  case atStart => exact ⟨0, by omega, rfl, Lib.hid ⟨[], HS0.out, HC.out, by simp⟩⟩
  case round =>
    clear HS0
    obtain ⟨k, hk, rfl, HX⟩ := hrel
    obtain ⟨st, hst, hcl, hsl⟩ := HX.out
    clear HX
    obtain ⟨A3, c3, rfl⟩ := own_form hst.row
    have HST := Lib.hid hst
    have hbl := hst.bel.size
    have d0 := cell_of_row _ _ 0 _ _ _ hst.b1
    have d1 := cell_of_row _ _ 1 _ _ _ hst.b1
    simp only [List.getElem?_toArray, List.getElem?_cons_zero, List.getElem?_cons_succ] at d0 d1
    have hb2l := heap_lt hst.b2
    by_cases hlt : k < n
    · obtain ⟨b, off, rfl, hbw, hh⟩ := HR.out (by rw [HL.out]; omega)
      obtain ⟨s, hs⟩ : ∃ s, l[k]? = some s := ⟨_, List.getElem?_eq_getElem (by rw [HL.out]; exact hlt)⟩
      have hdr : l.drop k = s :: l.drop (k + 1) := by
        have := List.getElem?_eq_some_iff.1 hs
        rw [List.drop_eq_getElem_cons this.1, this.2]
      rw [hdr] at hcl
      have e0 := cell_below hst.bel (hh k s hs)
      clear hh hs hdr hst
      by_cases hs2 : s = dot2
      · subst hs2
        unfold dot2 at e0
        rcases List.eq_nil_or_concat st with rfl | ⟨st', z, rfl⟩
        · rw [clF, if_neg (fun h => h.2 rfl), if_pos (.inl rfl)] at hcl
          have HX := Lib.hid (show ∃ st, ClSt w (.slice (some ⟨b, off, none⟩) n c) sl st (.slice A3 0 c3) wr ∧ clF st (l.drop (k + 1)) = C ∧ st.length ≤ k + 1 from ⟨[], HST.out, hcl, by simp⟩)
          clear hcl HST
          simp only [List.length_nil] at *
          go_wp2_with fail
          all_goals exact ⟨⟨k + 1, by omega, by go_num, HX⟩, by simp [intOf]; omega⟩
        · rw [List.concat_eq_append] at *
          have hlz : (st' ++ [z]).length = st'.length + 1 := by simp
          rw [hlz] at hsl
          rw [clF, if_pos ⟨rfl, by simp⟩, List.dropLast_concat] at hcl
          have hrow := HST.out.row
          rw [hlz] at hrow
          obtain ⟨g3, c3', e3⟩ := ownsRow_succ hrow
          injection e3 with e3 _ e4
          subst e3 e4
          have hrow2 := own_pop hrow
          rw [List.dropLast_concat] at hrow2
          have HX := Lib.hid (show ∃ st, ClSt w (.slice (some ⟨b, off, none⟩) n c) sl st (.slice (some ⟨g3, 0, none⟩) st'.length c3) wr ∧ clF st (l.drop (k + 1)) = C ∧ st.length ≤ k + 1 from ⟨st', { HST.out with row := hrow2 }, hcl, by omega⟩)
          have hc3 : st'.length + 1 ≤ c3 ∧ c3 ≤ 9223372036854775807 := by
            rcases hrow.2 with ⟨h, _⟩ | ⟨_, _, _, h, _, _, h1, h2, _⟩
            · cases h
            · injection h with _ _ h
              subst h
              exact ⟨h1, maxLen_eq ▸ h2⟩
          obtain ⟨hc31, hc32⟩ := hc3
          clear hcl HST hrow hrow2
          rw [hlz]
          go_wp2_with fail
          all_goals exact ⟨⟨k + 1, by omega, by go_num, HX⟩, by simp [intOf]; omega⟩
      · by_cases hs1 : s = dot1
        · subst hs1
          have hd : ¬ dot1 = dot2 := by decide
          unfold dot1 at e0
          rw [clF, if_neg (fun h => hd h.1), if_pos (.inr rfl)] at hcl
          have HX := Lib.hid (show ∃ st', ClSt w (.slice (some ⟨b, off, none⟩) n c) sl st' (.slice A3 st.length c3) wr ∧ clF st' (l.drop (k + 1)) = C ∧ st'.length ≤ k + 1 from ⟨st, HST.out, hcl, by omega⟩)
          clear hcl HST
          go_wp2_with fail
          all_goals exact ⟨⟨k + 1, by omega, by go_num, HX⟩, by simp [intOf]; omega⟩
        · have q1 : (s.toList == [46]) = false := ne_lit hs1
          have q2 : (s.toList == [46, 46]) = false := ne_lit hs2
          rw [clF, if_neg (fun h => hs2 h.1), if_neg (fun h => h.elim hs2 hs1)] at hcl
          have HCL := Lib.hid hcl
          clear hcl
          go_wp2_with (at_builtin; refine wpList_append_own_at _ rfl _ _ 23 rfl (w.heap.size + 1 + 1) 9 i0 (.string ByteArray.empty) 1 16 Tryd.underlying23 hi hz0 hz1 hz2 rfl (by decide) _ st.length _ rfl (HST.out.row.alloc _) ⟨wr.heap.size, 0, none⟩ 1 1 [.string s] rfl rfl (World.news_of_block (cs := #[.string s]) (t := 9) (fr := (0, 0)) (heap_alloc_new wr _)) (by simp [Value.oneCell']) (by rw [maxLen_eq]; omega) (by omega) (by simp; omega) ?_; intro v2 w2 hown2 hg2 _ hloc)
          have hlt3 := HST.out.row.lt
          have hch : Chg (fun b => (Value.slice A3 st.length c3).ownBlock = some b) wr w2 := ((Chg.refl (fun b => (Value.slice A3 st.length c3).ownBlock = some b) wr).alloc _).grown hg2 (fun k e _ => e)
          have HX := Lib.hid (show ∃ st', ClSt w (.slice (some ⟨b, off, none⟩) n c) sl st' v2 w2 ∧ clF st' (l.drop (k + 1)) = C ∧ st'.length ≤ k + 1 from
            ⟨st ++ [s], ⟨by rw [List.length_append, List.map_append]; exact hown2, hch.heap HST.out.b1 (fun e => by have := (hlt3 _ e).1; omega), hch.heap HST.out.b2 (fun e => by have := (hlt3 _ e).1; omega), HST.out.bel.trans (hch.below _ hbl (fun b hb e => by have := (hlt3 _ e).1; omega))⟩, HCL.out, by simp; omega⟩)
          clear hown2 hg2 hloc hch hlt3
          go_wp2_with fail
          all_goals exact ⟨⟨k + 1, by omega, by go_num, HX⟩, by simp [intOf]; omega⟩
    · obtain rfl : k = n := by omega
      rw [List.drop_eq_nil_of_le (by rw [HL.out]; exact Nat.le_refl _), clF] at hcl
      subst hcl
      have HCH : Hid (∀ o x y, Chg (fun b => b = w.heap.size + 1) wr (((wr.setCell ⟨w.heap.size + 1, 0, none⟩ x).setCell ⟨w.heap.size + 1, 1, none⟩ y).alloc o)) := Lib.hid (fun o x y =>
        (((Chg.refl (fun b => b = w.heap.size + 1) wr).setCell (p := ⟨w.heap.size + 1, 0, none⟩) (fun _ => rfl) _).setCell (p := ⟨w.heap.size + 1, 1, none⟩) (fun _ => rfl) _).alloc o)
      have HX : Hid (∀ o x y, (((wr.setCell ⟨w.heap.size + 1, 0, none⟩ x).setCell ⟨w.heap.size + 1, 1, none⟩ y).alloc o).heap[w.heap.size + 1]? = some (.cells #[x, y] 25 (0, 0))) := Lib.hid (fun o x y => ((Chg.refl (fun _ => False) _).alloc o).heap (set_path _ _ x y _ _ _ HST.out.b2) (fun h => h))
      have HRD := Lib.hid (RdS.of_own HST.out.row)
      have HOB : Hid (∀ b off n c, (.slice A3 st.length c3 : Value) = .slice (some ⟨b, off, none⟩) n c → w.heap.size + 1 + 1 ≤ b ∧ b < wr.heap.size) := Lib.hid (fun b off n c e => by
        rcases HST.out.row.2 with ⟨h, _⟩ | ⟨g, cap, cur, h, hb, hg, _⟩
        · rw [h] at e; cases e
        · rw [h] at e
          injection e with e
          injection e with e
          injection e with e
          subst e
          exact ⟨hb, heap_lt hg⟩)
      have g0 := cell_of_row _ _ 0 _ _ _ hst.b2
      have g1 := cell_of_row _ _ 1 _ _ _ hst.b2
      simp only [List.getElem?_toArray, List.getElem?_cons_zero, List.getElem?_cons_succ] at g0 g1
      have f0 := frozen_of_row _ _ 0 _ _ hst.b2
      have f1 := frozen_of_row _ _ 1 _ _ hst.b2
      have hb1l := heap_lt hst.b1
      have hSS := HS.out
      unfold clS at hSS
      rw [HC.out] at hSS
      clear HS HC hst
      rcases Nat.eq_zero_or_pos st.length with h0 | h0
      · obtain rfl := List.length_eq_zero_iff.1 h0
        obtain rfl : S = false := by rw [← hSS]; rfl
        simp only [List.length_nil] at *
        clear hSS
        go_wp2_with fail
        refine bodyPost_ret (path_res (f := Tryd.f48) (j := 2) Tryd.results48 rfl (HX.out _ _ _)) rfl ?_
        exact ⟨_, rfl, ⟨none, 0, rfl, by simp, by simp [maxLen], fun h => absurd h (by simp)⟩, HST.out.bel.trans ((HCH.out _ _ _).below _ hbl (fun b hb h => by omega))⟩
      · obtain ⟨m, hm⟩ : ∃ m, st.length = m + 1 := ⟨st.length - 1, by omega⟩
        have hk0 : 0 < k := by omega
        obtain ⟨b, off, rfl, hbw, hh⟩ := HR.out (by rw [HL.out]; omega)
        obtain ⟨s, hs⟩ : ∃ s, l[k - 1]? = some s := ⟨_, List.getElem?_eq_getElem (by rw [HL.out]; omega)⟩
        have e0 := cell_below HST.out.bel (hh (k - 1) s hs)
        have hbwr : b < wr.heap.size := Nat.lt_of_lt_of_le hbw HST.out.bel.size
        have hlast : l.getLastD ByteArray.empty = s := by
          rw [List.getLastD_eq_getLast?, List.getLast?_eq_getElem?, HL.out, hs]; rfl
        have hem : st.isEmpty = false := by cases st with
          | nil => simp at hm
          | cons a l => rfl
        rw [hem, hlast] at hSS
        rw [hm]
        rw [hm] at HOB
        have HRD : Hid (RdS wr (.slice A3 (m + 1) c3) st) := by have := HRD.out; rw [hm] at this; exact Lib.hid this
        have hm0 : (((m : Int) + 1) == 0) = false := by rw [beq_eq_false_iff_ne]; omega
        clear hh hs hlast hem hsl h0 hm
        by_cases hs1 : s = dot1
        · subst hs1
          obtain rfl : S = true := by rw [← hSS]; cases sl <;> rfl
          unfold dot1 at e0
          clear hSS
          go_wp2_with fail
          refine bodyPost_ret (path_res (f := Tryd.f48) (j := 2) Tryd.results48 rfl (HX.out _ _ _)) rfl ?_
          exact ⟨_, rfl, HRD.out.chg (HCH.out _ _ _) (fun b off n c e h => by have := HOB.out b off n c e; omega), HST.out.bel.trans ((HCH.out _ _ _).below _ hbl (fun b hb h => by omega))⟩
        · by_cases hs2 : s = dot2
          · subst hs2
            obtain rfl : S = true := by rw [← hSS]; cases sl <;> rfl
            unfold dot2 at e0
            clear hSS
            go_wp2_with fail
            refine bodyPost_ret (path_res (f := Tryd.f48) (j := 2) Tryd.results48 rfl (HX.out _ _ _)) rfl ?_
            exact ⟨_, rfl, HRD.out.chg (HCH.out _ _ _) (fun b off n c e h => by have := HOB.out b off n c e; omega), HST.out.bel.trans ((HCH.out _ _ _).below _ hbl (fun b hb h => by omega))⟩
          · have q1 : (s.toList == [46]) = false := ne_lit hs1
            have q2 : (s.toList == [46, 46]) = false := ne_lit hs2
            obtain rfl : S = sl := by rw [← hSS]; simp [isD, hs1, hs2]
            clear hSS hs1 hs2
            go_wp2_with fail
            refine bodyPost_ret (path_res (f := Tryd.f48) (j := 2) Tryd.results48 rfl (HX.out _ _ _)) rfl ?_
            exact ⟨_, rfl, HRD.out.chg (HCH.out _ _ _) (fun b off n c e h => by have := HOB.out b off n c e; omega), HST.out.bel.trans ((HCH.out _ _ _).below _ hbl (fun b hb h => by omega))⟩

end Go.Proofs.YtpombeiabgbpiaaDoor
