/-
Rows of texts that can be written over; Clean's contract with its row. (The last theorem is printed by gen_cleanr.py out of WClean.)
-/
import Derived.Test.YtpombeiabgbpiaaDoorWClean
import Derived.Test.YtpombeiabgbpiaaDoorWPlain
import Derived.WalkMore
namespace Go.Proofs.YtpombeiabgbpiaaDoor
open Go.RowKit

/-- a block whose first cells are these, and that can be written -/
def RowW (W : World) (g : Nat) (L : List Value) : Prop := ∃ cur, W.heap[g]? = some (.cells cur 9 (0, 0)) ∧ cur.toList.take L.length = L
theorem RowW.set {W : World} {g i : Nat} {L : List Value} (h : RowW W g L) (v : Value) : RowW (W.setCell ⟨g, i, none⟩ v) g (L.set i v) := by
  obtain ⟨cur, h1, h2⟩ := h
  refine ⟨cur.setIfInBounds i v, heap_setCell_same _ _ i _ _ v h1, ?_⟩
  rw [List.length_set, Array.toList_setIfInBounds, List.take_set, h2]
theorem RowW.below {W W' : World} {g : Nat} {L : List Value} (h : RowW W g L) (hb : Below W.heap.size W W') : RowW W' g L := by
  obtain ⟨cur, h1, h2⟩ := h
  exact ⟨cur, (hb.block _ (heap_lt h1)).trans h1, h2⟩
theorem RowW.chg {D : Nat → Prop} {W W' : World} {g : Nat} {L : List Value} (h : RowW W g L) (hc : Chg D W W') (hn : ¬ D g) : RowW W' g L := by
  obtain ⟨cur, h1, h2⟩ := h
  exact ⟨cur, hc.heap h1 hn, h2⟩
theorem RowW.at {W : World} {g : Nat} {L : List Value} (h : RowW W g L) {i : Nat} {v : Value} (hi : L[i]? = some v) : W.cell? ⟨g, i, none⟩ = some v ∧ W.frozen? ⟨g, i, none⟩ = false ∧ g < W.heap.size := by
  obtain ⟨cur, h1, h2⟩ := h
  refine ⟨?_, frozen_of_row _ _ _ _ _ h1, heap_lt h1⟩
  rw [cell_of_row _ _ _ _ _ _ h1]
  rw [← h2, List.getElem?_take] at hi
  split at hi
  · rw [← Array.getElem?_toList]; exact hi
  · cases hi
theorem RowW.rds {W : World} {g c : Nat} {l : List ByteArray} (h : RowW W g (l.map vS)) (h1 : l.length ≤ c) (h2 : c ≤ maxLen) : RdS W (.slice (some ⟨g, 0, none⟩) l.length c) l :=
  ⟨_, c, rfl, h1, h2, fun h0 => ⟨g, 0, rfl, by obtain ⟨cur, k, _⟩ := h; exact heap_lt k, fun i s hs => by
    rw [Nat.zero_add]
    exact (h.at (i := i) (v := vS s) (by rw [List.getElem?_map, hs]; rfl)).1⟩⟩
theorem RowW.of_own {W : World} {B g n cap : Nat} {xs : List Value} (h : W.ownsRow B 9 1 (.slice (some ⟨g, 0, none⟩) n cap) n xs) : RowW W g xs := by
  have hl := h.1
  rcases h.2 with ⟨h, _⟩ | ⟨g', cap', cur, hv, hb, hg, _, _, _, h4⟩
  · cases h
  · injection hv with e1
    injection e1 with e1
    injection e1 with e1
    subst e1
    refine ⟨cur, hg, ?_⟩
    rw [hl]; exact h4
theorem own_set {W : World} {B g n cap i : Nat} {e : TypeId} {xs : List Value} (h : W.ownsRow B e 1 (.slice (some ⟨g, 0, none⟩) n cap) n xs) (v : Value) : (W.setCell ⟨g, i, none⟩ v).ownsRow B e 1 (.slice (some ⟨g, 0, none⟩) n cap) n (xs.set i v) := by
  refine ⟨by rw [List.length_set]; exact h.1, .inr ?_⟩
  rcases h.2 with ⟨h, _⟩ | ⟨g', cap', cur, hv, hb, hg, h1, h2, h3, h4⟩
  · cases h
  · injection hv with e1 _ e3
    injection e1 with e1
    injection e1 with e1
    subst e1 e3
    refine ⟨g, cap, cur.setIfInBounds i v, rfl, hb, heap_setCell_same _ _ i _ _ v hg, h1, h2, by simpa using h3, ?_⟩
    rw [Array.toList_setIfInBounds, List.take_set, h4]
theorem clip_row (w : World) (B : Nat) (v : Value) (l : List ByteArray) (h : w.ownsRow B 9 1 v l.length (l.map vS)) : Calls Tryd.prog 51 #[v] w fun e w' => ∃ A, e = .returned (.slice A l.length l.length) ∧ RdS w (.slice A l.length l.length) l ∧ Nz (.slice A l.length l.length) ∧ (∀ b off n c, Value.slice A l.length l.length = .slice (some ⟨b, off, none⟩) n c → B ≤ b) ∧ (∀ b off n c, Value.slice A l.length l.length = .slice (some ⟨b, off, none⟩) n c → off = 0 ∧ n = c ∧ RowW w b (l.map vS)) ∧ w = w' := by
  have hr := RdS.of_own h
  rcases h.2 with ⟨rfl, h0⟩ | ⟨g, cap, cur, rfl, hb, hg, h1, h2, _⟩
  · refine (clip_nil w).mono ?_
    rintro e w' ⟨rfl, rfl⟩
    rw [h0]
    exact ⟨none, rfl, hr, fun n c e => (by injection e with _ e1 e2; exact ⟨e1.symm, e2.symm⟩), fun _ _ _ _ e => (by injection e with e; cases e), fun _ _ _ _ e => (by injection e with e; cases e), rfl⟩
  · refine (clip_some w ⟨g, 0, none⟩ _ cap h1).mono ?_
    rintro e w' ⟨rfl, rfl⟩
    obtain ⟨A', c', e, k1, k2, k3⟩ := hr
    injection e with e1 _ e3
    subst e1 e3
    refine ⟨_, rfl, ⟨_, _, rfl, Nat.le_refl _, by omega, k3⟩, fun n c e => (by injection e with e; cases e), fun b off n c e => (by injection e with e; injection e with e; injection e with e; omega), fun b off n c e => ?_, rfl⟩
    injection e with e en ec
    injection e with e
    injection e with e eo
    subst e
    exact ⟨eo.symm, by omega, RowW.of_own h⟩

set_option maxRecDepth 100000 in
set_option maxHeartbeats 4000000 in
/-- Clean, and the row that it makes -/
theorem cleanR_any (w : World) (v : Value) (l : List ByteArray) (sl : Bool) (hr : RdS w v l) (hlen : l.length ≤ 8796093022207) :
    Calls Tryd.prog 32 #[.agg #[v, .bool sl]] w fun e w' => ∃ u, e = .returned (.agg #[u, .bool (clS l sl)]) ∧ RdS w' u (clF [] l) ∧ Nz u ∧ (∀ b off n c, u = .slice (some ⟨b, off, none⟩) n c → w.heap.size + 1 + 1 ≤ b) ∧ (∀ b off n c, u = .slice (some ⟨b, off, none⟩) n c → off = 0 ∧ n = c ∧ RowW w' b ((clF [] l).map vS)) ∧ (∃ A k, u = .slice A k k) ∧ Below w.heap.size w w' := by
  obtain ⟨i0, hi, hz0, hz1, hz2⟩ := info_parts info9
  obtain ⟨A, c, rfl, h1, h2, h3⟩ := hr
  have HR := Lib.hid h3
  have hcm : c ≤ 9223372036854775807 := maxLen_eq ▸ h2
  obtain ⟨n, hn⟩ : ∃ n, l.length = n := ⟨_, rfl⟩
  have HL := Lib.hid hn
  rw [hn] at h1 hlen ⊢
  have HS0 : Hid (ClSt w (.slice A n c) sl [] (.slice none 0 0) ((w.alloc (.cells #[.slice A n c, .bool sl] 25)).alloc (.cells #[.slice none 0 0, .bool false] 25))) := by
    refine Lib.hid ⟨World.ownsRow_nil _ _ _ _, (Below.heap_alloc _ _ _ (by simp)).trans (heap_alloc_new w _), ?_, ((Below.refl _ _).alloc (Nat.le_refl _) _).alloc (by simp) _⟩
    simpa using heap_alloc_new (w.alloc (.cells #[.slice A n c, .bool sl] 25)) (.cells #[.slice none 0 0, .bool false] 25)
  obtain ⟨C, hC⟩ : ∃ C, clF [] l = C := ⟨_, rfl⟩
  obtain ⟨S, hS⟩ : ∃ S, clS l sl = S := ⟨_, rfl⟩
  have HC := Lib.hid hC
  have HS := Lib.hid hS
  rw [hC, hS]
  clear h3 h2 hn hC hS
  go_enter Tryd.func32, Tryd.ntmps32
  go_wp2_with fail
  go_loopw [3, 4, 11] (fun v3 v4 v11 wr => ∃ k : Nat, k ≤ n ∧ v11 = .int .i64 k ∧ v4 = .string ((l.take k).getLastD ByteArray.empty) ∧ Hid (∃ st, ClSt w (.slice A n c) sl st v3 wr ∧ clF st (l.drop k) = C ∧ st.length ≤ k)) (fun _ _ v11 _ => n - (intOf v11).toNat)
  case atStart => exact ⟨0, by omega, rfl, rfl, Lib.hid ⟨[], HS0.out, HC.out, by simp⟩⟩
  case round =>
    clear HS0
    obtain ⟨k, hk, rfl, rfl, HX⟩ := hrel
    obtain ⟨st, hst, hcl, hsl⟩ := HX.out
    clear HX
    obtain ⟨A3, c3, rfl⟩ := own_form hst.row
    have HST := Lib.hid hst
    have hbl := hst.bel.size
    have d0 := cell_of_row _ _ 0 _ _ _ hst.b1
    have d1 := cell_of_row _ _ 1 _ _ _ hst.b1
    simp only [List.getElem?_toArray, List.getElem?_cons_zero, List.getElem?_cons_succ] at d0 d1
    have hb2l := heap_lt hst.b2
    by_cases hlt : k < n
    · obtain ⟨b, off, rfl, hbw, hh⟩ := HR.out (by rw [HL.out]; omega)
      obtain ⟨s, hs⟩ : ∃ s, l[k]? = some s := ⟨_, List.getElem?_eq_getElem (by rw [HL.out]; exact hlt)⟩
      have hdr : l.drop k = s :: l.drop (k + 1) := by
        have := List.getElem?_eq_some_iff.1 hs
        rw [List.drop_eq_getElem_cons this.1, this.2]
      rw [hdr] at hcl
      have e0 := cell_below hst.bel (hh k s hs)
      have HTK : Hid ((l.take (k + 1)).getLastD ByteArray.empty = s) := by
        rw [List.take_add_one, hs]
        exact Lib.hid (by simp)
      clear hh hs hdr hst
      by_cases hs2 : s = dot2
      · subst hs2
        unfold dot2 at e0
        rcases List.eq_nil_or_concat st with rfl | ⟨st', z, rfl⟩
        · rw [clF, if_neg (fun h => h.2 rfl), if_pos (.inl rfl)] at hcl
          have HX := Lib.hid (show ∃ st, ClSt w (.slice (some ⟨b, off, none⟩) n c) sl st (.slice A3 0 c3) wr ∧ clF st (l.drop (k + 1)) = C ∧ st.length ≤ k + 1 from ⟨[], HST.out, hcl, by simp⟩)
          clear hcl HST
          simp only [List.length_nil] at *
          go_wp2_with fail
          all_goals exact ⟨⟨k + 1, by omega, by go_num, by rw [HTK.out]; rfl, HX⟩, by simp [intOf]; omega⟩
        · rw [List.concat_eq_append] at *
          have hlz : (st' ++ [z]).length = st'.length + 1 := by simp
          rw [hlz] at hsl
          rw [clF, if_pos ⟨rfl, by simp⟩, List.dropLast_concat] at hcl
          have hrow := HST.out.row
          rw [hlz] at hrow
          obtain ⟨g3, c3', e3⟩ := ownsRow_succ hrow
          injection e3 with e3 _ e4
          subst e3 e4
          have hrow2 := own_pop hrow
          rw [List.dropLast_concat] at hrow2
          have HX := Lib.hid (show ∃ st, ClSt w (.slice (some ⟨b, off, none⟩) n c) sl st (.slice (some ⟨g3, 0, none⟩) st'.length c3) wr ∧ clF st (l.drop (k + 1)) = C ∧ st.length ≤ k + 1 from ⟨st', { HST.out with row := hrow2 }, hcl, by omega⟩)
          have hc3 : st'.length + 1 ≤ c3 ∧ c3 ≤ 9223372036854775807 := by
            rcases hrow.2 with ⟨h, _⟩ | ⟨_, _, _, h, _, _, h1, h2, _⟩
            · cases h
            · injection h with _ _ h
              subst h
              exact ⟨h1, maxLen_eq ▸ h2⟩
          obtain ⟨hc31, hc32⟩ := hc3
          clear hcl HST hrow hrow2
          rw [hlz]
          go_wp2_with fail
          all_goals exact ⟨⟨k + 1, by omega, by go_num, by rw [HTK.out]; rfl, HX⟩, by simp [intOf]; omega⟩
      · by_cases hs1 : s = dot1
        · subst hs1
          have hd : ¬ dot1 = dot2 := by decide
          unfold dot1 at e0
          rw [clF, if_neg (fun h => hd h.1), if_pos (.inr rfl)] at hcl
          have HX := Lib.hid (show ∃ st', ClSt w (.slice (some ⟨b, off, none⟩) n c) sl st' (.slice A3 st.length c3) wr ∧ clF st' (l.drop (k + 1)) = C ∧ st'.length ≤ k + 1 from ⟨st, HST.out, hcl, by omega⟩)
          clear hcl HST
          go_wp2_with fail
          all_goals exact ⟨⟨k + 1, by omega, by go_num, by rw [HTK.out]; rfl, HX⟩, by simp [intOf]; omega⟩
        · have q1 : (s.toList == [46]) = false := ne_lit hs1
          have q2 : (s.toList == [46, 46]) = false := ne_lit hs2
          rw [clF, if_neg (fun h => hs2 h.1), if_neg (fun h => h.elim hs2 hs1)] at hcl
          have HCL := Lib.hid hcl
          clear hcl
          go_wp2_with (at_builtin; refine wpList_append_own_at _ rfl _ _ 23 rfl (w.heap.size + 1 + 1) 9 i0 (.string ByteArray.empty) 1 16 Tryd.underlying23 hi hz0 hz1 hz2 rfl (by decide) _ st.length _ rfl (HST.out.row.alloc _) ⟨wr.heap.size, 0, none⟩ 1 1 [.string s] rfl rfl (World.news_of_block (cs := #[.string s]) (t := 9) (fr := (0, 0)) (heap_alloc_new wr _)) (by simp [Value.oneCell']) (by rw [maxLen_eq]; omega) (by omega) (by simp; omega) ?_; intro v2 w2 hown2 hg2 _ hloc)
          have hlt3 := HST.out.row.lt
          have hch : Chg (fun b => (Value.slice A3 st.length c3).ownBlock = some b) wr w2 := ((Chg.refl (fun b => (Value.slice A3 st.length c3).ownBlock = some b) wr).alloc _).grown hg2 (fun k e _ => e)
          have HX := Lib.hid (show ∃ st', ClSt w (.slice (some ⟨b, off, none⟩) n c) sl st' v2 w2 ∧ clF st' (l.drop (k + 1)) = C ∧ st'.length ≤ k + 1 from
            ⟨st ++ [s], ⟨by rw [List.length_append, List.map_append]; exact hown2, hch.heap HST.out.b1 (fun e => by have := (hlt3 _ e).1; omega), hch.heap HST.out.b2 (fun e => by have := (hlt3 _ e).1; omega), HST.out.bel.trans (hch.below _ hbl (fun b hb e => by have := (hlt3 _ e).1; omega))⟩, HCL.out, by simp; omega⟩)
          clear hown2 hg2 hloc hch hlt3
          go_wp2_with fail
          all_goals exact ⟨⟨k + 1, by omega, by go_num, by rw [HTK.out], HX⟩, by simp [intOf]; omega⟩
    · obtain rfl : k = n := by omega
      rw [List.drop_eq_nil_of_le (by rw [HL.out]; exact Nat.le_refl _), clF] at hcl
      subst hcl
      rw [List.take_of_length_le (by rw [HL.out]; exact Nat.le_refl _)]
      have HCH : Hid (∀ x y, Chg (fun b => b = w.heap.size + 1) wr ((wr.setCell ⟨w.heap.size + 1, 0, none⟩ x).setCell ⟨w.heap.size + 1, 1, none⟩ y)) := Lib.hid (fun x y =>
        ((Chg.refl (fun b => b = w.heap.size + 1) wr).setCell (p := ⟨w.heap.size + 1, 0, none⟩) (fun _ => rfl) _).setCell (p := ⟨w.heap.size + 1, 1, none⟩) (fun _ => rfl) _)
      have g0 := cell_of_row _ _ 0 _ _ _ hst.b2
      have g1 := cell_of_row _ _ 1 _ _ _ hst.b2
      simp only [List.getElem?_toArray, List.getElem?_cons_zero, List.getElem?_cons_succ] at g0 g1
      have f0 := frozen_of_row _ _ 0 _ _ hst.b2
      have f1 := frozen_of_row _ _ 1 _ _ hst.b2
      have hSS := HS.out
      unfold clS at hSS
      clear HS hst hsl HR
      obtain ⟨E, hE⟩ : ∃ E, l.getLastD ByteArray.empty = E := ⟨_, rfl⟩
      rw [hE] at hSS
      rw [hE]
      rw [HC.out] at hSS
      clear HC
      rcases Nat.eq_zero_or_pos st.length with h0 | h0
      · obtain rfl : S = false := by rw [← hSS, List.length_eq_zero_iff.1 h0]; rfl
        rw [h0]
        have HST0 := HST.out.row
        rw [h0] at HST0
        have hcl := clip_row _ _ _ st HST.out.row
        rw [h0] at hcl
        go_wp2_with fail
        refine hcl.mono ?_
        rintro e w' ⟨A9, rfl, hr9, hz9, hb9, hw9, rfl⟩
        have HR9 := Lib.hid hr9
        have HZ9 := Lib.hid hz9
        have HB9 := Lib.hid hb9
        have HW9 := Lib.hid hw9
        clear hr9 hz9 hb9 hw9
        go_wp2_with fail
        refine bodyPost_ret (path_res (f := Tryd.f32) (j := 2) Tryd.results32 rfl (set_path _ _ _ _ _ _ _ HST.out.b2)) rfl ?_
        exact ⟨_, rfl, HR9.out.chg (HCH.out _ _) (fun b off n c e h => by have := HB9.out b off n c e; omega), HZ9.out, HB9.out, (fun b off n c e => by obtain ⟨k1, k2, cur, k3, k4⟩ := HW9.out b off n c e; exact ⟨k1, k2, cur, (HCH.out _ _).heap k3 (fun h => by have := HB9.out b off n c e; omega), k4⟩), ⟨_, _, rfl⟩, HST.out.bel.trans ((HCH.out _ _).below _ hbl (fun b hb h => by omega))⟩
      · obtain ⟨m, hm⟩ : ∃ m, st.length = m + 1 := ⟨st.length - 1, by omega⟩
        have hem : st.isEmpty = false := by cases st with
          | nil => simp at hm
          | cons a l => rfl
        rw [hem] at hSS
        have hcl := clip_row _ _ _ st HST.out.row
        rw [hm] at hcl ⊢
        have hm0 : (0 : Int) < (m : Int) + 1 := by omega
        cases sl
        · by_cases hE1 : E = dot1
          · subst hE1
            obtain rfl : S = true := by rw [← hSS]; rfl
            unfold dot1
            go_wp2_with fail
            refine hcl.mono ?_
            rintro e w' ⟨A9, rfl, hr9, hz9, hb9, hw9, rfl⟩
            have HR9 := Lib.hid hr9
            have HZ9 := Lib.hid hz9
            have HB9 := Lib.hid hb9
            have HW9 := Lib.hid hw9
            clear hr9 hz9 hb9 hw9
            go_wp2_with fail
            refine bodyPost_ret (path_res (f := Tryd.f32) (j := 2) Tryd.results32 rfl (set_path _ _ _ _ _ _ _ HST.out.b2)) rfl ?_
            exact ⟨_, rfl, HR9.out.chg (HCH.out _ _) (fun b off n c e h => by have := HB9.out b off n c e; omega), HZ9.out, HB9.out, (fun b off n c e => by obtain ⟨k1, k2, cur, k3, k4⟩ := HW9.out b off n c e; exact ⟨k1, k2, cur, (HCH.out _ _).heap k3 (fun h => by have := HB9.out b off n c e; omega), k4⟩), ⟨_, _, rfl⟩, HST.out.bel.trans ((HCH.out _ _).below _ hbl (fun b hb h => by omega))⟩
          · by_cases hE2 : E = dot2
            · subst hE2
              obtain rfl : S = true := by rw [← hSS]; rfl
              unfold dot2
              go_wp2_with fail
              refine hcl.mono ?_
              rintro e w' ⟨A9, rfl, hr9, hz9, hb9, hw9, rfl⟩
              have HR9 := Lib.hid hr9
              have HZ9 := Lib.hid hz9
              have HB9 := Lib.hid hb9
              have HW9 := Lib.hid hw9
              clear hr9 hz9 hb9 hw9
              go_wp2_with fail
              refine bodyPost_ret (path_res (f := Tryd.f32) (j := 2) Tryd.results32 rfl (set_path _ _ _ _ _ _ _ HST.out.b2)) rfl ?_
              exact ⟨_, rfl, HR9.out.chg (HCH.out _ _) (fun b off n c e h => by have := HB9.out b off n c e; omega), HZ9.out, HB9.out, (fun b off n c e => by obtain ⟨k1, k2, cur, k3, k4⟩ := HW9.out b off n c e; exact ⟨k1, k2, cur, (HCH.out _ _).heap k3 (fun h => by have := HB9.out b off n c e; omega), k4⟩), ⟨_, _, rfl⟩, HST.out.bel.trans ((HCH.out _ _).below _ hbl (fun b hb h => by omega))⟩
            · have q1 : (E.toList == [46]) = false := ne_lit hE1
              have q2 : (E.toList == [46, 46]) = false := ne_lit hE2
              obtain rfl : S = false := by rw [← hSS]; simp [isD, hE1, hE2]
              go_wp2_with fail
              refine hcl.mono ?_
              rintro e w' ⟨A9, rfl, hr9, hz9, hb9, hw9, rfl⟩
              have HR9 := Lib.hid hr9
              have HZ9 := Lib.hid hz9
              have HB9 := Lib.hid hb9
              have HW9 := Lib.hid hw9
              clear hr9 hz9 hb9 hw9
              go_wp2_with fail
              refine bodyPost_ret (path_res (f := Tryd.f32) (j := 2) Tryd.results32 rfl (set_path _ _ _ _ _ _ _ HST.out.b2)) rfl ?_
              exact ⟨_, rfl, HR9.out.chg (HCH.out _ _) (fun b off n c e h => by have := HB9.out b off n c e; omega), HZ9.out, HB9.out, (fun b off n c e => by obtain ⟨k1, k2, cur, k3, k4⟩ := HW9.out b off n c e; exact ⟨k1, k2, cur, (HCH.out _ _).heap k3 (fun h => by have := HB9.out b off n c e; omega), k4⟩), ⟨_, _, rfl⟩, HST.out.bel.trans ((HCH.out _ _).below _ hbl (fun b hb h => by omega))⟩
        · obtain rfl : S = true := by rw [← hSS]; rfl
          go_wp2_with fail
          refine hcl.mono ?_
          rintro e w' ⟨A9, rfl, hr9, hz9, hb9, hw9, rfl⟩
          have HR9 := Lib.hid hr9
          have HZ9 := Lib.hid hz9
          have HB9 := Lib.hid hb9
          have HW9 := Lib.hid hw9
          clear hr9 hz9 hb9 hw9
          go_wp2_with fail
          refine bodyPost_ret (path_res (f := Tryd.f32) (j := 2) Tryd.results32 rfl (set_path _ _ _ _ _ _ _ HST.out.b2)) rfl ?_
          exact ⟨_, rfl, HR9.out.chg (HCH.out _ _) (fun b off n c e h => by have := HB9.out b off n c e; omega), HZ9.out, HB9.out, (fun b off n c e => by obtain ⟨k1, k2, cur, k3, k4⟩ := HW9.out b off n c e; exact ⟨k1, k2, cur, (HCH.out _ _).heap k3 (fun h => by have := HB9.out b off n c e; omega), k4⟩), ⟨_, _, rfl⟩, HST.out.bel.trans ((HCH.out _ _).below _ hbl (fun b hb h => by omega))⟩


end Go.Proofs.YtpombeiabgbpiaaDoor
