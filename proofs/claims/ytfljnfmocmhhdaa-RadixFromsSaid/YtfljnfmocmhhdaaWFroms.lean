/-
RadixFroms: every going through, of every script, is what the document's list says.
-/
import Derived.Test.YtfljnfmocmhhdaaWLawFrom
namespace Go.Proofs.Ytfljnfmocmhhdaa
open Go.RowKit

theorem lawfrom_calls (w : World) (r : Nat) (f : Nat → Int) (lb : Nat → Nat) (h : TreeI w r f lb) (off stop : Int) (ho1 : -9223372036854775808 ≤ off) (A : Option Addr) (n c : Nat) (hr : RdP w A n c (items f 0 off 512)) :
    Calls Try.prog 45 #[.pointer (some ⟨r, 0, none⟩), .slice A n c, .int .i64 off, .int .i64 stop] w fun e w' => e = .returned (.bool true) ∧ Below w.heap.size w w' :=
  callsIn_wide.1 (lawfrom_any w r f lb h off stop ho1 A n c hr)
theorem ref_from_rd (w : World) (q : Nat) (f : Nat → Int) (h : RefT w q f) (off : Int) (nn : Nat) (hn : (items f 0 off 512).length = nn) : Calls Try.prog 44 #[.pointer (some ⟨q, 0, none⟩), .int .i64 off] w fun e w' => ∃ A c, e = .returned (.slice A nn c) ∧
    RdP w' A nn c (items f 0 off 512) ∧ Below w.heap.size w w' := by
  refine (ref_from w q f h off).mono ?_
  rintro e w' ⟨v, rfl, ho, hb⟩
  obtain ⟨A, c, rfl, hr, _⟩ := RdP.own ho (items_len f 0 off 512)
  subst hn
  exact ⟨A, c, rfl, hr, hb⟩
theorem RdP.below {w w' : World} {A : Option Addr} {n c : Nat} {l : List (Nat × Int)} (h : RdP w A n c l) (hb : Below w.heap.size w w') : RdP w' A n c l := h.chg (Chg.of_below (fun _ => False) hb) (fun _ _ _ h => h)

set_option maxRecDepth 100000 in
set_option maxHeartbeats 8000000 in
theorem froms_any (A : Option Addr) (n c : Nat) (os : List OpR) (w : World) (hs : Script w A n c os) :
    Calls Try.prog 15 #[.slice A n c] w fun e w' => e = .returned (.bool true) ∧ Below w.heap.size w w' := by
  have hn := hs.2.2.1
  have hnc := hs.2.1
  have HS := Lib.hid hs
  clear hs
  go_enter Try.func15, Try.ntmps15
  go_wp2_with fail
  refine (begin_any w).mono ?_
  rintro e w1 ⟨g, r, q, f, lb, rfl, hst⟩
  have H0 : Hid (∃ r q f lb, St w 3 g r q f lb w1) := ⟨_, _, _, _, hst⟩
  clear hst
  go_wp2_with fail
  go_loopw [5] (fun v5 wr => ∃ k : Nat, k ≤ n ∧ v5 = .int .i64 k ∧ Hid (∃ r q f lb, St w 3 g r q f lb wr)) (fun v5 _ => n - (intOf v5).toNat)
  case atStart => exact ⟨0, by omega, rfl, H0⟩
  case round =>
    clear H0
    obtain ⟨k, hk, rfl, HB⟩ := hrel
    by_cases hlt : k < n
    · by_cases h400 : k < 400
      · obtain ⟨r2, q2, f2, lb2, hst⟩ := HB.out
        have S := HS.out.below hst.bel
        have hl := S.1
        obtain ⟨b, off, rfl, hc⟩ := S.2.2.2.2 (by omega)
        have hr := hc k (by omega)
        obtain ⟨hok, hin⟩ := S.2.2.2.1 _ (List.getElem_mem (by omega : k < os.length))
        generalize os[k]'(by omega) = o at *
        obtain ⟨K, D, O, V, A2, n2, cc2, rs⟩ := o
        have c0 : wr.cell? ⟨b, off + k * 5, none⟩ = some (.int .i64 K) := hr 0 _ rfl
        have c1 : wr.cell? ⟨b, off + k * 5 + 1, none⟩ = some (.int .i64 D) := hr 1 _ rfl
        have c2 : wr.cell? ⟨b, off + k * 5 + 2, none⟩ = some (.int .i64 O) := hr 2 _ rfl
        have c3 : wr.cell? ⟨b, off + k * 5 + 3, none⟩ = some (.int .i64 V) := hr 3 _ rfl
        have c4 : wr.cell? ⟨b, off + k * 5 + 4, none⟩ = some (.slice A2 n2 cc2) := hr 4 _ rfl
        have HPL := Lib.hid (fun W' (hb : Below wr.heap.size wr W') => plays_any w W' g ⟨r2, q2, f2, lb2, hst.below hb⟩ K D O V A2 n2 cc2 rs (hin.below hb) hok.o1 ⟨hok.v1, hok.v2⟩)
        have HB2 : Hid (∀ W', Below wr.heap.size wr W' → ∃ r q f lb, St w 3 g r q f lb W') := fun W' hb => ⟨_, _, _, _, hst.below hb⟩
        have HAL := Lib.hid (fun (o : Obj) => (Below.refl wr.heap.size wr).alloc (Nat.le_refl _) o)
        have HOK := Lib.hid hok
        have HST := Lib.hid hst
        clear hc S hok hin hr hst HB hl HS
        have hch : K = 9 ∨ K = 1 ∨ K = 4 ∨ (6 ≤ K ∧ K ≠ 9) ∨ (K ≠ 1 ∧ K ≠ 4 ∧ K < 6) := by omega
        rcases hch with rfl | hch
        · obtain ⟨W1, hW1⟩ : ∃ X, wr.alloc (.cells #[.int .i64 9, .int .i64 D, .int .i64 O, .int .i64 V, .slice A2 n2 cc2] 78) = X := ⟨_, rfl⟩
          obtain ⟨hb1, b0, b1, b2, b3, b4, hs1⟩ := box5 _ _ _ _ _ _ _ _ hW1
          have H1 := Lib.hid (HST.out.below hb1)
          have HB1 := Lib.hid hb1
          have hd := plc_lt D
          have HP := Lib.hid (place_any D)
          generalize plc D = d at *
          have p1 := H1.out.cell_q d hd
          obtain ⟨nn, hnn⟩ : ∃ nn, (items (f2 d) 0 O 512).length = nn := ⟨_, rfl⟩
          have HRF := Lib.hid (fun X (hX : Below W1.heap.size W1 X) => ref_from_rd X (q2 d) (f2 d) ((H1.out.ref d hd).below hX) O nn hnn)
          have HTR := Lib.hid (H1.out.tree d hd)
          clear hb1 hs1 b4 HPL HAL hnn
          go_wp2_with (rw [hW1])
          · skip
            refine wp_region_held_drew (S := fun X => Below W1.heap.size W1 X) (by kernel_rfl) (drewN_below W1 1) (fun hS => ?_)
            refine takeD (i := 0) (v := .pointer (some ⟨g, 0, none⟩)) 33 rfl rfl (by kernel_rfl) (by kernel_rfl) (by kernel_rfl) (fun _ _ _ h => h) (Or.inl ⟨by rfl, fun X hX => by go_simp⟩) hS ?_
            simp only [Act.put, List.setIfInBounds_toArray, List.set_cons_zero, List.set_cons_succ]
            refine takeD (i := 1) (v := .pointer (some ⟨wr.heap.size, 1, none⟩)) 34 rfl rfl (by kernel_rfl) (by kernel_rfl) (by kernel_rfl) (fun _ _ _ h => h) (Or.inl ⟨by rfl, fun X hX => by go_simp⟩) hS ?_
            simp only [Act.put, List.setIfInBounds_toArray, List.set_cons_zero, List.set_cons_succ]
            refine takeD (i := 2) (v := .int .i64 D) 35 rfl rfl (by kernel_rfl) (by kernel_rfl) (by kernel_rfl) (fun _ _ _ h => h) (Or.inl ⟨by rfl, fun X hX => by have hc := cell_below (show Below W1.heap.size W1 X from hX) b1; go_simp⟩) hS ?_
            simp only [Act.put, List.setIfInBounds_toArray, List.set_cons_zero, List.set_cons_succ]
            refine takeD (i := 4) (v := .pointer (some ⟨g, 0, none⟩)) 37 rfl rfl (by kernel_rfl) (by kernel_rfl) (by kernel_rfl) (fun _ _ _ h => h) (Or.inl ⟨by rfl, fun X hX => by go_simp⟩) hS ?_
            simp only [Act.put, List.setIfInBounds_toArray, List.set_cons_zero, List.set_cons_succ]
            refine takeD (i := 5) (v := .pointer (some ⟨g, 3, none⟩)) 38 rfl rfl (by kernel_rfl) (by kernel_rfl) (by kernel_rfl) (fun _ _ _ h => h) (Or.inl ⟨by rfl, fun X hX => by go_simp⟩) hS ?_
            simp only [Act.put, List.setIfInBounds_toArray, List.set_cons_zero, List.set_cons_succ]
            refine takeD (i := 8) (v := .pointer (some ⟨wr.heap.size, 2, none⟩)) 41 rfl rfl (by kernel_rfl) (by kernel_rfl) (by kernel_rfl) (fun _ _ _ h => h) (Or.inl ⟨by rfl, fun X hX => by go_simp⟩) hS ?_
            simp only [Act.put, List.setIfInBounds_toArray, List.set_cons_zero, List.set_cons_succ]
            refine takeD (i := 9) (v := .int .i64 O) 42 rfl rfl (by kernel_rfl) (by kernel_rfl) (by kernel_rfl) (fun _ _ _ h => h) (Or.inl ⟨by rfl, fun X hX => by have hc := cell_below (show Below W1.heap.size W1 X from hX) b2; go_simp⟩) hS ?_
            simp only [Act.put, List.setIfInBounds_toArray, List.set_cons_zero, List.set_cons_succ]
            refine wpAnyH_ready (rs := [3]) (by kernel_rfl) (by simp) (AllReadyH.cons rfl (fun K hK => ?_) AllReadyH.nil)
            go_simp
            refine (HP.out _).mono ?_
            rintro e X ⟨rfl, rfl⟩
            refine hK.out _ _ hS (fun h2 => ?_)
            clear hK K
            refine takeD (i := 6) (v := .pointer (some ⟨g, 3 + d, none⟩)) 39 rfl rfl (by kernel_rfl) (by kernel_rfl) (by kernel_rfl) (fun _ _ _ h => h) (Or.inl ⟨by rfl, fun X hX => by go_simp; intro h; omega⟩) h2 ?_
            simp only [Act.put, List.setIfInBounds_toArray, List.set_cons_zero, List.set_cons_succ]
            refine takeD (i := 7) (v := .pointer (some ⟨q2 d, 0, none⟩)) 40 rfl rfl (by kernel_rfl) (by kernel_rfl) (by kernel_rfl) (fun _ _ _ h => h) (Or.inl ⟨by rfl, fun X hX => by have hc := cell_below (show Below W1.heap.size W1 X from hX) p1; go_simp⟩) h2 ?_
            simp only [Act.put, List.setIfInBounds_toArray, List.set_cons_zero, List.set_cons_succ]
            refine wpAnyH_ready (rs := [10]) (by kernel_rfl) (by simp) (AllReadyH.cons rfl (fun K hK => ?_) AllReadyH.nil)
            go_simp
            refine (HRF.out _ h2).mono ?_
            rintro e W2 ⟨A5, c5, rfl, hr5, hb5⟩
            refine hK.out _ _ (below_lift h2 hb5) (fun h3 => ?_)
            clear hK K
            refine takeD (i := 11) (v := .slice A5 nn c5) 8 rfl rfl (by kernel_rfl) (by kernel_rfl) (by kernel_rfl) (fun _ _ _ h => h) (Or.inl ⟨by rfl, fun X hX => by go_simp⟩) h3 ?_
            simp only [Act.put, List.setIfInBounds_toArray, List.set_cons_zero, List.set_cons_succ]
            refine wpAnyH_done (by kernel_rfl) ?_ _
            replace b1 := cell_below h3 b1
            replace b2 := cell_below h3 b2
            replace b3 := cell_below h3 b3
            replace b0 := cell_below h3 b0
            have H2 := Lib.hid (H1.out.below h3)
            have HLF := Lib.hid (fun X (hX : Below W2.heap.size W2 X) => lawfrom_calls X (r2 d) (f2 d) (lb2 d) ((HTR.out.below h3).below hX) O V HOK.out.o1 A5 nn c5 (hr5.below hX))
            have p0 := H2.out.cell_p d hd
            clear hr5 hb5 h2 hS HRF HTR p1 h3 hW1
            go_wp2_with fail
            refine wp_region_held_drew (S := fun X => Below W2.heap.size W2 X) (by kernel_rfl) (drewN_below W2 1) (fun hS => ?_)
            refine takeD (i := 0) (v := .pointer (some ⟨g, 0, none⟩)) 44 rfl rfl (by kernel_rfl) (by kernel_rfl) (by kernel_rfl) (fun _ _ _ h => h) (Or.inl ⟨by rfl, fun X hX => by go_simp⟩) hS ?_
            simp only [Act.put, List.setIfInBounds_toArray, List.set_cons_zero, List.set_cons_succ]
            refine takeD (i := 1) (v := .pointer (some ⟨wr.heap.size, 1, none⟩)) 45 rfl rfl (by kernel_rfl) (by kernel_rfl) (by kernel_rfl) (fun _ _ _ h => h) (Or.inl ⟨by rfl, fun X hX => by go_simp⟩) hS ?_
            simp only [Act.put, List.setIfInBounds_toArray, List.set_cons_zero, List.set_cons_succ]
            refine takeD (i := 2) (v := .int .i64 D) 46 rfl rfl (by kernel_rfl) (by kernel_rfl) (by kernel_rfl) (fun _ _ _ h => h) (Or.inl ⟨by rfl, fun X hX => by have hc := cell_below (show Below W2.heap.size W2 X from hX) b1; go_simp⟩) hS ?_
            simp only [Act.put, List.setIfInBounds_toArray, List.set_cons_zero, List.set_cons_succ]
            refine takeD (i := 4) (v := .pointer (some ⟨g, 0, none⟩)) 48 rfl rfl (by kernel_rfl) (by kernel_rfl) (by kernel_rfl) (fun _ _ _ h => h) (Or.inl ⟨by rfl, fun X hX => by go_simp⟩) hS ?_
            simp only [Act.put, List.setIfInBounds_toArray, List.set_cons_zero, List.set_cons_succ]
            refine takeD (i := 5) (v := .pointer (some ⟨g, 0, none⟩)) 49 rfl rfl (by kernel_rfl) (by kernel_rfl) (by kernel_rfl) (fun _ _ _ h => h) (Or.inl ⟨by rfl, fun X hX => by go_simp⟩) hS ?_
            simp only [Act.put, List.setIfInBounds_toArray, List.set_cons_zero, List.set_cons_succ]
            refine takeD (i := 8) (v := .slice A5 nn c5) 52 rfl rfl (by kernel_rfl) (by kernel_rfl) (by kernel_rfl) (fun _ _ _ h => h) (Or.inl ⟨by rfl, fun X hX => by go_simp⟩) hS ?_
            simp only [Act.put, List.setIfInBounds_toArray, List.set_cons_zero, List.set_cons_succ]
            refine takeD (i := 9) (v := .pointer (some ⟨wr.heap.size, 2, none⟩)) 53 rfl rfl (by kernel_rfl) (by kernel_rfl) (by kernel_rfl) (fun _ _ _ h => h) (Or.inl ⟨by rfl, fun X hX => by go_simp⟩) hS ?_
            simp only [Act.put, List.setIfInBounds_toArray, List.set_cons_zero, List.set_cons_succ]
            refine takeD (i := 10) (v := .int .i64 O) 54 rfl rfl (by kernel_rfl) (by kernel_rfl) (by kernel_rfl) (fun _ _ _ h => h) (Or.inl ⟨by rfl, fun X hX => by have hc := cell_below (show Below W2.heap.size W2 X from hX) b2; go_simp⟩) hS ?_
            simp only [Act.put, List.setIfInBounds_toArray, List.set_cons_zero, List.set_cons_succ]
            refine takeD (i := 11) (v := .pointer (some ⟨wr.heap.size, 3, none⟩)) 55 rfl rfl (by kernel_rfl) (by kernel_rfl) (by kernel_rfl) (fun _ _ _ h => h) (Or.inl ⟨by rfl, fun X hX => by go_simp⟩) hS ?_
            simp only [Act.put, List.setIfInBounds_toArray, List.set_cons_zero, List.set_cons_succ]
            refine takeD (i := 12) (v := .int .i64 V) 56 rfl rfl (by kernel_rfl) (by kernel_rfl) (by kernel_rfl) (fun _ _ _ h => h) (Or.inl ⟨by rfl, fun X hX => by have hc := cell_below (show Below W2.heap.size W2 X from hX) b3; go_simp⟩) hS ?_
            simp only [Act.put, List.setIfInBounds_toArray, List.set_cons_zero, List.set_cons_succ]
            refine wpAnyH_ready (rs := [3]) (by kernel_rfl) (by simp) (AllReadyH.cons rfl (fun K hK => ?_) AllReadyH.nil)
            go_simp
            refine (HP.out _).mono ?_
            rintro e X ⟨rfl, rfl⟩
            refine hK.out _ _ hS (fun h2 => ?_)
            clear hK K
            refine takeD (i := 6) (v := .pointer (some ⟨g, d, none⟩)) 50 rfl rfl (by kernel_rfl) (by kernel_rfl) (by kernel_rfl) (fun _ _ _ h => h) (Or.inl ⟨by rfl, fun X hX => by go_simp; intro h; omega⟩) h2 ?_
            simp only [Act.put, List.setIfInBounds_toArray, List.set_cons_zero, List.set_cons_succ]
            refine takeD (i := 7) (v := .pointer (some ⟨r2 d, 0, none⟩)) 51 rfl rfl (by kernel_rfl) (by kernel_rfl) (by kernel_rfl) (fun _ _ _ h => h) (Or.inl ⟨by rfl, fun X hX => by have hc := cell_below (show Below W2.heap.size W2 X from hX) p0; go_simp⟩) h2 ?_
            simp only [Act.put, List.setIfInBounds_toArray, List.set_cons_zero, List.set_cons_succ]
            refine wpAnyH_ready (rs := [13]) (by kernel_rfl) (by simp) (AllReadyH.cons rfl (fun K hK => ?_) AllReadyH.nil)
            go_simp
            refine (HLF.out _ h2).mono ?_
            rintro e W3 ⟨rfl, hb6⟩
            refine hK.out _ _ (below_lift h2 hb6) (fun h4 => ?_)
            clear hK K
            refine takeD (i := 14) (v := .bool true) 7 rfl rfl (by kernel_rfl) (by kernel_rfl) (by kernel_rfl) (fun _ _ _ h => h) (Or.inl ⟨by rfl, fun X hX => by go_simp⟩) h4 ?_
            simp only [Act.put, List.setIfInBounds_toArray, List.set_cons_zero, List.set_cons_succ]
            refine wpAnyH_done (by kernel_rfl) ?_ _
            have HE : Hid (∃ r q f lb, St w 3 g r q f lb W3) := ⟨_, _, _, _, H2.out.below h4⟩
            clear h4 h2 hS HLF p0 hb6 H2
            go_wp2_with fail
            go_roundw
            case rel => exact ⟨k + 1, by omega, by go_num, HE⟩
            case measure => simp [intOf]; omega
        · clear HOK HST
          rcases hch with rfl | rfl | ⟨g3, g4⟩ | ⟨g3, g4, g5⟩
          all_goals
            go_wp2_with (refine (HPL.out _ (HAL.out _)).mono ?_; rintro e w2 ⟨rfl, hst2⟩; have HZ := Lib.hid hst2; clear hst2)
            go_roundw
            case rel => first | exact ⟨k + 1, by omega, by go_num, HZ⟩ | exact ⟨k + 1, by omega, by go_num, HB2.out _ (HAL.out _)⟩
            case measure => simp [intOf]; omega
          all_goals exact ⟨⟨k + 1, by omega, by go_num, HB2.out _ (HAL.out _)⟩, by simp [intOf]; omega⟩
      · go_wp2_with fail
        go_ret
        obtain ⟨r2, q2, f2, lb2, hst⟩ := HB.out
        exact ⟨rfl, hst.bel⟩
    · go_wp2_with fail
      go_ret
      obtain ⟨r2, q2, f2, lb2, hst⟩ := HB.out
      exact ⟨rfl, hst.bel⟩

end Go.Proofs.Ytfljnfmocmhhdaa
