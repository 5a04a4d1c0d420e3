/-
What the statement RadixTexts computes of any script: true.
-/
import Derived.Test.YtfljnfmocmhhdaaLTx
import Derived.Test.YtfljnfmocmhhdaaOpen2
import Derived.Deep.DeepCutAuto
import Derived.Deep.CutBlock
import Derived.Deep.CutRange
namespace Go.Proofs.Ytfljnfmocmhhdaa
open Go.RowKit Go.Shelf

set_option maxRecDepth 100000 in
set_option maxHeartbeats 8000000 in
theorem radixTexts_any (w : World) (A : Option Addr) (n c : Nat) (l : List PutV) (hr : RdT w A n c l) : Calls Try.prog 6 #[.slice A n c] w fun e w' => e = .returned (.bool true) ∧ Below w.heap.size w w' := by
  have hnc := hr.2.1
  have hn := hr.2.2.1
  have HR := Lib.hid hr
  have HGR := Lib.hid (grown_any w A n c l hr)
  have HF := Lib.hid (show In64 (runP (l.take 400)) from runP_in64 _ fun p hp => (hr.2.2.2.1 p (List.mem_of_mem_take hp)).2)
  clear hr
  go_enter Try.func6, Try.ntmps6
  go_wp2_with fail
  refine HGR.out.mono ?_
  rintro e w1 ⟨rfl, hg⟩
  have HG := Lib.hid hg
  clear hg HGR
  go_wp2_with fail
  refine (Str.new_tree w1).mono ?_
  rintro e w2 ⟨rfl, ht2, hb2, hs2⟩
  have HX0 : Hid (TxI w w1.heap.size (runP (l.take 400)) (txts (runP (l.take 0))) w2) := by
    obtain ⟨lb, h1, h2⟩ := HG.out.tree
    have h3 := HG.out.bel.size
    refine ⟨⟨lb, h1.below hb2, fun b hb => ⟨h2 b hb, h1.dom b hb⟩⟩, ⟨_, ?_, fun b hb => (Str.lbNew_ge hb).1⟩, below_lift HG.out.bel hb2, by omega⟩
    rw [show runP (l.take 0) = fun _ => 0 from rfl, txts_none]
    exact ht2
  clear ht2 hb2 hs2 HG
  generalize hF : runP (l.take 400) = F at *
  generalize hq : w1.heap.size = q at *
  have HFE := Lib.hid hF
  clear hF hq
  go_wp2_with fail
  go_loopw [6] (fun v6 wr => ∃ k : Nat, k ≤ n ∧ k ≤ 400 ∧ v6 = .int .i64 k ∧ Hid (TxI w q F (txts (runP (l.take k))) wr)) (fun v6 _ => n - (intOf v6).toNat)
  case atStart => exact ⟨0, by omega, by omega, rfl, HX0⟩
  case round =>
    clear HX0
    obtain ⟨k, hk, hk4, rfl, HX⟩ := hrel
    by_cases hgo : k < n ∧ k < 400
    · obtain ⟨hlt, h400⟩ := hgo
      obtain ⟨b, off, rfl, hbw, _⟩ := HR.out.2.2.2.2 (by omega)
      obtain ⟨p, hp⟩ : ∃ p, l[k]? = some p := ⟨_, List.getElem?_eq_getElem (by have := HR.out.1; omega)⟩
      have HCEL : Hid (∀ X, Below w.heap.size w X → X.cell? ⟨b, off + k * 3, none⟩ = some (.bool p.1) ∧ X.cell? ⟨b, off + k * 3 + 1, none⟩ = some (.int .i64 p.2.1) ∧ X.cell? ⟨b, off + k * 3 + 2, none⟩ = some (.int .i64 p.2.2)) := fun X hX => by
        obtain ⟨b', off', e', _, hh⟩ := (HR.out.below hX).2.2.2.2 (by omega)
        obtain ⟨rfl, rfl⟩ : b = b' ∧ off = off' := by injection e' with e'; injection e' with e1 e2; exact ⟨e1, e2⟩
        exact hh k p hp
      have HTK := Lib.hid (HR.out.take hk)
      have HLA : Hid (∀ X, Below w.heap.size w X → ∀ x : Int, Calls Try.prog 19 #[.slice (some ⟨b, off, none⟩) k c, .int .i64 x] X fun e w' => e = .returned (.int .i64 (lastP (l.take k) x)) ∧ X = w') := fun X hX x => by
        have := last_any X _ _ _ _ (HTK.out.below hX) x
        rwa [List.take_take, Nat.min_eq_right hk4] at this
      have HLB := Lib.hid (fun x : Int => lastP_in64 (l.take k) x fun p hp => (HR.out.2.2.2.1 p (List.mem_of_mem_take hp)).2)
      have HRL := Lib.hid (fun i (hi : i < 512) => run_last (l.take k) i hi)
      have hok := HR.out.2.2.2.1 p (List.mem_of_getElem? hp)
      have HNX : Hid (txts (runP (l.take (k + 1))) = if p.1 then Str.cutI (txts (runP (l.take k))) p.2.1 else updS (txts (runP (l.take k))) p.2.1 (Str.txt p.2.2)) := by
        show _ = _
        rw [take_succ_get l k p hp, runP_snoc, txts_step]
      obtain ⟨d0, d1, d2⟩ := HCEL.out wr HX.out.bel
      obtain ⟨cut, O, V⟩ := p
      simp only at d0 d1 d2 hok HCEL HNX
      obtain ⟨ho1, hv1, hv2⟩ := hok
      generalize hf : runP (l.take k) = f at *
      generalize hla : lastP (l.take k) = la at *
      generalize hgn : txts (runP (l.take (k + 1))) = gn at *
      clear hf hla hp HTK
      have HGN := Lib.hid hgn
      clear hgn
      rcases cut with _ | _
      · simp only [Bool.false_eq_true, if_false] at HNX
        have HTX := Lib.hid (fun X : World => Str.text_any X V hv1 hv2)
        go_upto_region 9 with fail
        go_cut [7, 8] from 26 to 141 (fun v7 v8 wx => v7 = .string (strAt (txts f) O) ∧ v8 = .int .i64 (setE O) ∧ Hid (TxI w q F gn wx))
        case first =>
          go_region_with (first | (go_at_call 27; refine (HTX.out _).mono ?_; rintro e W2 ⟨rfl, hb2⟩; have HX2 := Lib.hid ((HX.out.below (Below.refl _ _).drew).below hb2); have hc2 := (HCEL.out W2 HX2.out.bel).2.1) | (go_at_call 26; refine (set_txt HX2.out O (Str.txt V)).mono ?_; rintro e W3 ⟨rfl, hx3, hc3⟩))
          all_goals (go_wp2_with fail)
          all_goals go_meet
          all_goals (case rel => exact ⟨rfl, rfl, by rw [HNX.out]; exact hx3⟩)
        case rest =>
          obtain ⟨rfl, rfl, HX3⟩ := hcut
          obtain ⟨e0, e1, e2⟩ := HCEL.out _ HX3.out.bel
          have hLb := HLB.out O
          have HLO := Lib.hid (fun X hX => HLA.out X hX O)
          by_cases hi : inO O
          · have hwas : strAt (txts f) O = Str.txt (la O) := by
              have hO : ((O.toNat : Nat) : Int) = O := by have := hi.1; omega
              rw [show strAt (txts f) O = txts f O.toNat from if_pos hi]
              unfold txts
              rw [HRL.out O.toNat (by have := hi.2; omega), hO]
            have hse : setE O = 0 := if_pos hi
            rw [hwas, hse]
            generalize la O = L at *
            have HTL := Lib.hid (fun X : World => Str.text_any X L hLb.1 hLb.2)
            generalize Str.txt L = T at *
            obtain ⟨hi1, hi2⟩ := hi
            clear hwas hse hLb HLA HLB HRL
            go_upto_region 11 with fail
            refine wp_region_held_drew (S := fun X : World => X.cell? ⟨b, off + k * 3 + 1, none⟩ = some (.int .i64 O) ∧ Hid (TxI w q F gn X)) (by kernel_rfl) ⟨e1, HX3.out.below (Below.refl _ _).drew⟩ (fun hS => ?_)
            refine takeD (i := 0) (v := .int .i64 0) 72 rfl rfl (by kernel_rfl) (by kernel_rfl) (by kernel_rfl) (fun _ _ _ h => h) (Or.inl ⟨by rfl, fun X hX => by go_simp⟩) hS ?_
            simp only [Act.put, List.setIfInBounds_toArray, List.set_cons_zero, List.set_cons_succ]
            refine takeD (i := 1) (v := .bool true) 73 rfl rfl (by kernel_rfl) (by kernel_rfl) (by kernel_rfl) (fun _ _ _ h => h) (Or.inl ⟨by rfl, fun X hX => by go_simp⟩) hS ?_
            simp only [Act.put, List.setIfInBounds_toArray, List.set_cons_zero, List.set_cons_succ]
            refine takeD (i := 2) (v := .bool true) 74 rfl rfl (by kernel_rfl) (by kernel_rfl) (by kernel_rfl) (fun _ _ _ h => h) (Or.inl ⟨by rfl, fun X hX => by go_simp⟩) hS ?_
            simp only [Act.put, List.setIfInBounds_toArray, List.set_cons_zero, List.set_cons_succ]
            refine takeD (i := 3) (v := .bool false) 75 rfl rfl (by kernel_rfl) (by kernel_rfl) (by kernel_rfl) (fun _ _ _ h => h) (Or.inl ⟨by rfl, fun X hX => by go_simp⟩) hS ?_
            simp only [Act.put, List.setIfInBounds_toArray, List.set_cons_zero, List.set_cons_succ]
            refine takeD (i := 4) (v := .bool false) 76 rfl rfl (by kernel_rfl) (by kernel_rfl) (by kernel_rfl) (fun _ _ _ h => h) (Or.inl ⟨by rfl, fun X hX => by go_simp⟩) hS ?_
            simp only [Act.put, List.setIfInBounds_toArray, List.set_cons_zero, List.set_cons_succ]
            refine takeD (i := 5) (v := .string T) 77 rfl rfl (by kernel_rfl) (by kernel_rfl) (by kernel_rfl) (fun _ _ _ h => h) (Or.inl ⟨by rfl, fun X hX => by go_simp⟩) hS ?_
            simp only [Act.put, List.setIfInBounds_toArray, List.set_cons_zero, List.set_cons_succ]
            refine takeD (i := 6) (v := .slice (some ⟨b, off, none⟩) n c) 78 rfl rfl (by kernel_rfl) (by kernel_rfl) (by kernel_rfl) (fun _ _ _ h => h) (Or.inl ⟨by rfl, fun X hX => by go_simp⟩) hS ?_
            simp only [Act.put, List.setIfInBounds_toArray, List.set_cons_zero, List.set_cons_succ]
            refine takeD (i := 7) (v := .int .i64 (k : Int)) 79 rfl rfl (by kernel_rfl) (by kernel_rfl) (by kernel_rfl) (fun _ _ _ h => h) (Or.inl ⟨by rfl, fun X hX => by go_simp⟩) hS ?_
            simp only [Act.put, List.setIfInBounds_toArray, List.set_cons_zero, List.set_cons_succ]
            refine takeD (i := 8) (v := .slice (some ⟨b, off, none⟩) k c) 80 rfl rfl (by kernel_rfl) (by kernel_rfl) (by kernel_rfl) (fun _ _ _ h => h) (Or.inl ⟨by rfl, fun X hX => by go_simp; try (intro h; omega)⟩) hS ?_
            simp only [Act.put, List.setIfInBounds_toArray, List.set_cons_zero, List.set_cons_succ]
            refine takeD (i := 9) (v := .slice (some ⟨b, off, none⟩) n c) 81 rfl rfl (by kernel_rfl) (by kernel_rfl) (by kernel_rfl) (fun _ _ _ h => h) (Or.inl ⟨by rfl, fun X hX => by go_simp⟩) hS ?_
            simp only [Act.put, List.setIfInBounds_toArray, List.set_cons_zero, List.set_cons_succ]
            refine takeD (i := 10) (v := .int .i64 (k : Int)) 82 rfl rfl (by kernel_rfl) (by kernel_rfl) (by kernel_rfl) (fun _ _ _ h => h) (Or.inl ⟨by rfl, fun X hX => by go_simp⟩) hS ?_
            simp only [Act.put, List.setIfInBounds_toArray, List.set_cons_zero, List.set_cons_succ]
            refine takeD (i := 11) (v := .pointer (some ⟨b, off + k * 3, none⟩)) 83 rfl rfl (by kernel_rfl) (by kernel_rfl) (by kernel_rfl) (fun _ _ _ h => h) (Or.inl ⟨by rfl, fun X hX => by go_simp⟩) hS ?_
            simp only [Act.put, List.setIfInBounds_toArray, List.set_cons_zero, List.set_cons_succ]
            refine takeD (i := 12) (v := .pointer (some ⟨b, off + k * 3 + 1, none⟩)) 84 rfl rfl (by kernel_rfl) (by kernel_rfl) (by kernel_rfl) (fun _ _ _ h => h) (Or.inl ⟨by rfl, fun X hX => by go_simp⟩) hS ?_
            simp only [Act.put, List.setIfInBounds_toArray, List.set_cons_zero, List.set_cons_succ]
            refine takeD (i := 13) (v := .int .i64 O) 85 rfl rfl (by kernel_rfl) (by kernel_rfl) (by kernel_rfl) (fun _ _ _ h => h) (Or.inl ⟨by rfl, fun X hX => by have hc := hX.1; go_simp⟩) hS ?_
            simp only [Act.put, List.setIfInBounds_toArray, List.set_cons_zero, List.set_cons_succ]
            refine wpAnyH_ready (rs := [14]) (by kernel_rfl) (by simp) (AllReadyH.cons rfl (fun K hK => ?_) AllReadyH.nil)
            go_simp
            refine (HLO.out _ hS.2.out.bel).mono ?_
            rintro e X ⟨rfl, rfl⟩
            refine hK.out _ _ hS (fun h2 => ?_)
            clear hK K
            refine wpAnyH_ready (rs := [15]) (by kernel_rfl) (by simp) (AllReadyH.cons rfl (fun K hK => ?_) AllReadyH.nil)
            go_simp
            refine (HTL.out _).mono ?_
            rintro e W4 ⟨rfl, hb4⟩
            refine hK.out _ _ ⟨cell_below hb4 h2.1, h2.2.out.below hb4⟩ (fun h3 => ?_)
            clear hK K
            refine takeD (i := 16) (v := .bool false) 88 rfl rfl (by kernel_rfl) (by kernel_rfl) (by kernel_rfl) (fun _ _ _ h => h) (Or.inl ⟨by rfl, fun X hX => by go_simp⟩) h3 ?_
            simp only [Act.put, List.setIfInBounds_toArray, List.set_cons_zero, List.set_cons_succ]
            refine takeD (i := 17) (v := .bool false) 89 rfl rfl (by kernel_rfl) (by kernel_rfl) (by kernel_rfl) (fun _ _ _ h => h) (Or.inl ⟨by rfl, fun X hX => by go_simp⟩) h3 ?_
            simp only [Act.put, List.setIfInBounds_toArray, List.set_cons_zero, List.set_cons_succ]
            refine takeD (i := 18) (v := undef) 90 rfl rfl (by kernel_rfl) (by kernel_rfl) (by kernel_rfl) (fun _ _ _ h => h) (Or.inr ⟨by rfl, rfl⟩) h3 ?_
            simp only [Act.put, List.setIfInBounds_toArray, List.set_cons_zero, List.set_cons_succ]
            refine takeD (i := 19) (v := .bool false) 91 rfl rfl (by kernel_rfl) (by kernel_rfl) (by kernel_rfl) (fun _ _ _ h => h) (Or.inl ⟨by rfl, fun X hX => by go_simp⟩) h3 ?_
            simp only [Act.put, List.setIfInBounds_toArray, List.set_cons_zero, List.set_cons_succ]
            refine takeD (i := 20) (v := .bool false) 92 rfl rfl (by kernel_rfl) (by kernel_rfl) (by kernel_rfl) (fun _ _ _ h => h) (Or.inl ⟨by rfl, fun X hX => by go_simp⟩) h3 ?_
            simp only [Act.put, List.setIfInBounds_toArray, List.set_cons_zero, List.set_cons_succ]
            refine wpAnyH_done (by kernel_rfl) ?_ _
            have HX4 := Lib.hid h3.2.out
            clear h3 h2 hS hb4
            go_wp2_with fail
            go_roundw
            case rel => exact ⟨k + 1, by omega, by omega, by go_num, by rw [HGN.out]; exact HX4.out⟩
            case measure => simp [intOf]; omega
          · have hse : setE O = 70 := if_neg hi
            rw [hse]
            generalize strAt (txts f) O = S at *
            generalize la O = L at *
            have HTL := Lib.hid (fun X : World => Str.text_any X L hLb.1 hLb.2)
            generalize Str.txt L = T at *
            have hii : O < 0 ∨ (0 ≤ O ∧ 512 ≤ O) := by unfold inO at hi; omega
            clear hse hLb HLA HLB HRL hi
            obtain ⟨bb, hbb⟩ : ∃ bb, (S.toList == T.toList) = bb := ⟨_, rfl⟩
            rcases hii with hi1 | ⟨hi1, hi2⟩
            · cases bb
              · have hbb2 : (!(S.toList == T.toList)) = true := by rw [hbb]; rfl
                go_upto_region 11 with fail
                refine wp_region_held_drew (S := fun X : World => X.cell? ⟨b, off + k * 3 + 1, none⟩ = some (.int .i64 O) ∧ Hid (TxI w q F gn X)) (by kernel_rfl) ⟨e1, HX3.out.below (Below.refl _ _).drew⟩ (fun hS => ?_)
                refine takeD (i := 0) (v := .int .i64 70) 72 rfl rfl (by kernel_rfl) (by kernel_rfl) (by kernel_rfl) (fun _ _ _ h => h) (Or.inl ⟨by rfl, fun X hX => by go_simp⟩) hS ?_
                simp only [Act.put, List.setIfInBounds_toArray, List.set_cons_zero, List.set_cons_succ]
                refine takeD (i := 1) (v := .bool false) 73 rfl rfl (by kernel_rfl) (by kernel_rfl) (by kernel_rfl) (fun _ _ _ h => h) (Or.inl ⟨by rfl, fun X hX => by go_simp⟩) hS ?_
                simp only [Act.put, List.setIfInBounds_toArray, List.set_cons_zero, List.set_cons_succ]
                refine takeD (i := 2) (v := .bool false) 74 rfl rfl (by kernel_rfl) (by kernel_rfl) (by kernel_rfl) (fun _ _ _ h => h) (Or.inl ⟨by rfl, fun X hX => by go_simp⟩) hS ?_
                simp only [Act.put, List.setIfInBounds_toArray, List.set_cons_zero, List.set_cons_succ]
                refine takeD (i := 3) (v := .bool false) 75 rfl rfl (by kernel_rfl) (by kernel_rfl) (by kernel_rfl) (fun _ _ _ h => h) (Or.inl ⟨by rfl, fun X hX => by go_simp⟩) hS ?_
                simp only [Act.put, List.setIfInBounds_toArray, List.set_cons_zero, List.set_cons_succ]
                refine takeD (i := 4) (v := .bool false) 76 rfl rfl (by kernel_rfl) (by kernel_rfl) (by kernel_rfl) (fun _ _ _ h => h) (Or.inl ⟨by rfl, fun X hX => by go_simp⟩) hS ?_
                simp only [Act.put, List.setIfInBounds_toArray, List.set_cons_zero, List.set_cons_succ]
                refine takeD (i := 5) (v := .string S) 77 rfl rfl (by kernel_rfl) (by kernel_rfl) (by kernel_rfl) (fun _ _ _ h => h) (Or.inl ⟨by rfl, fun X hX => by go_simp⟩) hS ?_
                simp only [Act.put, List.setIfInBounds_toArray, List.set_cons_zero, List.set_cons_succ]
                refine takeD (i := 6) (v := .slice (some ⟨b, off, none⟩) n c) 78 rfl rfl (by kernel_rfl) (by kernel_rfl) (by kernel_rfl) (fun _ _ _ h => h) (Or.inl ⟨by rfl, fun X hX => by go_simp⟩) hS ?_
                simp only [Act.put, List.setIfInBounds_toArray, List.set_cons_zero, List.set_cons_succ]
                refine takeD (i := 7) (v := .int .i64 (k : Int)) 79 rfl rfl (by kernel_rfl) (by kernel_rfl) (by kernel_rfl) (fun _ _ _ h => h) (Or.inl ⟨by rfl, fun X hX => by go_simp⟩) hS ?_
                simp only [Act.put, List.setIfInBounds_toArray, List.set_cons_zero, List.set_cons_succ]
                refine takeD (i := 8) (v := .slice (some ⟨b, off, none⟩) k c) 80 rfl rfl (by kernel_rfl) (by kernel_rfl) (by kernel_rfl) (fun _ _ _ h => h) (Or.inl ⟨by rfl, fun X hX => by go_simp; try (intro h; omega)⟩) hS ?_
                simp only [Act.put, List.setIfInBounds_toArray, List.set_cons_zero, List.set_cons_succ]
                refine takeD (i := 9) (v := .slice (some ⟨b, off, none⟩) n c) 81 rfl rfl (by kernel_rfl) (by kernel_rfl) (by kernel_rfl) (fun _ _ _ h => h) (Or.inl ⟨by rfl, fun X hX => by go_simp⟩) hS ?_
                simp only [Act.put, List.setIfInBounds_toArray, List.set_cons_zero, List.set_cons_succ]
                refine takeD (i := 10) (v := .int .i64 (k : Int)) 82 rfl rfl (by kernel_rfl) (by kernel_rfl) (by kernel_rfl) (fun _ _ _ h => h) (Or.inl ⟨by rfl, fun X hX => by go_simp⟩) hS ?_
                simp only [Act.put, List.setIfInBounds_toArray, List.set_cons_zero, List.set_cons_succ]
                refine takeD (i := 11) (v := .pointer (some ⟨b, off + k * 3, none⟩)) 83 rfl rfl (by kernel_rfl) (by kernel_rfl) (by kernel_rfl) (fun _ _ _ h => h) (Or.inl ⟨by rfl, fun X hX => by go_simp⟩) hS ?_
                simp only [Act.put, List.setIfInBounds_toArray, List.set_cons_zero, List.set_cons_succ]
                refine takeD (i := 12) (v := .pointer (some ⟨b, off + k * 3 + 1, none⟩)) 84 rfl rfl (by kernel_rfl) (by kernel_rfl) (by kernel_rfl) (fun _ _ _ h => h) (Or.inl ⟨by rfl, fun X hX => by go_simp⟩) hS ?_
                simp only [Act.put, List.setIfInBounds_toArray, List.set_cons_zero, List.set_cons_succ]
                refine takeD (i := 13) (v := .int .i64 O) 85 rfl rfl (by kernel_rfl) (by kernel_rfl) (by kernel_rfl) (fun _ _ _ h => h) (Or.inl ⟨by rfl, fun X hX => by have hc := hX.1; go_simp⟩) hS ?_
                simp only [Act.put, List.setIfInBounds_toArray, List.set_cons_zero, List.set_cons_succ]
                refine wpAnyH_ready (rs := [14]) (by kernel_rfl) (by simp) (AllReadyH.cons rfl (fun K hK => ?_) AllReadyH.nil)
                go_simp
                refine (HLO.out _ hS.2.out.bel).mono ?_
                rintro e X ⟨rfl, rfl⟩
                refine hK.out _ _ hS (fun h2 => ?_)
                clear hK K
                refine wpAnyH_ready (rs := [15]) (by kernel_rfl) (by simp) (AllReadyH.cons rfl (fun K hK => ?_) AllReadyH.nil)
                go_simp
                refine (HTL.out _).mono ?_
                rintro e W4 ⟨rfl, hb4⟩
                refine hK.out _ _ ⟨cell_below hb4 h2.1, h2.2.out.below hb4⟩ (fun h3 => ?_)
                clear hK K
                refine takeD (i := 16) (v := .bool true) 88 rfl rfl (by kernel_rfl) (by kernel_rfl) (by kernel_rfl) (fun _ _ _ h => h) (Or.inl ⟨by rfl, fun X hX => by go_simp⟩) h3 ?_
                simp only [Act.put, List.setIfInBounds_toArray, List.set_cons_zero, List.set_cons_succ]
                refine takeD (i := 17) (v := .bool true) 89 rfl rfl (by kernel_rfl) (by kernel_rfl) (by kernel_rfl) (fun _ _ _ h => h) (Or.inl ⟨by rfl, fun X hX => by go_simp⟩) h3 ?_
                simp only [Act.put, List.setIfInBounds_toArray, List.set_cons_zero, List.set_cons_succ]
                refine takeD (i := 18) (v := .bool false) 90 rfl rfl (by kernel_rfl) (by kernel_rfl) (by kernel_rfl) (fun _ _ _ h => h) (Or.inl ⟨by rfl, fun X hX => by go_simp⟩) h3 ?_
                simp only [Act.put, List.setIfInBounds_toArray, List.set_cons_zero, List.set_cons_succ]
                refine takeD (i := 19) (v := .bool false) 91 rfl rfl (by kernel_rfl) (by kernel_rfl) (by kernel_rfl) (fun _ _ _ h => h) (Or.inl ⟨by rfl, fun X hX => by go_simp⟩) h3 ?_
                simp only [Act.put, List.setIfInBounds_toArray, List.set_cons_zero, List.set_cons_succ]
                refine takeD (i := 20) (v := .bool false) 92 rfl rfl (by kernel_rfl) (by kernel_rfl) (by kernel_rfl) (fun _ _ _ h => h) (Or.inl ⟨by rfl, fun X hX => by go_simp⟩) h3 ?_
                simp only [Act.put, List.setIfInBounds_toArray, List.set_cons_zero, List.set_cons_succ]
                refine wpAnyH_done (by kernel_rfl) ?_ _
                have HX4 := Lib.hid h3.2.out
                clear h3 h2 hS hb4
                go_wp2_with fail
                go_roundw
                case rel => exact ⟨k + 1, by omega, by omega, by go_num, by rw [HGN.out]; exact HX4.out⟩
                case measure => simp [intOf]; omega
              · have hbb2 : (!(S.toList == T.toList)) = false := by rw [hbb]; rfl
                go_upto_region 11 with fail
                refine wp_region_held_drew (S := fun X : World => X.cell? ⟨b, off + k * 3 + 1, none⟩ = some (.int .i64 O) ∧ Hid (TxI w q F gn X)) (by kernel_rfl) ⟨e1, HX3.out.below (Below.refl _ _).drew⟩ (fun hS => ?_)
                refine takeD (i := 0) (v := .int .i64 70) 72 rfl rfl (by kernel_rfl) (by kernel_rfl) (by kernel_rfl) (fun _ _ _ h => h) (Or.inl ⟨by rfl, fun X hX => by go_simp⟩) hS ?_
                simp only [Act.put, List.setIfInBounds_toArray, List.set_cons_zero, List.set_cons_succ]
                refine takeD (i := 1) (v := .bool false) 73 rfl rfl (by kernel_rfl) (by kernel_rfl) (by kernel_rfl) (fun _ _ _ h => h) (Or.inl ⟨by rfl, fun X hX => by go_simp⟩) hS ?_
                simp only [Act.put, List.setIfInBounds_toArray, List.set_cons_zero, List.set_cons_succ]
                refine takeD (i := 2) (v := .bool false) 74 rfl rfl (by kernel_rfl) (by kernel_rfl) (by kernel_rfl) (fun _ _ _ h => h) (Or.inl ⟨by rfl, fun X hX => by go_simp⟩) hS ?_
                simp only [Act.put, List.setIfInBounds_toArray, List.set_cons_zero, List.set_cons_succ]
                refine takeD (i := 3) (v := .bool false) 75 rfl rfl (by kernel_rfl) (by kernel_rfl) (by kernel_rfl) (fun _ _ _ h => h) (Or.inl ⟨by rfl, fun X hX => by go_simp⟩) hS ?_
                simp only [Act.put, List.setIfInBounds_toArray, List.set_cons_zero, List.set_cons_succ]
                refine takeD (i := 4) (v := .bool false) 76 rfl rfl (by kernel_rfl) (by kernel_rfl) (by kernel_rfl) (fun _ _ _ h => h) (Or.inl ⟨by rfl, fun X hX => by go_simp⟩) hS ?_
                simp only [Act.put, List.setIfInBounds_toArray, List.set_cons_zero, List.set_cons_succ]
                refine takeD (i := 5) (v := .string S) 77 rfl rfl (by kernel_rfl) (by kernel_rfl) (by kernel_rfl) (fun _ _ _ h => h) (Or.inl ⟨by rfl, fun X hX => by go_simp⟩) hS ?_
                simp only [Act.put, List.setIfInBounds_toArray, List.set_cons_zero, List.set_cons_succ]
                refine takeD (i := 6) (v := .slice (some ⟨b, off, none⟩) n c) 78 rfl rfl (by kernel_rfl) (by kernel_rfl) (by kernel_rfl) (fun _ _ _ h => h) (Or.inl ⟨by rfl, fun X hX => by go_simp⟩) hS ?_
                simp only [Act.put, List.setIfInBounds_toArray, List.set_cons_zero, List.set_cons_succ]
                refine takeD (i := 7) (v := .int .i64 (k : Int)) 79 rfl rfl (by kernel_rfl) (by kernel_rfl) (by kernel_rfl) (fun _ _ _ h => h) (Or.inl ⟨by rfl, fun X hX => by go_simp⟩) hS ?_
                simp only [Act.put, List.setIfInBounds_toArray, List.set_cons_zero, List.set_cons_succ]
                refine takeD (i := 8) (v := .slice (some ⟨b, off, none⟩) k c) 80 rfl rfl (by kernel_rfl) (by kernel_rfl) (by kernel_rfl) (fun _ _ _ h => h) (Or.inl ⟨by rfl, fun X hX => by go_simp; try (intro h; omega)⟩) hS ?_
                simp only [Act.put, List.setIfInBounds_toArray, List.set_cons_zero, List.set_cons_succ]
                refine takeD (i := 9) (v := .slice (some ⟨b, off, none⟩) n c) 81 rfl rfl (by kernel_rfl) (by kernel_rfl) (by kernel_rfl) (fun _ _ _ h => h) (Or.inl ⟨by rfl, fun X hX => by go_simp⟩) hS ?_
                simp only [Act.put, List.setIfInBounds_toArray, List.set_cons_zero, List.set_cons_succ]
                refine takeD (i := 10) (v := .int .i64 (k : Int)) 82 rfl rfl (by kernel_rfl) (by kernel_rfl) (by kernel_rfl) (fun _ _ _ h => h) (Or.inl ⟨by rfl, fun X hX => by go_simp⟩) hS ?_
                simp only [Act.put, List.setIfInBounds_toArray, List.set_cons_zero, List.set_cons_succ]
                refine takeD (i := 11) (v := .pointer (some ⟨b, off + k * 3, none⟩)) 83 rfl rfl (by kernel_rfl) (by kernel_rfl) (by kernel_rfl) (fun _ _ _ h => h) (Or.inl ⟨by rfl, fun X hX => by go_simp⟩) hS ?_
                simp only [Act.put, List.setIfInBounds_toArray, List.set_cons_zero, List.set_cons_succ]
                refine takeD (i := 12) (v := .pointer (some ⟨b, off + k * 3 + 1, none⟩)) 84 rfl rfl (by kernel_rfl) (by kernel_rfl) (by kernel_rfl) (fun _ _ _ h => h) (Or.inl ⟨by rfl, fun X hX => by go_simp⟩) hS ?_
                simp only [Act.put, List.setIfInBounds_toArray, List.set_cons_zero, List.set_cons_succ]
                refine takeD (i := 13) (v := .int .i64 O) 85 rfl rfl (by kernel_rfl) (by kernel_rfl) (by kernel_rfl) (fun _ _ _ h => h) (Or.inl ⟨by rfl, fun X hX => by have hc := hX.1; go_simp⟩) hS ?_
                simp only [Act.put, List.setIfInBounds_toArray, List.set_cons_zero, List.set_cons_succ]
                refine wpAnyH_ready (rs := [14]) (by kernel_rfl) (by simp) (AllReadyH.cons rfl (fun K hK => ?_) AllReadyH.nil)
                go_simp
                refine (HLO.out _ hS.2.out.bel).mono ?_
                rintro e X ⟨rfl, rfl⟩
                refine hK.out _ _ hS (fun h2 => ?_)
                clear hK K
                refine wpAnyH_ready (rs := [15]) (by kernel_rfl) (by simp) (AllReadyH.cons rfl (fun K hK => ?_) AllReadyH.nil)
                go_simp
                refine (HTL.out _).mono ?_
                rintro e W4 ⟨rfl, hb4⟩
                refine hK.out _ _ ⟨cell_below hb4 h2.1, h2.2.out.below hb4⟩ (fun h3 => ?_)
                clear hK K
                refine takeD (i := 16) (v := .bool false) 88 rfl rfl (by kernel_rfl) (by kernel_rfl) (by kernel_rfl) (fun _ _ _ h => h) (Or.inl ⟨by rfl, fun X hX => by go_simp⟩) h3 ?_
                simp only [Act.put, List.setIfInBounds_toArray, List.set_cons_zero, List.set_cons_succ]
                refine takeD (i := 17) (v := .bool false) 89 rfl rfl (by kernel_rfl) (by kernel_rfl) (by kernel_rfl) (fun _ _ _ h => h) (Or.inl ⟨by rfl, fun X hX => by go_simp⟩) h3 ?_
                simp only [Act.put, List.setIfInBounds_toArray, List.set_cons_zero, List.set_cons_succ]
                refine takeD (i := 18) (v := undef) 90 rfl rfl (by kernel_rfl) (by kernel_rfl) (by kernel_rfl) (fun _ _ _ h => h) (Or.inr ⟨by rfl, rfl⟩) h3 ?_
                simp only [Act.put, List.setIfInBounds_toArray, List.set_cons_zero, List.set_cons_succ]
                refine takeD (i := 19) (v := .bool false) 91 rfl rfl (by kernel_rfl) (by kernel_rfl) (by kernel_rfl) (fun _ _ _ h => h) (Or.inl ⟨by rfl, fun X hX => by go_simp⟩) h3 ?_
                simp only [Act.put, List.setIfInBounds_toArray, List.set_cons_zero, List.set_cons_succ]
                refine takeD (i := 20) (v := .bool false) 92 rfl rfl (by kernel_rfl) (by kernel_rfl) (by kernel_rfl) (fun _ _ _ h => h) (Or.inl ⟨by rfl, fun X hX => by go_simp⟩) h3 ?_
                simp only [Act.put, List.setIfInBounds_toArray, List.set_cons_zero, List.set_cons_succ]
                refine wpAnyH_done (by kernel_rfl) ?_ _
                have HX4 := Lib.hid h3.2.out
                clear h3 h2 hS hb4
                go_wp2_with fail
                go_roundw
                case rel => exact ⟨k + 1, by omega, by omega, by go_num, by rw [HGN.out]; exact HX4.out⟩
                case measure => simp [intOf]; omega
            · cases bb
              · have hbb2 : (!(S.toList == T.toList)) = true := by rw [hbb]; rfl
                go_upto_region 11 with fail
                refine wp_region_held_drew (S := fun X : World => X.cell? ⟨b, off + k * 3 + 1, none⟩ = some (.int .i64 O) ∧ Hid (TxI w q F gn X)) (by kernel_rfl) ⟨e1, HX3.out.below (Below.refl _ _).drew⟩ (fun hS => ?_)
                refine takeD (i := 0) (v := .int .i64 70) 72 rfl rfl (by kernel_rfl) (by kernel_rfl) (by kernel_rfl) (fun _ _ _ h => h) (Or.inl ⟨by rfl, fun X hX => by go_simp⟩) hS ?_
                simp only [Act.put, List.setIfInBounds_toArray, List.set_cons_zero, List.set_cons_succ]
                refine takeD (i := 1) (v := .bool false) 73 rfl rfl (by kernel_rfl) (by kernel_rfl) (by kernel_rfl) (fun _ _ _ h => h) (Or.inl ⟨by rfl, fun X hX => by go_simp⟩) hS ?_
                simp only [Act.put, List.setIfInBounds_toArray, List.set_cons_zero, List.set_cons_succ]
                refine takeD (i := 2) (v := .bool false) 74 rfl rfl (by kernel_rfl) (by kernel_rfl) (by kernel_rfl) (fun _ _ _ h => h) (Or.inl ⟨by rfl, fun X hX => by go_simp⟩) hS ?_
                simp only [Act.put, List.setIfInBounds_toArray, List.set_cons_zero, List.set_cons_succ]
                refine takeD (i := 3) (v := .bool false) 75 rfl rfl (by kernel_rfl) (by kernel_rfl) (by kernel_rfl) (fun _ _ _ h => h) (Or.inl ⟨by rfl, fun X hX => by go_simp⟩) hS ?_
                simp only [Act.put, List.setIfInBounds_toArray, List.set_cons_zero, List.set_cons_succ]
                refine takeD (i := 4) (v := .bool false) 76 rfl rfl (by kernel_rfl) (by kernel_rfl) (by kernel_rfl) (fun _ _ _ h => h) (Or.inl ⟨by rfl, fun X hX => by go_simp⟩) hS ?_
                simp only [Act.put, List.setIfInBounds_toArray, List.set_cons_zero, List.set_cons_succ]
                refine takeD (i := 5) (v := .string S) 77 rfl rfl (by kernel_rfl) (by kernel_rfl) (by kernel_rfl) (fun _ _ _ h => h) (Or.inl ⟨by rfl, fun X hX => by go_simp⟩) hS ?_
                simp only [Act.put, List.setIfInBounds_toArray, List.set_cons_zero, List.set_cons_succ]
                refine takeD (i := 6) (v := .slice (some ⟨b, off, none⟩) n c) 78 rfl rfl (by kernel_rfl) (by kernel_rfl) (by kernel_rfl) (fun _ _ _ h => h) (Or.inl ⟨by rfl, fun X hX => by go_simp⟩) hS ?_
                simp only [Act.put, List.setIfInBounds_toArray, List.set_cons_zero, List.set_cons_succ]
                refine takeD (i := 7) (v := .int .i64 (k : Int)) 79 rfl rfl (by kernel_rfl) (by kernel_rfl) (by kernel_rfl) (fun _ _ _ h => h) (Or.inl ⟨by rfl, fun X hX => by go_simp⟩) hS ?_
                simp only [Act.put, List.setIfInBounds_toArray, List.set_cons_zero, List.set_cons_succ]
                refine takeD (i := 8) (v := .slice (some ⟨b, off, none⟩) k c) 80 rfl rfl (by kernel_rfl) (by kernel_rfl) (by kernel_rfl) (fun _ _ _ h => h) (Or.inl ⟨by rfl, fun X hX => by go_simp; try (intro h; omega)⟩) hS ?_
                simp only [Act.put, List.setIfInBounds_toArray, List.set_cons_zero, List.set_cons_succ]
                refine takeD (i := 9) (v := .slice (some ⟨b, off, none⟩) n c) 81 rfl rfl (by kernel_rfl) (by kernel_rfl) (by kernel_rfl) (fun _ _ _ h => h) (Or.inl ⟨by rfl, fun X hX => by go_simp⟩) hS ?_
                simp only [Act.put, List.setIfInBounds_toArray, List.set_cons_zero, List.set_cons_succ]
                refine takeD (i := 10) (v := .int .i64 (k : Int)) 82 rfl rfl (by kernel_rfl) (by kernel_rfl) (by kernel_rfl) (fun _ _ _ h => h) (Or.inl ⟨by rfl, fun X hX => by go_simp⟩) hS ?_
                simp only [Act.put, List.setIfInBounds_toArray, List.set_cons_zero, List.set_cons_succ]
                refine takeD (i := 11) (v := .pointer (some ⟨b, off + k * 3, none⟩)) 83 rfl rfl (by kernel_rfl) (by kernel_rfl) (by kernel_rfl) (fun _ _ _ h => h) (Or.inl ⟨by rfl, fun X hX => by go_simp⟩) hS ?_
                simp only [Act.put, List.setIfInBounds_toArray, List.set_cons_zero, List.set_cons_succ]
                refine takeD (i := 12) (v := .pointer (some ⟨b, off + k * 3 + 1, none⟩)) 84 rfl rfl (by kernel_rfl) (by kernel_rfl) (by kernel_rfl) (fun _ _ _ h => h) (Or.inl ⟨by rfl, fun X hX => by go_simp⟩) hS ?_
                simp only [Act.put, List.setIfInBounds_toArray, List.set_cons_zero, List.set_cons_succ]
                refine takeD (i := 13) (v := .int .i64 O) 85 rfl rfl (by kernel_rfl) (by kernel_rfl) (by kernel_rfl) (fun _ _ _ h => h) (Or.inl ⟨by rfl, fun X hX => by have hc := hX.1; go_simp⟩) hS ?_
                simp only [Act.put, List.setIfInBounds_toArray, List.set_cons_zero, List.set_cons_succ]
                refine wpAnyH_ready (rs := [14]) (by kernel_rfl) (by simp) (AllReadyH.cons rfl (fun K hK => ?_) AllReadyH.nil)
                go_simp
                refine (HLO.out _ hS.2.out.bel).mono ?_
                rintro e X ⟨rfl, rfl⟩
                refine hK.out _ _ hS (fun h2 => ?_)
                clear hK K
                refine wpAnyH_ready (rs := [15]) (by kernel_rfl) (by simp) (AllReadyH.cons rfl (fun K hK => ?_) AllReadyH.nil)
                go_simp
                refine (HTL.out _).mono ?_
                rintro e W4 ⟨rfl, hb4⟩
                refine hK.out _ _ ⟨cell_below hb4 h2.1, h2.2.out.below hb4⟩ (fun h3 => ?_)
                clear hK K
                refine takeD (i := 16) (v := .bool true) 88 rfl rfl (by kernel_rfl) (by kernel_rfl) (by kernel_rfl) (fun _ _ _ h => h) (Or.inl ⟨by rfl, fun X hX => by go_simp⟩) h3 ?_
                simp only [Act.put, List.setIfInBounds_toArray, List.set_cons_zero, List.set_cons_succ]
                refine takeD (i := 17) (v := .bool true) 89 rfl rfl (by kernel_rfl) (by kernel_rfl) (by kernel_rfl) (fun _ _ _ h => h) (Or.inl ⟨by rfl, fun X hX => by go_simp⟩) h3 ?_
                simp only [Act.put, List.setIfInBounds_toArray, List.set_cons_zero, List.set_cons_succ]
                refine takeD (i := 18) (v := .bool false) 90 rfl rfl (by kernel_rfl) (by kernel_rfl) (by kernel_rfl) (fun _ _ _ h => h) (Or.inl ⟨by rfl, fun X hX => by go_simp⟩) h3 ?_
                simp only [Act.put, List.setIfInBounds_toArray, List.set_cons_zero, List.set_cons_succ]
                refine takeD (i := 19) (v := .bool false) 91 rfl rfl (by kernel_rfl) (by kernel_rfl) (by kernel_rfl) (fun _ _ _ h => h) (Or.inl ⟨by rfl, fun X hX => by go_simp⟩) h3 ?_
                simp only [Act.put, List.setIfInBounds_toArray, List.set_cons_zero, List.set_cons_succ]
                refine takeD (i := 20) (v := .bool false) 92 rfl rfl (by kernel_rfl) (by kernel_rfl) (by kernel_rfl) (fun _ _ _ h => h) (Or.inl ⟨by rfl, fun X hX => by go_simp⟩) h3 ?_
                simp only [Act.put, List.setIfInBounds_toArray, List.set_cons_zero, List.set_cons_succ]
                refine wpAnyH_done (by kernel_rfl) ?_ _
                have HX4 := Lib.hid h3.2.out
                clear h3 h2 hS hb4
                go_wp2_with fail
                go_roundw
                case rel => exact ⟨k + 1, by omega, by omega, by go_num, by rw [HGN.out]; exact HX4.out⟩
                case measure => simp [intOf]; omega
              · have hbb2 : (!(S.toList == T.toList)) = false := by rw [hbb]; rfl
                go_upto_region 11 with fail
                refine wp_region_held_drew (S := fun X : World => X.cell? ⟨b, off + k * 3 + 1, none⟩ = some (.int .i64 O) ∧ Hid (TxI w q F gn X)) (by kernel_rfl) ⟨e1, HX3.out.below (Below.refl _ _).drew⟩ (fun hS => ?_)
                refine takeD (i := 0) (v := .int .i64 70) 72 rfl rfl (by kernel_rfl) (by kernel_rfl) (by kernel_rfl) (fun _ _ _ h => h) (Or.inl ⟨by rfl, fun X hX => by go_simp⟩) hS ?_
                simp only [Act.put, List.setIfInBounds_toArray, List.set_cons_zero, List.set_cons_succ]
                refine takeD (i := 1) (v := .bool false) 73 rfl rfl (by kernel_rfl) (by kernel_rfl) (by kernel_rfl) (fun _ _ _ h => h) (Or.inl ⟨by rfl, fun X hX => by go_simp⟩) hS ?_
                simp only [Act.put, List.setIfInBounds_toArray, List.set_cons_zero, List.set_cons_succ]
                refine takeD (i := 2) (v := .bool false) 74 rfl rfl (by kernel_rfl) (by kernel_rfl) (by kernel_rfl) (fun _ _ _ h => h) (Or.inl ⟨by rfl, fun X hX => by go_simp⟩) hS ?_
                simp only [Act.put, List.setIfInBounds_toArray, List.set_cons_zero, List.set_cons_succ]
                refine takeD (i := 3) (v := .bool false) 75 rfl rfl (by kernel_rfl) (by kernel_rfl) (by kernel_rfl) (fun _ _ _ h => h) (Or.inl ⟨by rfl, fun X hX => by go_simp⟩) hS ?_
                simp only [Act.put, List.setIfInBounds_toArray, List.set_cons_zero, List.set_cons_succ]
                refine takeD (i := 4) (v := .bool false) 76 rfl rfl (by kernel_rfl) (by kernel_rfl) (by kernel_rfl) (fun _ _ _ h => h) (Or.inl ⟨by rfl, fun X hX => by go_simp⟩) hS ?_
                simp only [Act.put, List.setIfInBounds_toArray, List.set_cons_zero, List.set_cons_succ]
                refine takeD (i := 5) (v := .string S) 77 rfl rfl (by kernel_rfl) (by kernel_rfl) (by kernel_rfl) (fun _ _ _ h => h) (Or.inl ⟨by rfl, fun X hX => by go_simp⟩) hS ?_
                simp only [Act.put, List.setIfInBounds_toArray, List.set_cons_zero, List.set_cons_succ]
                refine takeD (i := 6) (v := .slice (some ⟨b, off, none⟩) n c) 78 rfl rfl (by kernel_rfl) (by kernel_rfl) (by kernel_rfl) (fun _ _ _ h => h) (Or.inl ⟨by rfl, fun X hX => by go_simp⟩) hS ?_
                simp only [Act.put, List.setIfInBounds_toArray, List.set_cons_zero, List.set_cons_succ]
                refine takeD (i := 7) (v := .int .i64 (k : Int)) 79 rfl rfl (by kernel_rfl) (by kernel_rfl) (by kernel_rfl) (fun _ _ _ h => h) (Or.inl ⟨by rfl, fun X hX => by go_simp⟩) hS ?_
                simp only [Act.put, List.setIfInBounds_toArray, List.set_cons_zero, List.set_cons_succ]
                refine takeD (i := 8) (v := .slice (some ⟨b, off, none⟩) k c) 80 rfl rfl (by kernel_rfl) (by kernel_rfl) (by kernel_rfl) (fun _ _ _ h => h) (Or.inl ⟨by rfl, fun X hX => by go_simp; try (intro h; omega)⟩) hS ?_
                simp only [Act.put, List.setIfInBounds_toArray, List.set_cons_zero, List.set_cons_succ]
                refine takeD (i := 9) (v := .slice (some ⟨b, off, none⟩) n c) 81 rfl rfl (by kernel_rfl) (by kernel_rfl) (by kernel_rfl) (fun _ _ _ h => h) (Or.inl ⟨by rfl, fun X hX => by go_simp⟩) hS ?_
                simp only [Act.put, List.setIfInBounds_toArray, List.set_cons_zero, List.set_cons_succ]
                refine takeD (i := 10) (v := .int .i64 (k : Int)) 82 rfl rfl (by kernel_rfl) (by kernel_rfl) (by kernel_rfl) (fun _ _ _ h => h) (Or.inl ⟨by rfl, fun X hX => by go_simp⟩) hS ?_
                simp only [Act.put, List.setIfInBounds_toArray, List.set_cons_zero, List.set_cons_succ]
                refine takeD (i := 11) (v := .pointer (some ⟨b, off + k * 3, none⟩)) 83 rfl rfl (by kernel_rfl) (by kernel_rfl) (by kernel_rfl) (fun _ _ _ h => h) (Or.inl ⟨by rfl, fun X hX => by go_simp⟩) hS ?_
                simp only [Act.put, List.setIfInBounds_toArray, List.set_cons_zero, List.set_cons_succ]
                refine takeD (i := 12) (v := .pointer (some ⟨b, off + k * 3 + 1, none⟩)) 84 rfl rfl (by kernel_rfl) (by kernel_rfl) (by kernel_rfl) (fun _ _ _ h => h) (Or.inl ⟨by rfl, fun X hX => by go_simp⟩) hS ?_
                simp only [Act.put, List.setIfInBounds_toArray, List.set_cons_zero, List.set_cons_succ]
                refine takeD (i := 13) (v := .int .i64 O) 85 rfl rfl (by kernel_rfl) (by kernel_rfl) (by kernel_rfl) (fun _ _ _ h => h) (Or.inl ⟨by rfl, fun X hX => by have hc := hX.1; go_simp⟩) hS ?_
                simp only [Act.put, List.setIfInBounds_toArray, List.set_cons_zero, List.set_cons_succ]
                refine wpAnyH_ready (rs := [14]) (by kernel_rfl) (by simp) (AllReadyH.cons rfl (fun K hK => ?_) AllReadyH.nil)
                go_simp
                refine (HLO.out _ hS.2.out.bel).mono ?_
                rintro e X ⟨rfl, rfl⟩
                refine hK.out _ _ hS (fun h2 => ?_)
                clear hK K
                refine wpAnyH_ready (rs := [15]) (by kernel_rfl) (by simp) (AllReadyH.cons rfl (fun K hK => ?_) AllReadyH.nil)
                go_simp
                refine (HTL.out _).mono ?_
                rintro e W4 ⟨rfl, hb4⟩
                refine hK.out _ _ ⟨cell_below hb4 h2.1, h2.2.out.below hb4⟩ (fun h3 => ?_)
                clear hK K
                refine takeD (i := 16) (v := .bool false) 88 rfl rfl (by kernel_rfl) (by kernel_rfl) (by kernel_rfl) (fun _ _ _ h => h) (Or.inl ⟨by rfl, fun X hX => by go_simp⟩) h3 ?_
                simp only [Act.put, List.setIfInBounds_toArray, List.set_cons_zero, List.set_cons_succ]
                refine takeD (i := 17) (v := .bool false) 89 rfl rfl (by kernel_rfl) (by kernel_rfl) (by kernel_rfl) (fun _ _ _ h => h) (Or.inl ⟨by rfl, fun X hX => by go_simp⟩) h3 ?_
                simp only [Act.put, List.setIfInBounds_toArray, List.set_cons_zero, List.set_cons_succ]
                refine takeD (i := 18) (v := undef) 90 rfl rfl (by kernel_rfl) (by kernel_rfl) (by kernel_rfl) (fun _ _ _ h => h) (Or.inr ⟨by rfl, rfl⟩) h3 ?_
                simp only [Act.put, List.setIfInBounds_toArray, List.set_cons_zero, List.set_cons_succ]
                refine takeD (i := 19) (v := .bool false) 91 rfl rfl (by kernel_rfl) (by kernel_rfl) (by kernel_rfl) (fun _ _ _ h => h) (Or.inl ⟨by rfl, fun X hX => by go_simp⟩) h3 ?_
                simp only [Act.put, List.setIfInBounds_toArray, List.set_cons_zero, List.set_cons_succ]
                refine takeD (i := 20) (v := .bool false) 92 rfl rfl (by kernel_rfl) (by kernel_rfl) (by kernel_rfl) (fun _ _ _ h => h) (Or.inl ⟨by rfl, fun X hX => by go_simp⟩) h3 ?_
                simp only [Act.put, List.setIfInBounds_toArray, List.set_cons_zero, List.set_cons_succ]
                refine wpAnyH_done (by kernel_rfl) ?_ _
                have HX4 := Lib.hid h3.2.out
                clear h3 h2 hS hb4
                go_wp2_with fail
                go_roundw
                case rel => exact ⟨k + 1, by omega, by omega, by go_num, by rw [HGN.out]; exact HX4.out⟩
                case measure => simp [intOf]; omega
      · simp only [if_true] at HNX
        have hd4 : decide ((k : Int) < 400) = true := by simp; omega
        go_wp2_with fail
        refine (cut_txt HX.out O ho1).mono ?_
        rintro e W2 ⟨v, rfl, ho, hx2, hc2⟩
        rw [← HNX.out] at hx2
        obtain ⟨A', c', rfl, hc1, hc3, hget⟩ := own_get ho
        have hcell : ∀ j : Nat, j < 512 → O ≤ (j : Int) → f j ≠ 0 → (Str.items (txts f) 0 O (j + 1)).length = (Str.items (txts f) 0 O j).length + 1 ∧ (Str.items (txts f) 0 O j).length < (Str.items (txts f) 0 O 512).length ∧
            ∃ g, A' = some ⟨g, 0, none⟩ ∧ ∀ X, Below W2.heap.size W2 X → X.cell? ⟨g, (Str.items (txts f) 0 O j).length, none⟩ = some (.string (Str.txt (f j))) := fun j hj h1 h2 => by
          obtain ⟨h3, h4⟩ := cut_item f O hj h1 h2
          obtain ⟨g, h5, h6⟩ := hget _ (.string (Str.txt (f j))) (by rw [List.getElem?_map, h3]; rfl)
          exact ⟨h4, (List.getElem?_eq_some_iff.1 h3).1, g, h5, fun X hX => cell_below hX h6⟩
        have hno : ∀ j : Nat, (j : Int) < O ∨ f j = 0 → (Str.items (txts f) 0 O (j + 1)).length = (Str.items (txts f) 0 O j).length := fun j h => by rw [cut_noitem f O j h]
        have hle : ∀ j : Nat, j ≤ 512 → (Str.items (txts f) 0 O j).length ≤ 512 := fun j hj => Nat.le_trans (Str.items_len _ _ _ _) hj
        obtain ⟨cnt, hcnt⟩ : ∃ cnt : Nat → Nat, ∀ j, (Str.items (txts f) 0 O j).length = cnt j := ⟨_, fun _ => rfl⟩
        have hc0 : cnt 0 = 0 := by rw [← hcnt]; rfl
        simp only [hcnt] at hcell hno hle hc1 ⊢
        have HX2 := Lib.hid hx2
        have HEL := Lib.hid hcell
        have HNO := Lib.hid hno
        have HLE := Lib.hid hle
        clear hx2 hcell hno hle hget ho hc2 hcnt HX HNX
        try simp only [hd4]
        go_wp2_with fail
        try simp only [hd4]
        go_loopw [11, 12] (fun v11 v12 wi => ∃ j : Nat, j ≤ 512 ∧ v12 = .int .i64 j ∧ v11 = .int .i64 (cnt j) ∧ Hid (Below W2.heap.size W2 wi)) (fun _ v12 _ => 512 - (intOf v12).toNat)
        case atStart => exact ⟨0, by omega, rfl, by rw [hc0]; rfl, Below.refl _ _⟩
        case round =>
          obtain ⟨j, hj, rfl, rfl, HB⟩ := hrel
          have HXJ := Lib.hid (HX2.out.below HB.out)
          obtain ⟨e0, e1, e2⟩ := HCEL.out _ HXJ.out.bel
          have hcj := HLE.out j hj
          by_cases hjl : j < 512
          · by_cases h1 : O ≤ (j : Int)
            · have hfj := HRL.out j hjl
              have hlb := HLB.out j
              have HLJ := Lib.hid (fun X hX => HLA.out X hX j)
              by_cases hz : la j = 0
              · have hnx := HNO.out j (.inr (hfj.trans hz))
                rw [hz] at HLJ
                go_wp2_with fail
                refine (HLJ.out _ HXJ.out.bel).mono ?_
                rintro e X ⟨rfl, rfl⟩
                go_wp2_with fail
                go_roundw
                case rel => exact ⟨j + 1, by omega, by go_num, by rw [hnx], HB⟩
                case measure => simp [intOf]; omega
              · obtain ⟨hnx, hlt2, g, rfl, hcl⟩ := HEL.out j hjl h1 (by rw [hfj]; exact hz)
                rw [hfj] at hcl
                have hcl0 := hcl _ HB.out
                have HCL := Lib.hid hcl
                have HTJ := Lib.hid (fun X : World => Str.text_any X (la j) hlb.1 hlb.2)
                have hz1 : (la j != 0) = true := by simpa using hz
                generalize Str.txt (la j) = T at *
                generalize la j = L at *
                clear hcl hfj hlb
                go_wp2_with fail
                refine (HLJ.out _ HXJ.out.bel).mono ?_
                rintro e X ⟨rfl, rfl⟩
                go_upto_region 19 with fail
                refine wp_region_held_drew (S := fun X : World => X.cell? ⟨g, cnt j, none⟩ = some (.string T) ∧ Hid (Below W2.heap.size W2 X)) (by kernel_rfl) ⟨hcl0, below_lift HB.out (Below.refl _ _).drew⟩ (fun hS => ?_)
                refine takeD (i := 0) (v := .int .i64 (cnt j)) 119 rfl rfl (by kernel_rfl) (by kernel_rfl) (by kernel_rfl) (fun _ _ _ h => h) (Or.inl ⟨by rfl, fun X hX => by go_simp; try (intro h; omega)⟩) hS ?_
                simp only [Act.put, List.setIfInBounds_toArray, List.set_cons_zero, List.set_cons_succ]
                refine takeD (i := 1) (v := .slice (some ⟨g, 0, none⟩) (cnt 512) c') 120 rfl rfl (by kernel_rfl) (by kernel_rfl) (by kernel_rfl) (fun _ _ _ h => h) (Or.inl ⟨by rfl, fun X hX => by go_simp; try (intro h; omega)⟩) hS ?_
                simp only [Act.put, List.setIfInBounds_toArray, List.set_cons_zero, List.set_cons_succ]
                refine takeD (i := 2) (v := .int .i64 (cnt 512)) 121 rfl rfl (by kernel_rfl) (by kernel_rfl) (by kernel_rfl) (fun _ _ _ h => h) (Or.inl ⟨by rfl, fun X hX => by go_simp; try (intro h; omega)⟩) hS ?_
                simp only [Act.put, List.setIfInBounds_toArray, List.set_cons_zero, List.set_cons_succ]
                refine takeD (i := 3) (v := .bool false) 122 rfl rfl (by kernel_rfl) (by kernel_rfl) (by kernel_rfl) (fun _ _ _ h => h) (Or.inl ⟨by rfl, fun X hX => by go_simp; try (intro h; omega)⟩) hS ?_
                simp only [Act.put, List.setIfInBounds_toArray, List.set_cons_zero, List.set_cons_succ]
                refine takeD (i := 4) (v := .bool false) 123 rfl rfl (by kernel_rfl) (by kernel_rfl) (by kernel_rfl) (fun _ _ _ h => h) (Or.inl ⟨by rfl, fun X hX => by go_simp; try (intro h; omega)⟩) hS ?_
                simp only [Act.put, List.setIfInBounds_toArray, List.set_cons_zero, List.set_cons_succ]
                refine takeD (i := 5) (v := .slice (some ⟨g, 0, none⟩) (cnt 512) c') 124 rfl rfl (by kernel_rfl) (by kernel_rfl) (by kernel_rfl) (fun _ _ _ h => h) (Or.inl ⟨by rfl, fun X hX => by go_simp; try (intro h; omega)⟩) hS ?_
                simp only [Act.put, List.setIfInBounds_toArray, List.set_cons_zero, List.set_cons_succ]
                refine takeD (i := 6) (v := .int .i64 (cnt j)) 125 rfl rfl (by kernel_rfl) (by kernel_rfl) (by kernel_rfl) (fun _ _ _ h => h) (Or.inl ⟨by rfl, fun X hX => by go_simp; try (intro h; omega)⟩) hS ?_
                simp only [Act.put, List.setIfInBounds_toArray, List.set_cons_zero, List.set_cons_succ]
                refine takeD (i := 7) (v := .pointer (some ⟨g, cnt j, none⟩)) 126 rfl rfl (by kernel_rfl) (by kernel_rfl) (by kernel_rfl) (fun _ _ _ h => h) (Or.inl ⟨by rfl, fun X hX => by go_simp; try (intro h; omega)⟩) hS ?_
                simp only [Act.put, List.setIfInBounds_toArray, List.set_cons_zero, List.set_cons_succ]
                refine takeD (i := 8) (v := .string T) 127 rfl rfl (by kernel_rfl) (by kernel_rfl) (by kernel_rfl) (fun _ _ _ h => h) (Or.inl ⟨by rfl, fun X hX => by have hc := hX.1; go_simp⟩) hS ?_
                simp only [Act.put, List.setIfInBounds_toArray, List.set_cons_zero, List.set_cons_succ]
                refine takeD (i := 9) (v := .slice (some ⟨b, off, none⟩) n c) 128 rfl rfl (by kernel_rfl) (by kernel_rfl) (by kernel_rfl) (fun _ _ _ h => h) (Or.inl ⟨by rfl, fun X hX => by go_simp; try (intro h; omega)⟩) hS ?_
                simp only [Act.put, List.setIfInBounds_toArray, List.set_cons_zero, List.set_cons_succ]
                refine takeD (i := 10) (v := .int .i64 (k : Int)) 129 rfl rfl (by kernel_rfl) (by kernel_rfl) (by kernel_rfl) (fun _ _ _ h => h) (Or.inl ⟨by rfl, fun X hX => by go_simp; try (intro h; omega)⟩) hS ?_
                simp only [Act.put, List.setIfInBounds_toArray, List.set_cons_zero, List.set_cons_succ]
                refine takeD (i := 11) (v := .slice (some ⟨b, off, none⟩) k c) 130 rfl rfl (by kernel_rfl) (by kernel_rfl) (by kernel_rfl) (fun _ _ _ h => h) (Or.inl ⟨by rfl, fun X hX => by go_simp; try (intro h; omega)⟩) hS ?_
                simp only [Act.put, List.setIfInBounds_toArray, List.set_cons_zero, List.set_cons_succ]
                refine takeD (i := 12) (v := .int .i64 (j : Int)) 131 rfl rfl (by kernel_rfl) (by kernel_rfl) (by kernel_rfl) (fun _ _ _ h => h) (Or.inl ⟨by rfl, fun X hX => by go_simp; try (intro h; omega)⟩) hS ?_
                simp only [Act.put, List.setIfInBounds_toArray, List.set_cons_zero, List.set_cons_succ]
                refine wpAnyH_ready (rs := [13]) (by kernel_rfl) (by simp) (AllReadyH.cons rfl (fun K hK => ?_) AllReadyH.nil)
                go_simp
                refine (HLJ.out _ (HX2.out.below hS.2.out).bel).mono ?_
                rintro e X ⟨rfl, rfl⟩
                refine hK.out _ _ hS (fun h2 => ?_)
                clear hK K
                refine wpAnyH_ready (rs := [14]) (by kernel_rfl) (by simp) (AllReadyH.cons rfl (fun K hK => ?_) AllReadyH.nil)
                go_simp
                refine (HTJ.out _).mono ?_
                rintro e W4 ⟨rfl, hb4⟩
                refine hK.out _ _ ⟨cell_below hb4 h2.1, below_lift h2.2.out hb4⟩ (fun h3 => ?_)
                clear hK K
                refine takeD (i := 15) (v := .bool false) 134 rfl rfl (by kernel_rfl) (by kernel_rfl) (by kernel_rfl) (fun _ _ _ h => h) (Or.inl ⟨by rfl, fun X hX => by go_simp⟩) h3 ?_
                simp only [Act.put, List.setIfInBounds_toArray, List.set_cons_zero, List.set_cons_succ]
                refine takeD (i := 16) (v := .bool false) 135 rfl rfl (by kernel_rfl) (by kernel_rfl) (by kernel_rfl) (fun _ _ _ h => h) (Or.inl ⟨by rfl, fun X hX => by go_simp⟩) h3 ?_
                simp only [Act.put, List.setIfInBounds_toArray, List.set_cons_zero, List.set_cons_succ]
                refine wpAnyH_done (by kernel_rfl) ?_ _
                have HB4 := Lib.hid h3.2.out
                clear h3 h2 hS hb4
                go_wp2_with fail
                go_roundw
                case rel => exact ⟨j + 1, by omega, by go_num, by rw [hnx]; go_num, HB4⟩
                case measure => simp [intOf]; omega
            · have hnx := HNO.out j (.inl (by omega))
              go_wp2_with fail
              go_roundw
              case rel => exact ⟨j + 1, by omega, by go_num, by rw [hnx], HB⟩
              case measure => simp [intOf]; omega
          · obtain rfl : 512 = j := by omega
            go_wp2_with fail
            go_roundw
            case rel => exact ⟨k + 1, by omega, by omega, by go_num, by rw [HGN.out]; exact HXJ.out⟩
            case measure => simp [intOf]; omega
    · have HX1 : Hid (TxI w q F (txts F) wr) := by
        have e : l.take k = l.take 400 := by
          rcases Nat.lt_or_ge k 400 with h | h
          · rw [List.take_of_length_le (by have := HR.out.1; omega), List.take_of_length_le (by have := HR.out.1; omega)]
          · rw [show k = 400 by omega]
        have := HX.out
        rw [e, HFE.out] at this
        exact this
      clear HX
      rcases (by omega : n = k ∨ (k < n ∧ k = 400)) with hk5 | ⟨hk5, hk6⟩
      · subst hk5
        go_wp2_with fail
        go_loopw [13] (fun v13 wi => ∃ j : Nat, j ≤ 512 ∧ v13 = .int .i64 j ∧ Hid (TxI w q F (txts F) wi)) (fun v13 _ => 512 - (intOf v13).toNat)
        case atStart => exact ⟨0, by omega, rfl, HX1⟩
        case round =>
          clear HX1
          obtain ⟨j, hj, rfl, HX⟩ := hrel
          obtain ⟨lb, ht, hl⟩ := HX.out.it
          obtain ⟨lb2, ht2, hl2⟩ := HX.out.st
          by_cases hjl : j < 512
          · have HG1 := Lib.hid (Str.get_any wr _ _ lb2 ht2 j hjl)
            have HG2 := Lib.hid (get_any wr _ _ lb ht j hjl)
            have hb := HF.out j hjl
            have HTJ := Lib.hid (Str.text_any wr (F j) hb.1 hb.2)
            change Hid (Calls Try.prog 29 _ wr fun e w' => e = .returned (.string (Str.txt (F j))) ∧ wr = w') at HG1
            generalize Str.txt (F j) = T at *
            generalize F j = L at *
            clear ht ht2 hl hl2 hb
            go_wp2_with fail
            refine HG1.out.mono ?_
            rintro e X ⟨rfl, rfl⟩
            go_wp2_with fail
            refine HG2.out.mono ?_
            rintro e X ⟨rfl, rfl⟩
            go_wp2_with fail
            refine HTJ.out.mono ?_
            rintro e W4 ⟨rfl, hb4⟩
            have HX4 := Lib.hid (HX.out.below hb4)
            clear hb4
            go_wp2_with fail
            go_roundw
            case rel => exact ⟨j + 1, by omega, by go_num, HX4⟩
            case measure => simp [intOf]; omega
          · obtain rfl : 512 = j := by omega
            have HG1 := Lib.hid (Str.len_any wr _ _ lb2 ht2)
            have HG2 := Lib.hid (len_any wr _ _ lb ht)
            rw [show Str.cntI (txts F) = cntI F from cnt_txts F 512] at HG1
            generalize cntI F = cn at *
            clear ht ht2 hl hl2
            go_wp2_with fail
            refine HG1.out.mono ?_
            rintro e X ⟨rfl, rfl⟩
            go_wp2_with fail
            refine HG2.out.mono ?_
            rintro e X ⟨rfl, rfl⟩
            go_wp2_with fail
            go_ret
            exact ⟨by simp, HX.out.bel⟩
      · subst hk6
        go_wp2_with fail
        go_loopw [13] (fun v13 wi => ∃ j : Nat, j ≤ 512 ∧ v13 = .int .i64 j ∧ Hid (TxI w q F (txts F) wi)) (fun v13 _ => 512 - (intOf v13).toNat)
        case atStart => exact ⟨0, by omega, rfl, HX1⟩
        case round =>
          clear HX1
          obtain ⟨j, hj, rfl, HX⟩ := hrel
          obtain ⟨lb, ht, hl⟩ := HX.out.it
          obtain ⟨lb2, ht2, hl2⟩ := HX.out.st
          by_cases hjl : j < 512
          · have HG1 := Lib.hid (Str.get_any wr _ _ lb2 ht2 j hjl)
            have HG2 := Lib.hid (get_any wr _ _ lb ht j hjl)
            have hb := HF.out j hjl
            have HTJ := Lib.hid (Str.text_any wr (F j) hb.1 hb.2)
            change Hid (Calls Try.prog 29 _ wr fun e w' => e = .returned (.string (Str.txt (F j))) ∧ wr = w') at HG1
            generalize Str.txt (F j) = T at *
            generalize F j = L at *
            clear ht ht2 hl hl2 hb
            go_wp2_with fail
            refine HG1.out.mono ?_
            rintro e X ⟨rfl, rfl⟩
            go_wp2_with fail
            refine HG2.out.mono ?_
            rintro e X ⟨rfl, rfl⟩
            go_wp2_with fail
            refine HTJ.out.mono ?_
            rintro e W4 ⟨rfl, hb4⟩
            have HX4 := Lib.hid (HX.out.below hb4)
            clear hb4
            go_wp2_with fail
            go_roundw
            case rel => exact ⟨j + 1, by omega, by go_num, HX4⟩
            case measure => simp [intOf]; omega
          · obtain rfl : 512 = j := by omega
            have HG1 := Lib.hid (Str.len_any wr _ _ lb2 ht2)
            have HG2 := Lib.hid (len_any wr _ _ lb ht)
            rw [show Str.cntI (txts F) = cntI F from cnt_txts F 512] at HG1
            generalize cntI F = cn at *
            clear ht ht2 hl hl2
            go_wp2_with fail
            refine HG1.out.mono ?_
            rintro e X ⟨rfl, rfl⟩
            go_wp2_with fail
            refine HG2.out.mono ?_
            rintro e X ⟨rfl, rfl⟩
            go_wp2_with fail
            go_ret
            exact ⟨by simp, HX.out.bel⟩

theorem RadixTexts.walk (W : World) (v0 : Value) (o0 : Puts W v0) : Calls Try.prog 6 #[v0] W fun e w' => e = .returned (.bool true) ∧ Below W.heap.size W w' := by
  obtain ⟨A, n, c, l, rfl, hr⟩ := o0
  exact radixTexts_any W A n c l hr

end Go.Proofs.Ytfljnfmocmhhdaa
