/-
What the statement RadixSpans computes of any script and any offset: true.
-/
import Derived.Test.YtfljnfmocmhhdaaLSp
import Derived.Deep.DeepCutAuto
import Derived.Deep.CutBlock
import Derived.Deep.CutRange
namespace Go.Proofs.Ytfljnfmocmhhdaa.Spn
open Go.RowKit Go.Shelf

set_option maxRecDepth 100000 in
set_option maxHeartbeats 8000000 in
theorem radixSpans_any (w : World) (A : Option Addr) (n c : Nat) (l : List PutV) (hr : RdT w A n c l) (off : Int) : Calls Try.prog 7 #[.slice A n c, .int .i64 off] w fun e w' => e = .returned (.bool true) ∧ Below w.heap.size w w' := by
  have hnc := hr.2.1
  have hn := hr.2.2.1
  have HR := Lib.hid hr
  clear hr
  have HPO := Lib.hid (fun X : World => place5_any off X)
  have hK := plc5_lt off
  generalize plc5 off = K at *
  go_enter Try.func7, Try.ntmps7
  go_wp2_with fail
  refine (new_one w).mono ?_
  rintro e w1 ⟨rfl, h1⟩
  have HX0 : Hid (∃ f, OneI w (w.heap.size + 1) f [] w1) := ⟨_, h1⟩
  clear h1
  go_wp2_with fail
  refine (HPO.out _).mono ?_
  rintro e X ⟨rfl, rfl⟩
  go_wp2_with fail
  go_loopw [6] (fun v6 wr => ∃ k : Nat, k ≤ n ∧ k ≤ 400 ∧ v6 = .int .i64 k ∧ Hid (∃ f, OneI w (w.heap.size + 1) f [] wr)) (fun v6 _ => n - (intOf v6).toNat)
  case atStart => exact ⟨0, by omega, by omega, rfl, HX0⟩
  case round =>
    clear HX0
    obtain ⟨k, hk, hk4, rfl, HX⟩ := hrel
    obtain ⟨f, hx⟩ := HX.out
    replace HX := Lib.hid hx
    clear hx
    by_cases hgo : k < n ∧ k < 400
    · obtain ⟨hlt, h400⟩ := hgo
      obtain ⟨bs, ofs, rfl, hbw, hh⟩ := (HR.out.below (OneI.bel HX.out)).2.2.2.2 (by omega)
      obtain ⟨p, hp⟩ : ∃ p, l[k]? = some p := ⟨_, List.getElem?_eq_getElem (by have := HR.out.1; omega)⟩
      obtain ⟨d0, d1, d2⟩ := hh k p hp
      obtain ⟨cut, O, V⟩ := p
      simp only at d0 d1 d2
      have HPL := Lib.hid (fun X : World => place5_any O X)
      clear hh hp hK HPO
      have hK := plc5_lt O
      generalize plc5 O = K at *
      obtain ⟨a, b, hab⟩ : ∃ a b, f K = (a, b) := ⟨_, _, rfl⟩
      rcases cut with _ | _
      · go_wp2_with fail
        refine (HPL.out _).mono ?_
        rintro e X ⟨rfl, rfl⟩
        go_wp2_with fail
        have HGT := Lib.hid (OneI.get (HX.out.box V K) K hK)
        rw [hab] at HGT
        simp only at HGT
        refine HGT.out.mono ?_
        rintro e W2 ⟨rfl, h2⟩
        obtain ⟨c1, c2⟩ := h2.cells (b := wr.heap.size) (x := V) (y := K) (by simp)
        have hlt2 := h2.lt (b := wr.heap.size) (x := V) (y := K) (by simp)
        have HST := Lib.hid (OneI.set (h2.box a b) K hK V K)
        rw [hab] at HST
        simp only at HST
        have HGF := Lib.hid (fun (L : List (Nat × Int × Int)) (X : World) (hX : OneI w (w.heap.size + 1) (upd f K (V, K)) L X) => OneI.get hX K hK)
        rw [upd_same] at HGF
        simp only at HGF
        generalize upd f K (V, K) = f' at *
        clear h2 HGT hab
        go_wp2_with fail
        refine HST.out.mono ?_
        rintro e W4 ⟨rfl, h4⟩
        have HX4 := Lib.hid h4
        clear h4 HST c1 c2 hlt2
        go_wp2_with fail
        refine wp_region_held_drew (S := fun X : World => Hid (OneI w (w.heap.size + 1) f' [(W4.heap.size, a, b), (W2.heap.size, a, b), (wr.heap.size, V, K)] X)) (by kernel_rfl) (Lib.hid (OneI.below (OneI.box HX4.out a b) (Below.refl _ _).drew)) (fun hS => ?_)
        refine takeD (i := 0) (v := .int .i64 0) 61 rfl rfl (by kernel_rfl) (by kernel_rfl) (by kernel_rfl) (fun _ _ _ h => h) (Or.inl ⟨by rfl, fun X hX => by go_simp⟩) hS ?_
        simp only [Act.put, List.setIfInBounds_toArray, List.set_cons_zero, List.set_cons_succ]
        refine takeD (i := 1) (v := .bool false) 62 rfl rfl (by kernel_rfl) (by kernel_rfl) (by kernel_rfl) (fun _ _ _ h => h) (Or.inl ⟨by rfl, fun X hX => by go_simp⟩) hS ?_
        simp only [Act.put, List.setIfInBounds_toArray, List.set_cons_zero, List.set_cons_succ]
        refine takeD (i := 2) (v := .bool false) 63 rfl rfl (by kernel_rfl) (by kernel_rfl) (by kernel_rfl) (fun _ _ _ h => h) (Or.inl ⟨by rfl, fun X hX => by go_simp⟩) hS ?_
        simp only [Act.put, List.setIfInBounds_toArray, List.set_cons_zero, List.set_cons_succ]
        refine takeD (i := 3) (v := .agg #[.int .i64 a, .int .i64 b]) 64 rfl rfl (by kernel_rfl) (by kernel_rfl) (by kernel_rfl) (fun _ _ _ h => h) (Or.inl ⟨by rfl, fun X hX => by obtain ⟨e1, e2⟩ := hX.out.cells (b := W4.heap.size) (x := a) (y := b) (by simp); go_simp⟩) hS ?_
        simp only [Act.put, List.setIfInBounds_toArray, List.set_cons_zero, List.set_cons_succ]
        refine takeD (i := 4) (v := .agg #[.int .i64 a, .int .i64 b]) 65 rfl rfl (by kernel_rfl) (by kernel_rfl) (by kernel_rfl) (fun _ _ _ h => h) (Or.inl ⟨by rfl, fun X hX => by obtain ⟨e1, e2⟩ := hX.out.cells (b := W2.heap.size) (x := a) (y := b) (by simp); go_simp⟩) hS ?_
        simp only [Act.put, List.setIfInBounds_toArray, List.set_cons_zero, List.set_cons_succ]
        refine takeD (i := 5) (v := .bool false) 66 rfl rfl (by kernel_rfl) (by kernel_rfl) (by kernel_rfl) (fun _ _ _ h => h) (Or.inl ⟨by rfl, fun X hX => by go_simp⟩) hS ?_
        simp only [Act.put, List.setIfInBounds_toArray, List.set_cons_zero, List.set_cons_succ]
        refine takeD (i := 6) (v := .bool false) 67 rfl rfl (by kernel_rfl) (by kernel_rfl) (by kernel_rfl) (fun _ _ _ h => h) (Or.inl ⟨by rfl, fun X hX => by go_simp⟩) hS ?_
        simp only [Act.put, List.setIfInBounds_toArray, List.set_cons_zero, List.set_cons_succ]
        refine takeD (i := 7) (v := .bool false) 68 rfl rfl (by kernel_rfl) (by kernel_rfl) (by kernel_rfl) (fun _ _ _ h => h) (Or.inl ⟨by rfl, fun X hX => by go_simp⟩) hS ?_
        simp only [Act.put, List.setIfInBounds_toArray, List.set_cons_zero, List.set_cons_succ]
        refine takeD (i := 8) (v := .pointer (some ⟨w.heap.size + 1, 0, none⟩)) 69 rfl rfl (by kernel_rfl) (by kernel_rfl) (by kernel_rfl) (fun _ _ _ h => h) (Or.inl ⟨by rfl, fun X hX => by go_simp⟩) hS ?_
        simp only [Act.put, List.setIfInBounds_toArray, List.set_cons_zero, List.set_cons_succ]
        refine takeD (i := 9) (v := .int .i64 (K : Int)) 70 rfl rfl (by kernel_rfl) (by kernel_rfl) (by kernel_rfl) (fun _ _ _ h => h) (Or.inl ⟨by rfl, fun X hX => by go_simp⟩) hS ?_
        simp only [Act.put, List.setIfInBounds_toArray, List.set_cons_zero, List.set_cons_succ]
        refine takeD (i := 11) (v := .agg #[.int .i64 V, .int .i64 K]) 72 rfl rfl (by kernel_rfl) (by kernel_rfl) (by kernel_rfl) (fun _ _ _ h => h) (Or.inl ⟨by rfl, fun X hX => by obtain ⟨e1, e2⟩ := hX.out.cells (b := wr.heap.size) (x := V) (y := K) (by simp); go_simp⟩) hS ?_
        simp only [Act.put, List.setIfInBounds_toArray, List.set_cons_zero, List.set_cons_succ]
        refine wpAnyH_ready (rs := [10]) (by kernel_rfl) (by simp) (AllReadyH.cons rfl (fun K0 hK0 => ?_) AllReadyH.nil)
        go_simp
        refine (HGF.out _ _ hS.out).mono ?_
        rintro e X ⟨rfl, h5⟩
        refine hK0.out _ _ (Lib.hid h5) (fun h3 => ?_)
        clear hK0 K0 h5 hS
        refine takeD (i := 12) (v := .bool false) 73 rfl rfl (by kernel_rfl) (by kernel_rfl) (by kernel_rfl) (fun _ _ _ h => h) (Or.inl ⟨by rfl, fun X hX => by go_simp⟩) h3 ?_
        simp only [Act.put, List.setIfInBounds_toArray, List.set_cons_zero, List.set_cons_succ]
        refine takeD (i := 13) (v := .bool false) 74 rfl rfl (by kernel_rfl) (by kernel_rfl) (by kernel_rfl) (fun _ _ _ h => h) (Or.inl ⟨by rfl, fun X hX => by go_simp⟩) h3 ?_
        simp only [Act.put, List.setIfInBounds_toArray, List.set_cons_zero, List.set_cons_succ]
        refine wpAnyH_done (by kernel_rfl) ?_ _
        have HX5 := Lib.hid (OneI.nil h3.out)
        clear h3
        go_wp2_with fail
        go_roundw
        case rel => exact ⟨k + 1, by omega, by omega, by go_num, ⟨f', HX5.out⟩⟩
        case measure => simp [intOf]; omega
      · go_wp2_with fail
        refine (HPL.out _).mono ?_
        rintro e X ⟨rfl, rfl⟩
        go_wp2_with fail
        have HGT := Lib.hid (OneI.get (HX.out.box 0 0) K hK)
        rw [hab] at HGT
        simp only at HGT
        refine HGT.out.mono ?_
        rintro e W2 ⟨rfl, h2⟩
        obtain ⟨c1, c2⟩ := h2.cells (b := wr.heap.size) (x := 0) (y := 0) (by simp)
        have hlt2 := h2.lt (b := wr.heap.size) (x := 0) (y := 0) (by simp)
        have HST := Lib.hid (OneI.set (h2.box a b) K hK 0 0)
        rw [hab] at HST
        simp only at HST
        have HGF := Lib.hid (fun (L : List (Nat × Int × Int)) (X : World) (hX : OneI w (w.heap.size + 1) (upd f K (0, 0)) L X) => OneI.get hX K hK)
        rw [upd_same] at HGF
        simp only at HGF
        generalize upd f K (0, 0) = f' at *
        clear h2 HGT hab
        go_wp2_with fail
        refine HST.out.mono ?_
        rintro e W4 ⟨rfl, h4⟩
        have HX4 := Lib.hid h4
        clear h4 HST c1 c2 hlt2
        go_wp2_with fail
        refine wp_region_held_drew (S := fun X : World => Hid (OneI w (w.heap.size + 1) f' [(W4.heap.size, a, b), (W2.heap.size, a, b), (wr.heap.size, 0, 0)] X)) (by kernel_rfl) (Lib.hid (OneI.below (OneI.box HX4.out a b) (Below.refl _ _).drew)) (fun hS => ?_)
        refine takeD (i := 0) (v := .int .i64 0) 61 rfl rfl (by kernel_rfl) (by kernel_rfl) (by kernel_rfl) (fun _ _ _ h => h) (Or.inl ⟨by rfl, fun X hX => by go_simp⟩) hS ?_
        simp only [Act.put, List.setIfInBounds_toArray, List.set_cons_zero, List.set_cons_succ]
        refine takeD (i := 1) (v := .bool false) 62 rfl rfl (by kernel_rfl) (by kernel_rfl) (by kernel_rfl) (fun _ _ _ h => h) (Or.inl ⟨by rfl, fun X hX => by go_simp⟩) hS ?_
        simp only [Act.put, List.setIfInBounds_toArray, List.set_cons_zero, List.set_cons_succ]
        refine takeD (i := 2) (v := .bool false) 63 rfl rfl (by kernel_rfl) (by kernel_rfl) (by kernel_rfl) (fun _ _ _ h => h) (Or.inl ⟨by rfl, fun X hX => by go_simp⟩) hS ?_
        simp only [Act.put, List.setIfInBounds_toArray, List.set_cons_zero, List.set_cons_succ]
        refine takeD (i := 3) (v := .agg #[.int .i64 a, .int .i64 b]) 64 rfl rfl (by kernel_rfl) (by kernel_rfl) (by kernel_rfl) (fun _ _ _ h => h) (Or.inl ⟨by rfl, fun X hX => by obtain ⟨e1, e2⟩ := hX.out.cells (b := W4.heap.size) (x := a) (y := b) (by simp); go_simp⟩) hS ?_
        simp only [Act.put, List.setIfInBounds_toArray, List.set_cons_zero, List.set_cons_succ]
        refine takeD (i := 4) (v := .agg #[.int .i64 a, .int .i64 b]) 65 rfl rfl (by kernel_rfl) (by kernel_rfl) (by kernel_rfl) (fun _ _ _ h => h) (Or.inl ⟨by rfl, fun X hX => by obtain ⟨e1, e2⟩ := hX.out.cells (b := W2.heap.size) (x := a) (y := b) (by simp); go_simp⟩) hS ?_
        simp only [Act.put, List.setIfInBounds_toArray, List.set_cons_zero, List.set_cons_succ]
        refine takeD (i := 5) (v := .bool false) 66 rfl rfl (by kernel_rfl) (by kernel_rfl) (by kernel_rfl) (fun _ _ _ h => h) (Or.inl ⟨by rfl, fun X hX => by go_simp⟩) hS ?_
        simp only [Act.put, List.setIfInBounds_toArray, List.set_cons_zero, List.set_cons_succ]
        refine takeD (i := 6) (v := .bool false) 67 rfl rfl (by kernel_rfl) (by kernel_rfl) (by kernel_rfl) (fun _ _ _ h => h) (Or.inl ⟨by rfl, fun X hX => by go_simp⟩) hS ?_
        simp only [Act.put, List.setIfInBounds_toArray, List.set_cons_zero, List.set_cons_succ]
        refine takeD (i := 7) (v := .bool false) 68 rfl rfl (by kernel_rfl) (by kernel_rfl) (by kernel_rfl) (fun _ _ _ h => h) (Or.inl ⟨by rfl, fun X hX => by go_simp⟩) hS ?_
        simp only [Act.put, List.setIfInBounds_toArray, List.set_cons_zero, List.set_cons_succ]
        refine takeD (i := 8) (v := .pointer (some ⟨w.heap.size + 1, 0, none⟩)) 69 rfl rfl (by kernel_rfl) (by kernel_rfl) (by kernel_rfl) (fun _ _ _ h => h) (Or.inl ⟨by rfl, fun X hX => by go_simp⟩) hS ?_
        simp only [Act.put, List.setIfInBounds_toArray, List.set_cons_zero, List.set_cons_succ]
        refine takeD (i := 9) (v := .int .i64 (K : Int)) 70 rfl rfl (by kernel_rfl) (by kernel_rfl) (by kernel_rfl) (fun _ _ _ h => h) (Or.inl ⟨by rfl, fun X hX => by go_simp⟩) hS ?_
        simp only [Act.put, List.setIfInBounds_toArray, List.set_cons_zero, List.set_cons_succ]
        refine takeD (i := 11) (v := .agg #[.int .i64 0, .int .i64 0]) 72 rfl rfl (by kernel_rfl) (by kernel_rfl) (by kernel_rfl) (fun _ _ _ h => h) (Or.inl ⟨by rfl, fun X hX => by obtain ⟨e1, e2⟩ := hX.out.cells (b := wr.heap.size) (x := 0) (y := 0) (by simp); go_simp⟩) hS ?_
        simp only [Act.put, List.setIfInBounds_toArray, List.set_cons_zero, List.set_cons_succ]
        refine wpAnyH_ready (rs := [10]) (by kernel_rfl) (by simp) (AllReadyH.cons rfl (fun K0 hK0 => ?_) AllReadyH.nil)
        go_simp
        refine (HGF.out _ _ hS.out).mono ?_
        rintro e X ⟨rfl, h5⟩
        refine hK0.out _ _ (Lib.hid h5) (fun h3 => ?_)
        clear hK0 K0 h5 hS
        refine takeD (i := 12) (v := .bool false) 73 rfl rfl (by kernel_rfl) (by kernel_rfl) (by kernel_rfl) (fun _ _ _ h => h) (Or.inl ⟨by rfl, fun X hX => by go_simp⟩) h3 ?_
        simp only [Act.put, List.setIfInBounds_toArray, List.set_cons_zero, List.set_cons_succ]
        refine takeD (i := 13) (v := .bool false) 74 rfl rfl (by kernel_rfl) (by kernel_rfl) (by kernel_rfl) (fun _ _ _ h => h) (Or.inl ⟨by rfl, fun X hX => by go_simp⟩) h3 ?_
        simp only [Act.put, List.setIfInBounds_toArray, List.set_cons_zero, List.set_cons_succ]
        refine wpAnyH_done (by kernel_rfl) ?_ _
        have HX5 := Lib.hid (OneI.nil h3.out)
        clear h3
        go_wp2_with fail
        go_roundw
        case rel => exact ⟨k + 1, by omega, by omega, by go_num, ⟨f', HX5.out⟩⟩
        case measure => simp [intOf]; omega
    · rcases (by omega : n = k ∨ (k < n ∧ k = 400)) with hk5 | ⟨hk5, hk6⟩
      · subst hk5
        have HCP := Lib.hid (OneI.copy HX.out)
        have HLN := Lib.hid (OneI.len HX.out)
        go_wp2_with fail
        refine HLN.out.mono ?_
        rintro e X ⟨rfl, rfl⟩
        go_wp2_with fail
        refine HCP.out.mono ?_
        rintro e W1 ⟨r2, rfl, h1⟩
        have HLC := Lib.hid (TwoI.len (TwoI.flip h1))
        have hz1 : (W1.alloc (.cells #[.int .i64 1, .int .i64 1] 56)).heap.size = W1.heap.size + 1 := by simp
        have h2 := TwoI.box (TwoI.box h1 1 1) 2 2
        rw [hz1] at h2
        have HT2 := Lib.hid h2
        clear h1 h2 hz1
        generalize hN : cntI f = N at *
        clear hN
        go_wp2_with fail
        refine HLC.out.mono ?_
        rintro e X ⟨rfl, rfl⟩
        clear HLC HLN HCP HX
        go_wp2_with fail
        refine (TwoI.set HT2.out K hK 1 1).mono ?_
        rintro e W3 ⟨rfl, h3⟩
        obtain ⟨c1, c2⟩ := h3.cells (b := W1.heap.size + 1) (x := 2) (y := 2) (by simp)
        have HT3 := Lib.hid h3
        clear h3 HT2
        go_wp2_with fail
        refine (TwoI.set (TwoI.flip HT3.out) K hK 2 2).mono ?_
        rintro e W4 ⟨rfl, h4⟩
        have HT4 := Lib.hid h4
        clear h4 HT3 c1 c2
        have HLU := Lib.hid (TwoI.len (TwoI.flip HT4.out))
        have HGU := Lib.hid (fun (g : Nat → Int × Int) (L : List (Nat × Int × Int)) (X : World) (hX : TwoI w (w.heap.size + 1) (upd f K (1, 1)) r2 g L X) => And.intro (TwoI.get hX K hK) (TwoI.len hX))
        rw [upd_same] at HGU
        generalize upd f K (1, 1) = fu at *
        generalize upd f K (2, 2) = fc at *
        generalize cntI fu = N2 at *
        have HCT := Lib.hid (TwoI.cut HT4.out 0 (by omega))
        rw [cut_zero] at HCT
        have HGC := Lib.hid (fun (L : List (Nat × Int × Int)) (X : World) (hX : TwoI w (w.heap.size + 1) fu r2 (fun _ => (0, 0)) L X) => And.intro (TwoI.get (TwoI.flip hX) K hK) (TwoI.len (TwoI.flip hX)))
        rw [show cntI (fun _ => (0, 0)) = 0 from cntN_zero 512] at HGC
        generalize (fun _ : Nat => ((0 : Int), (0 : Int))) = fz at *
        go_wp2_with fail
        refine HLU.out.mono ?_
        rintro e X ⟨rfl, rfl⟩
        go_wp2_with fail
        refine HCT.out.mono ?_
        rintro e W5 ⟨v5, rfl, h5⟩
        have HT5 := Lib.hid (TwoI.flip h5)
        clear h5 HCT HT4 HLU
        go_wp2_with fail
        refine wp_region_held_drew (S := fun X : World => Hid (TwoI w (w.heap.size + 1) fu r2 fz [(W1.heap.size + 1, 2, 2), (W1.heap.size, 1, 1)] X)) (by kernel_rfl) (Lib.hid (TwoI.below HT5.out (Below.refl _ _).drew)) (fun hS => ?_)
        refine takeD (i := 0) (v := .pointer (some ⟨w.heap.size + 1, 0, none⟩)) 101 rfl rfl (by kernel_rfl) (by kernel_rfl) (by kernel_rfl) (fun _ _ _ h => h) (Or.inl ⟨by rfl, fun X hX => by go_simp⟩) hS ?_
        simp only [Act.put, List.setIfInBounds_toArray, List.set_cons_zero, List.set_cons_succ]
        refine takeD (i := 1) (v := .int .i64 (K : Int)) 102 rfl rfl (by kernel_rfl) (by kernel_rfl) (by kernel_rfl) (fun _ _ _ h => h) (Or.inl ⟨by rfl, fun X hX => by go_simp⟩) hS ?_
        simp only [Act.put, List.setIfInBounds_toArray, List.set_cons_zero, List.set_cons_succ]
        refine takeD (i := 3) (v := .agg #[.int .i64 1, .int .i64 1]) 104 rfl rfl (by kernel_rfl) (by kernel_rfl) (by kernel_rfl) (fun _ _ _ h => h) (Or.inl ⟨by rfl, fun X hX => by obtain ⟨e1, e2⟩ := hX.out.cells (b := W1.heap.size) (x := 1) (y := 1) (by simp); go_simp⟩) hS ?_
        simp only [Act.put, List.setIfInBounds_toArray, List.set_cons_zero, List.set_cons_succ]
        refine wpAnyH_ready (rs := [2]) (by kernel_rfl) (by simp) (AllReadyH.cons rfl (fun K0 hK0 => ?_) AllReadyH.nil)
        go_simp
        refine (HGU.out _ _ _ hS.out).1.mono ?_
        rintro e X ⟨rfl, h6⟩
        refine hK0.out _ _ (Lib.hid h6) (fun h7 => ?_)
        clear hK0 K0 h6 hS
        refine takeD (i := 4) (v := .bool true) 105 rfl rfl (by kernel_rfl) (by kernel_rfl) (by kernel_rfl) (fun _ _ _ h => h) (Or.inl ⟨by rfl, fun X hX => by go_simp⟩) h7 ?_
        simp only [Act.put, List.setIfInBounds_toArray, List.set_cons_zero, List.set_cons_succ]
        refine takeD (i := 5) (v := .bool true) 106 rfl rfl (by kernel_rfl) (by kernel_rfl) (by kernel_rfl) (fun _ _ _ h => h) (Or.inl ⟨by rfl, fun X hX => by go_simp⟩) h7 ?_
        simp only [Act.put, List.setIfInBounds_toArray, List.set_cons_zero, List.set_cons_succ]
        refine takeD (i := 6) (v := .pointer (some ⟨w.heap.size + 1, 0, none⟩)) 107 rfl rfl (by kernel_rfl) (by kernel_rfl) (by kernel_rfl) (fun _ _ _ h => h) (Or.inl ⟨by rfl, fun X hX => by go_simp⟩) h7 ?_
        simp only [Act.put, List.setIfInBounds_toArray, List.set_cons_zero, List.set_cons_succ]
        refine takeD (i := 8) (v := .int .i64 (N2 : Int)) 109 rfl rfl (by kernel_rfl) (by kernel_rfl) (by kernel_rfl) (fun _ _ _ h => h) (Or.inl ⟨by rfl, fun X hX => by go_simp⟩) h7 ?_
        simp only [Act.put, List.setIfInBounds_toArray, List.set_cons_zero, List.set_cons_succ]
        refine wpAnyH_ready (rs := [7]) (by kernel_rfl) (by simp) (AllReadyH.cons rfl (fun K0 hK0 => ?_) AllReadyH.nil)
        go_simp
        refine (HGU.out _ _ _ h7.out).2.mono ?_
        rintro e X ⟨rfl, rfl⟩
        refine hK0.out _ _ h7 (fun h8 => ?_)
        clear hK0 K0 h7
        refine takeD (i := 9) (v := .bool true) 110 rfl rfl (by kernel_rfl) (by kernel_rfl) (by kernel_rfl) (fun _ _ _ h => h) (Or.inl ⟨by rfl, fun X hX => by go_simp⟩) h8 ?_
        simp only [Act.put, List.setIfInBounds_toArray, List.set_cons_zero, List.set_cons_succ]
        refine takeD (i := 10) (v := .bool true) 111 rfl rfl (by kernel_rfl) (by kernel_rfl) (by kernel_rfl) (fun _ _ _ h => h) (Or.inl ⟨by rfl, fun X hX => by go_simp⟩) h8 ?_
        simp only [Act.put, List.setIfInBounds_toArray, List.set_cons_zero, List.set_cons_succ]
        refine takeD (i := 11) (v := .bool true) 112 rfl rfl (by kernel_rfl) (by kernel_rfl) (by kernel_rfl) (fun _ _ _ h => h) (Or.inl ⟨by rfl, fun X hX => by go_simp⟩) h8 ?_
        simp only [Act.put, List.setIfInBounds_toArray, List.set_cons_zero, List.set_cons_succ]
        refine takeD (i := 12) (v := .pointer (some ⟨r2, 0, none⟩)) 113 rfl rfl (by kernel_rfl) (by kernel_rfl) (by kernel_rfl) (fun _ _ _ h => h) (Or.inl ⟨by rfl, fun X hX => by go_simp⟩) h8 ?_
        simp only [Act.put, List.setIfInBounds_toArray, List.set_cons_zero, List.set_cons_succ]
        refine wpAnyH_ready (rs := [13]) (by kernel_rfl) (by simp) (AllReadyH.cons rfl (fun K0 hK0 => ?_) AllReadyH.nil)
        go_simp
        refine (HGC.out _ _ h8.out).2.mono ?_
        rintro e X ⟨rfl, rfl⟩
        refine hK0.out _ _ h8 (fun h9 => ?_)
        clear hK0 K0 h8
        refine takeD (i := 14) (v := .bool true) 115 rfl rfl (by kernel_rfl) (by kernel_rfl) (by kernel_rfl) (fun _ _ _ h => h) (Or.inl ⟨by rfl, fun X hX => by go_simp⟩) h9 ?_
        simp only [Act.put, List.setIfInBounds_toArray, List.set_cons_zero, List.set_cons_succ]
        refine takeD (i := 15) (v := .bool true) 116 rfl rfl (by kernel_rfl) (by kernel_rfl) (by kernel_rfl) (fun _ _ _ h => h) (Or.inl ⟨by rfl, fun X hX => by go_simp⟩) h9 ?_
        simp only [Act.put, List.setIfInBounds_toArray, List.set_cons_zero, List.set_cons_succ]
        refine takeD (i := 16) (v := .bool true) 117 rfl rfl (by kernel_rfl) (by kernel_rfl) (by kernel_rfl) (fun _ _ _ h => h) (Or.inl ⟨by rfl, fun X hX => by go_simp⟩) h9 ?_
        simp only [Act.put, List.setIfInBounds_toArray, List.set_cons_zero, List.set_cons_succ]
        refine takeD (i := 17) (v := .pointer (some ⟨r2, 0, none⟩)) 118 rfl rfl (by kernel_rfl) (by kernel_rfl) (by kernel_rfl) (fun _ _ _ h => h) (Or.inl ⟨by rfl, fun X hX => by go_simp⟩) h9 ?_
        simp only [Act.put, List.setIfInBounds_toArray, List.set_cons_zero, List.set_cons_succ]
        refine takeD (i := 18) (v := .int .i64 (K : Int)) 119 rfl rfl (by kernel_rfl) (by kernel_rfl) (by kernel_rfl) (fun _ _ _ h => h) (Or.inl ⟨by rfl, fun X hX => by go_simp⟩) h9 ?_
        simp only [Act.put, List.setIfInBounds_toArray, List.set_cons_zero, List.set_cons_succ]
        refine takeD (i := 20) (v := .agg #[.int .i64 0, .int .i64 0]) 121 rfl rfl (by kernel_rfl) (by kernel_rfl) (by kernel_rfl) (fun _ _ _ h => h) (Or.inl ⟨by rfl, fun X hX => by go_simp⟩) h9 ?_
        simp only [Act.put, List.setIfInBounds_toArray, List.set_cons_zero, List.set_cons_succ]
        refine wpAnyH_ready (rs := [19]) (by kernel_rfl) (by simp) (AllReadyH.cons rfl (fun K0 hK0 => ?_) AllReadyH.nil)
        go_simp
        refine (HGC.out _ _ h9.out).1.mono ?_
        rintro e X ⟨rfl, h10⟩
        refine hK0.out _ _ (Lib.hid (TwoI.flip h10)) (fun h11 => ?_)
        clear hK0 K0 h10 h9
        refine takeD (i := 21) (v := .bool true) 122 rfl rfl (by kernel_rfl) (by kernel_rfl) (by kernel_rfl) (fun _ _ _ h => h) (Or.inl ⟨by rfl, fun X hX => by go_simp⟩) h11 ?_
        simp only [Act.put, List.setIfInBounds_toArray, List.set_cons_zero, List.set_cons_succ]
        refine takeD (i := 22) (v := .bool true) 123 rfl rfl (by kernel_rfl) (by kernel_rfl) (by kernel_rfl) (fun _ _ _ h => h) (Or.inl ⟨by rfl, fun X hX => by go_simp⟩) h11 ?_
        simp only [Act.put, List.setIfInBounds_toArray, List.set_cons_zero, List.set_cons_succ]
        refine takeD (i := 23) (v := .bool true) 4 rfl rfl (by kernel_rfl) (by kernel_rfl) (by kernel_rfl) (fun _ _ _ h => h) (Or.inl ⟨by rfl, fun X hX => by go_simp⟩) h11 ?_
        simp only [Act.put, List.setIfInBounds_toArray, List.set_cons_zero, List.set_cons_succ]
        refine wpAnyH_done (by kernel_rfl) ?_ _
        go_wp2_with fail
        go_ret
        exact ⟨rfl, h11.out.bel⟩
      · subst hk6
        have HCP := Lib.hid (OneI.copy HX.out)
        have HLN := Lib.hid (OneI.len HX.out)
        go_wp2_with fail
        refine HLN.out.mono ?_
        rintro e X ⟨rfl, rfl⟩
        go_wp2_with fail
        refine HCP.out.mono ?_
        rintro e W1 ⟨r2, rfl, h1⟩
        have HLC := Lib.hid (TwoI.len (TwoI.flip h1))
        have hz1 : (W1.alloc (.cells #[.int .i64 1, .int .i64 1] 56)).heap.size = W1.heap.size + 1 := by simp
        have h2 := TwoI.box (TwoI.box h1 1 1) 2 2
        rw [hz1] at h2
        have HT2 := Lib.hid h2
        clear h1 h2 hz1
        generalize hN : cntI f = N at *
        clear hN
        go_wp2_with fail
        refine HLC.out.mono ?_
        rintro e X ⟨rfl, rfl⟩
        clear HLC HLN HCP HX
        go_wp2_with fail
        refine (TwoI.set HT2.out K hK 1 1).mono ?_
        rintro e W3 ⟨rfl, h3⟩
        obtain ⟨c1, c2⟩ := h3.cells (b := W1.heap.size + 1) (x := 2) (y := 2) (by simp)
        have HT3 := Lib.hid h3
        clear h3 HT2
        go_wp2_with fail
        refine (TwoI.set (TwoI.flip HT3.out) K hK 2 2).mono ?_
        rintro e W4 ⟨rfl, h4⟩
        have HT4 := Lib.hid h4
        clear h4 HT3 c1 c2
        have HLU := Lib.hid (TwoI.len (TwoI.flip HT4.out))
        have HGU := Lib.hid (fun (g : Nat → Int × Int) (L : List (Nat × Int × Int)) (X : World) (hX : TwoI w (w.heap.size + 1) (upd f K (1, 1)) r2 g L X) => And.intro (TwoI.get hX K hK) (TwoI.len hX))
        rw [upd_same] at HGU
        generalize upd f K (1, 1) = fu at *
        generalize upd f K (2, 2) = fc at *
        generalize cntI fu = N2 at *
        have HCT := Lib.hid (TwoI.cut HT4.out 0 (by omega))
        rw [cut_zero] at HCT
        have HGC := Lib.hid (fun (L : List (Nat × Int × Int)) (X : World) (hX : TwoI w (w.heap.size + 1) fu r2 (fun _ => (0, 0)) L X) => And.intro (TwoI.get (TwoI.flip hX) K hK) (TwoI.len (TwoI.flip hX)))
        rw [show cntI (fun _ => (0, 0)) = 0 from cntN_zero 512] at HGC
        generalize (fun _ : Nat => ((0 : Int), (0 : Int))) = fz at *
        go_wp2_with fail
        refine HLU.out.mono ?_
        rintro e X ⟨rfl, rfl⟩
        go_wp2_with fail
        refine HCT.out.mono ?_
        rintro e W5 ⟨v5, rfl, h5⟩
        have HT5 := Lib.hid (TwoI.flip h5)
        clear h5 HCT HT4 HLU
        go_wp2_with fail
        refine wp_region_held_drew (S := fun X : World => Hid (TwoI w (w.heap.size + 1) fu r2 fz [(W1.heap.size + 1, 2, 2), (W1.heap.size, 1, 1)] X)) (by kernel_rfl) (Lib.hid (TwoI.below HT5.out (Below.refl _ _).drew)) (fun hS => ?_)
        refine takeD (i := 0) (v := .pointer (some ⟨w.heap.size + 1, 0, none⟩)) 101 rfl rfl (by kernel_rfl) (by kernel_rfl) (by kernel_rfl) (fun _ _ _ h => h) (Or.inl ⟨by rfl, fun X hX => by go_simp⟩) hS ?_
        simp only [Act.put, List.setIfInBounds_toArray, List.set_cons_zero, List.set_cons_succ]
        refine takeD (i := 1) (v := .int .i64 (K : Int)) 102 rfl rfl (by kernel_rfl) (by kernel_rfl) (by kernel_rfl) (fun _ _ _ h => h) (Or.inl ⟨by rfl, fun X hX => by go_simp⟩) hS ?_
        simp only [Act.put, List.setIfInBounds_toArray, List.set_cons_zero, List.set_cons_succ]
        refine takeD (i := 3) (v := .agg #[.int .i64 1, .int .i64 1]) 104 rfl rfl (by kernel_rfl) (by kernel_rfl) (by kernel_rfl) (fun _ _ _ h => h) (Or.inl ⟨by rfl, fun X hX => by obtain ⟨e1, e2⟩ := hX.out.cells (b := W1.heap.size) (x := 1) (y := 1) (by simp); go_simp⟩) hS ?_
        simp only [Act.put, List.setIfInBounds_toArray, List.set_cons_zero, List.set_cons_succ]
        refine wpAnyH_ready (rs := [2]) (by kernel_rfl) (by simp) (AllReadyH.cons rfl (fun K0 hK0 => ?_) AllReadyH.nil)
        go_simp
        refine (HGU.out _ _ _ hS.out).1.mono ?_
        rintro e X ⟨rfl, h6⟩
        refine hK0.out _ _ (Lib.hid h6) (fun h7 => ?_)
        clear hK0 K0 h6 hS
        refine takeD (i := 4) (v := .bool true) 105 rfl rfl (by kernel_rfl) (by kernel_rfl) (by kernel_rfl) (fun _ _ _ h => h) (Or.inl ⟨by rfl, fun X hX => by go_simp⟩) h7 ?_
        simp only [Act.put, List.setIfInBounds_toArray, List.set_cons_zero, List.set_cons_succ]
        refine takeD (i := 5) (v := .bool true) 106 rfl rfl (by kernel_rfl) (by kernel_rfl) (by kernel_rfl) (fun _ _ _ h => h) (Or.inl ⟨by rfl, fun X hX => by go_simp⟩) h7 ?_
        simp only [Act.put, List.setIfInBounds_toArray, List.set_cons_zero, List.set_cons_succ]
        refine takeD (i := 6) (v := .pointer (some ⟨w.heap.size + 1, 0, none⟩)) 107 rfl rfl (by kernel_rfl) (by kernel_rfl) (by kernel_rfl) (fun _ _ _ h => h) (Or.inl ⟨by rfl, fun X hX => by go_simp⟩) h7 ?_
        simp only [Act.put, List.setIfInBounds_toArray, List.set_cons_zero, List.set_cons_succ]
        refine takeD (i := 8) (v := .int .i64 (N2 : Int)) 109 rfl rfl (by kernel_rfl) (by kernel_rfl) (by kernel_rfl) (fun _ _ _ h => h) (Or.inl ⟨by rfl, fun X hX => by go_simp⟩) h7 ?_
        simp only [Act.put, List.setIfInBounds_toArray, List.set_cons_zero, List.set_cons_succ]
        refine wpAnyH_ready (rs := [7]) (by kernel_rfl) (by simp) (AllReadyH.cons rfl (fun K0 hK0 => ?_) AllReadyH.nil)
        go_simp
        refine (HGU.out _ _ _ h7.out).2.mono ?_
        rintro e X ⟨rfl, rfl⟩
        refine hK0.out _ _ h7 (fun h8 => ?_)
        clear hK0 K0 h7
        refine takeD (i := 9) (v := .bool true) 110 rfl rfl (by kernel_rfl) (by kernel_rfl) (by kernel_rfl) (fun _ _ _ h => h) (Or.inl ⟨by rfl, fun X hX => by go_simp⟩) h8 ?_
        simp only [Act.put, List.setIfInBounds_toArray, List.set_cons_zero, List.set_cons_succ]
        refine takeD (i := 10) (v := .bool true) 111 rfl rfl (by kernel_rfl) (by kernel_rfl) (by kernel_rfl) (fun _ _ _ h => h) (Or.inl ⟨by rfl, fun X hX => by go_simp⟩) h8 ?_
        simp only [Act.put, List.setIfInBounds_toArray, List.set_cons_zero, List.set_cons_succ]
        refine takeD (i := 11) (v := .bool true) 112 rfl rfl (by kernel_rfl) (by kernel_rfl) (by kernel_rfl) (fun _ _ _ h => h) (Or.inl ⟨by rfl, fun X hX => by go_simp⟩) h8 ?_
        simp only [Act.put, List.setIfInBounds_toArray, List.set_cons_zero, List.set_cons_succ]
        refine takeD (i := 12) (v := .pointer (some ⟨r2, 0, none⟩)) 113 rfl rfl (by kernel_rfl) (by kernel_rfl) (by kernel_rfl) (fun _ _ _ h => h) (Or.inl ⟨by rfl, fun X hX => by go_simp⟩) h8 ?_
        simp only [Act.put, List.setIfInBounds_toArray, List.set_cons_zero, List.set_cons_succ]
        refine wpAnyH_ready (rs := [13]) (by kernel_rfl) (by simp) (AllReadyH.cons rfl (fun K0 hK0 => ?_) AllReadyH.nil)
        go_simp
        refine (HGC.out _ _ h8.out).2.mono ?_
        rintro e X ⟨rfl, rfl⟩
        refine hK0.out _ _ h8 (fun h9 => ?_)
        clear hK0 K0 h8
        refine takeD (i := 14) (v := .bool true) 115 rfl rfl (by kernel_rfl) (by kernel_rfl) (by kernel_rfl) (fun _ _ _ h => h) (Or.inl ⟨by rfl, fun X hX => by go_simp⟩) h9 ?_
        simp only [Act.put, List.setIfInBounds_toArray, List.set_cons_zero, List.set_cons_succ]
        refine takeD (i := 15) (v := .bool true) 116 rfl rfl (by kernel_rfl) (by kernel_rfl) (by kernel_rfl) (fun _ _ _ h => h) (Or.inl ⟨by rfl, fun X hX => by go_simp⟩) h9 ?_
        simp only [Act.put, List.setIfInBounds_toArray, List.set_cons_zero, List.set_cons_succ]
        refine takeD (i := 16) (v := .bool true) 117 rfl rfl (by kernel_rfl) (by kernel_rfl) (by kernel_rfl) (fun _ _ _ h => h) (Or.inl ⟨by rfl, fun X hX => by go_simp⟩) h9 ?_
        simp only [Act.put, List.setIfInBounds_toArray, List.set_cons_zero, List.set_cons_succ]
        refine takeD (i := 17) (v := .pointer (some ⟨r2, 0, none⟩)) 118 rfl rfl (by kernel_rfl) (by kernel_rfl) (by kernel_rfl) (fun _ _ _ h => h) (Or.inl ⟨by rfl, fun X hX => by go_simp⟩) h9 ?_
        simp only [Act.put, List.setIfInBounds_toArray, List.set_cons_zero, List.set_cons_succ]
        refine takeD (i := 18) (v := .int .i64 (K : Int)) 119 rfl rfl (by kernel_rfl) (by kernel_rfl) (by kernel_rfl) (fun _ _ _ h => h) (Or.inl ⟨by rfl, fun X hX => by go_simp⟩) h9 ?_
        simp only [Act.put, List.setIfInBounds_toArray, List.set_cons_zero, List.set_cons_succ]
        refine takeD (i := 20) (v := .agg #[.int .i64 0, .int .i64 0]) 121 rfl rfl (by kernel_rfl) (by kernel_rfl) (by kernel_rfl) (fun _ _ _ h => h) (Or.inl ⟨by rfl, fun X hX => by go_simp⟩) h9 ?_
        simp only [Act.put, List.setIfInBounds_toArray, List.set_cons_zero, List.set_cons_succ]
        refine wpAnyH_ready (rs := [19]) (by kernel_rfl) (by simp) (AllReadyH.cons rfl (fun K0 hK0 => ?_) AllReadyH.nil)
        go_simp
        refine (HGC.out _ _ h9.out).1.mono ?_
        rintro e X ⟨rfl, h10⟩
        refine hK0.out _ _ (Lib.hid (TwoI.flip h10)) (fun h11 => ?_)
        clear hK0 K0 h10 h9
        refine takeD (i := 21) (v := .bool true) 122 rfl rfl (by kernel_rfl) (by kernel_rfl) (by kernel_rfl) (fun _ _ _ h => h) (Or.inl ⟨by rfl, fun X hX => by go_simp⟩) h11 ?_
        simp only [Act.put, List.setIfInBounds_toArray, List.set_cons_zero, List.set_cons_succ]
        refine takeD (i := 22) (v := .bool true) 123 rfl rfl (by kernel_rfl) (by kernel_rfl) (by kernel_rfl) (fun _ _ _ h => h) (Or.inl ⟨by rfl, fun X hX => by go_simp⟩) h11 ?_
        simp only [Act.put, List.setIfInBounds_toArray, List.set_cons_zero, List.set_cons_succ]
        refine takeD (i := 23) (v := .bool true) 4 rfl rfl (by kernel_rfl) (by kernel_rfl) (by kernel_rfl) (fun _ _ _ h => h) (Or.inl ⟨by rfl, fun X hX => by go_simp⟩) h11 ?_
        simp only [Act.put, List.setIfInBounds_toArray, List.set_cons_zero, List.set_cons_succ]
        refine wpAnyH_done (by kernel_rfl) ?_ _
        go_wp2_with fail
        go_ret
        exact ⟨rfl, h11.out.bel⟩

end Go.Proofs.Ytfljnfmocmhhdaa.Spn

namespace Go.Proofs.Ytfljnfmocmhhdaa
open Go.RowKit
theorem RadixSpans.walk (W : World) (v0 : Value) (o0 : Puts W v0) (O : Int) (_wO : (Lit.int .i64 O).wf = true) : Calls Try.prog 7 #[v0, .int .i64 O] W fun e w' => e = .returned (.bool true) ∧ Below W.heap.size W w' := by
  obtain ⟨A, n, c, l, rfl, hr⟩ := o0
  exact Spn.radixSpans_any W A n c l hr O

end Go.Proofs.Ytfljnfmocmhhdaa
