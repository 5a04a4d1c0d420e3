/-
leads and plays: of one call, Look, Resolve, Parent answer what the document answers. (Printed by gen_plays.py.)
-/
import Derived.Test.YtpombeiabgbpiaaDoorWTexts
import Derived.Test.YtpombeiabgbpiaaDoorWRefR
namespace Go.Proofs.YtpombeiabgbpiaaDoor
open Go.RowKit

theorem leads_cells {W : World} {b1 b3 : Nat} {u v : Value} {sl : Bool} (h1 : W.heap[b1]? = some (.cells #[u, .bool sl] 25 (0, 0))) (h3 : W.heap[b3]? = some (.cells #[v, .bool sl] 25 (0, 0))) :
    W.cell? ⟨b1, 0, none⟩ = some u ∧ W.cell? ⟨b1, 1, none⟩ = some (.bool sl) ∧ W.cell? ⟨b3, 0, none⟩ = some v ∧ W.cell? ⟨b3, 1, none⟩ = some (.bool sl) :=
  ⟨by rw [cell_of_row _ _ _ _ _ _ h1]; rfl, by rw [cell_of_row _ _ _ _ _ _ h1]; rfl, by rw [cell_of_row _ _ _ _ _ _ h3]; rfl, by rw [cell_of_row _ _ _ _ _ _ h3]; rfl⟩

set_option maxRecDepth 100000 in
set_option maxHeartbeats 8000000 in
theorem leads_any (w : World) (t : Nat) (v : Value) (es : List EdgeV) (A : Option Addr) (m c : Nat) (l : List ByteArray) (sl : Bool) (both : Int) (hT : TabT w t es) (hE : RdE w v es) (hr : RdS w (.slice A m c) l) (hz : Nz (.slice A m c)) (hlen : l.length + 1 ≤ 8796093022208) (hnm : ∀ s ∈ l, s.size ≤ maxLen) :
    Calls Tryd.prog 50 #[.pointer (some ⟨t, 0, none⟩), v, .agg #[.slice A m c, .bool sl], .int .i64 both] w fun e w' => e = .returned (.bool true) ∧ Below w.heap.size w w' := by
  have hm : l.length = m := by obtain ⟨_, _, e, _⟩ := hr; injection e with _ e; exact e.symm
  have hok : ∀ e ∈ es, e.Ok := by obtain ⟨_, _, _, _, _, o, _⟩ := hE; exact o
  have hb1 : Below w.heap.size w (w.alloc (.cells #[.slice A m c, .bool sl] 25)) := (Below.refl _ _).alloc (Nat.le_refl _) _
  have HC := Lib.hid (copyPath_any _ A m c l sl (hr.below hb1) hz (by omega))
  have HB1 := Lib.hid (And.intro hb1 (heap_alloc_new w (.cells #[.slice A m c, .bool sl] 25)))
  have HH := Lib.hid (And.intro (hT.below hb1) (And.intro (hE.below hb1) (hr.below hb1)))
  have HOK := Lib.hid hok
  have HNM := Lib.hid hnm
  have HM := Lib.hid hm
  obtain ⟨Ae, ce, rfl, _⟩ := hE
  clear hb1 hT hr hz hm hok hnm
  obtain ⟨⟨x1, x2, x3⟩, hX⟩ : ∃ X, resF (lookT es) l sl = X := ⟨_, rfl⟩
  obtain ⟨⟨y1, y2, y3⟩, hY⟩ : ∃ Y, parF (lookT es) l = Y := ⟨_, rfl⟩
  have HXX := Lib.hid hX
  have HYY := Lib.hid hY
  clear hX hY
  go_enter Tryd.func50, Tryd.ntmps50
  go_wp2_with fail
  refine HC.out.mono ?_
  rintro e w1 ⟨v3, rfl, ho3, hbb⟩
  have hr3 := RdS.of_own ho3
  obtain ⟨A3, c3, rfl⟩ := own_form ho3
  rw [HM.out] at hr3 ⊢
  have HK : Hid (∀ W', Below (w1.heap.size + 1) (w1.alloc (.cells #[.slice A3 m c3, .bool sl] 25)) W' → Below w.heap.size w W' ∧ TabT W' t es ∧ RdE W' (.slice Ae es.length ce) es ∧ W'.heap[w.heap.size]? = some (.cells #[.slice A m c, .bool sl] 25 (0, 0)) ∧ W'.heap[w1.heap.size]? = some (.cells #[.slice A3 m c3, .bool sl] 25 (0, 0)) ∧ RdS W' (.slice A m c) l ∧ RdS W' (.slice A3 m c3) l) := Lib.hid (fun W' hb => by
    have h1 : Below w1.heap.size w1 W' := below_lift ((Below.refl _ _).alloc (Nat.le_refl _) _) (by simpa using hb)
    have h2 := below_lift (Below.refl _ _) (below_lift hbb h1)
    exact ⟨below_lift HB1.out.1 h2, HH.out.1.below h2, HH.out.2.1.below h2, (h2.block _ (by simp)).trans HB1.out.2, (hb.block _ (by simp)).trans (heap_alloc_new w1 _), HH.out.2.2.below h2, hr3.below h1⟩)
  have hq : Below (w1.heap.size + 1) (w1.alloc (.cells #[.slice A3 m c3, .bool sl] 25)) (w1.alloc (.cells #[.slice A3 m c3, .bool sl] 25)) := Below.refl _ _
  clear ho3 hr3 hbb HC HB1 HH
  by_cases h6 : both = 6
  · have h6' : (both != 6) = false := by rw [h6]; rfl
    have h5' : (both != 5) = true := by rw [h6]; rfl
    clear h6
    obtain ⟨e0, e1, g0, g1⟩ := leads_cells (HK.out _ hq).2.2.2.1 (HK.out _ hq).2.2.2.2.1
    have hl1 := heap_lt (HK.out _ hq).2.2.2.1
    have hl3 := heap_lt (HK.out _ hq).2.2.2.2.1
    go_wp2_with fail
    refine (parent_tab _ t es (HK.out _ hq).2.1 HOK.out _ l sl (HK.out _ hq).2.2.2.2.2.1 hlen HNM.out).mono ?_
    rintro e wA ⟨rfl, hbA⟩
    rw [HYY.out]
    simp only
    have hq := below_up (by simp) hq hbA
    clear e0 e1 g0 g1 hl1 hl3
    obtain ⟨e0, e1, g0, g1⟩ := leads_cells (HK.out _ hq).2.2.2.1 (HK.out _ hq).2.2.2.2.1
    have hl1 := heap_lt (HK.out _ hq).2.2.2.1
    have hl3 := heap_lt (HK.out _ hq).2.2.2.2.1
    go_wp2_with fail
    refine (refParent_any _ _ es (HK.out _ hq).2.2.1 _ l sl (HK.out _ hq).2.2.2.2.2.2 hlen).mono ?_
    rintro e wB ⟨rfl, hbB⟩
    rw [HYY.out]
    simp only
    have hq := below_up (by simp) hq hbB
    clear e0 e1 g0 g1 hl1 hl3
    obtain ⟨e0, e1, g0, g1⟩ := leads_cells (HK.out _ hq).2.2.2.1 (HK.out _ hq).2.2.2.2.1
    have hl1 := heap_lt (HK.out _ hq).2.2.2.1
    have hl3 := heap_lt (HK.out _ hq).2.2.2.2.1
    go_wp2_with fail
    refine (same_any _ _ _ l l _ _ (HK.out _ hq).2.2.2.2.2.1 (HK.out _ hq).2.2.2.2.2.2).mono ?_
    rintro e wZ ⟨rfl, hbZ⟩
    rw [sameP_rfl]
    have hq := below_up (by simp) hq hbZ
    go_wp2_with fail
    go_ret
    exact ⟨rfl, (HK.out _ hq).1⟩
  · have h6' : (both != 6) = true := by rw [bne_iff_ne]; exact h6
    clear h6
    obtain ⟨e0, e1, g0, g1⟩ := leads_cells (HK.out _ hq).2.2.2.1 (HK.out _ hq).2.2.2.2.1
    have hl1 := heap_lt (HK.out _ hq).2.2.2.1
    have hl3 := heap_lt (HK.out _ hq).2.2.2.2.1
    have hx2' : (x2 != x2) = false := by cases x2 <;> rfl
    go_wp2_with fail
    refine (resolve_tab _ t es (HK.out _ hq).2.1 HOK.out _ l sl (HK.out _ hq).2.2.2.2.2.1 hlen HNM.out).mono ?_
    rintro e wA ⟨rfl, hbA⟩
    rw [HXX.out]
    simp only
    have hq := below_up (by simp) hq hbA
    clear e0 e1 g0 g1 hl1 hl3
    obtain ⟨e0, e1, g0, g1⟩ := leads_cells (HK.out _ hq).2.2.2.1 (HK.out _ hq).2.2.2.2.1
    have hl1 := heap_lt (HK.out _ hq).2.2.2.1
    have hl3 := heap_lt (HK.out _ hq).2.2.2.2.1
    go_wp2_with fail
    refine (refResolve_any _ _ es (HK.out _ hq).2.2.1 _ l sl (HK.out _ hq).2.2.2.2.2.2 hlen).mono ?_
    rintro e wB ⟨rfl, hbB⟩
    rw [HXX.out]
    simp only
    have hq := below_up (by simp) hq hbB
    clear e0 e1 g0 g1 hl1 hl3
    by_cases h5 : both = 5
    · have h5' : (both != 5) = false := by rw [h5]; rfl
      clear h5
      obtain ⟨e0, e1, g0, g1⟩ := leads_cells (HK.out _ hq).2.2.2.1 (HK.out _ hq).2.2.2.2.1
      have hl1 := heap_lt (HK.out _ hq).2.2.2.1
      have hl3 := heap_lt (HK.out _ hq).2.2.2.2.1
      go_wp2_with fail
      refine (same_any _ _ _ l l _ _ (HK.out _ hq).2.2.2.2.2.1 (HK.out _ hq).2.2.2.2.2.2).mono ?_
      rintro e wZ ⟨rfl, hbZ⟩
      rw [sameP_rfl]
      have hq := below_up (by simp) hq hbZ
      go_wp2_with fail
      go_ret
      exact ⟨rfl, (HK.out _ hq).1⟩
    · have h5' : (both != 5) = true := by rw [bne_iff_ne]; exact h5
      clear h5
      obtain ⟨e0, e1, g0, g1⟩ := leads_cells (HK.out _ hq).2.2.2.1 (HK.out _ hq).2.2.2.2.1
      have hl1 := heap_lt (HK.out _ hq).2.2.2.1
      have hl3 := heap_lt (HK.out _ hq).2.2.2.2.1
      go_wp2_with fail
      refine (parent_tab _ t es (HK.out _ hq).2.1 HOK.out _ l sl (HK.out _ hq).2.2.2.2.2.1 hlen HNM.out).mono ?_
      rintro e wA ⟨rfl, hbA⟩
      rw [HYY.out]
      simp only
      have hq := below_up (by simp) hq hbA
      clear e0 e1 g0 g1 hl1 hl3
      obtain ⟨e0, e1, g0, g1⟩ := leads_cells (HK.out _ hq).2.2.2.1 (HK.out _ hq).2.2.2.2.1
      have hl1 := heap_lt (HK.out _ hq).2.2.2.1
      have hl3 := heap_lt (HK.out _ hq).2.2.2.2.1
      go_wp2_with fail
      refine (refParent_any _ _ es (HK.out _ hq).2.2.1 _ l sl (HK.out _ hq).2.2.2.2.2.2 hlen).mono ?_
      rintro e wB ⟨rfl, hbB⟩
      rw [HYY.out]
      simp only
      have hq := below_up (by simp) hq hbB
      clear e0 e1 g0 g1 hl1 hl3
      obtain ⟨e0, e1, g0, g1⟩ := leads_cells (HK.out _ hq).2.2.2.1 (HK.out _ hq).2.2.2.2.1
      have hl1 := heap_lt (HK.out _ hq).2.2.2.1
      have hl3 := heap_lt (HK.out _ hq).2.2.2.2.1
      go_wp2_with fail
      refine (same_any _ _ _ l l _ _ (HK.out _ hq).2.2.2.2.2.1 (HK.out _ hq).2.2.2.2.2.2).mono ?_
      rintro e wZ ⟨rfl, hbZ⟩
      rw [sameP_rfl]
      have hq := below_up (by simp) hq hbZ
      go_wp2_with fail
      go_ret
      exact ⟨rfl, (HK.out _ hq).1⟩

theorem op_box {W : World} {b : Nat} {k n : Int} {t : ByteArray} {u : Value} {sl : Bool} (h : W.heap[b]? = some (.cells #[.int .i64 k, .string t, u, .bool sl, .int .i64 n] 54 (0, 0))) :
    W.cell? ⟨b, 0, none⟩ = some (.int .i64 k) ∧ W.cell? ⟨b, 1, none⟩ = some (.string t) ∧ W.cell? ⟨b, 2, none⟩ = some u ∧ W.cell? ⟨b, 3, none⟩ = some (.bool sl) ∧ W.cell? ⟨b, 4, none⟩ = some (.int .i64 n) :=
  ⟨by rw [cell_of_row _ _ _ _ _ _ h]; rfl, by rw [cell_of_row _ _ _ _ _ _ h]; rfl, by rw [cell_of_row _ _ _ _ _ _ h]; rfl, by rw [cell_of_row _ _ _ _ _ _ h]; rfl, by rw [cell_of_row _ _ _ _ _ _ h]; rfl⟩
theorem pl_ok (t : ByteArray) : (pL t).length + 1 ≤ 8796093022208 ∧ ∀ s ∈ pL t, s.size ≤ maxLen := by
  unfold pL
  split
  · rename_i h
    obtain ⟨a, b, c, _⟩ := parse_good h
    have hl : (partsOf t).length ≤ (joinS (partsOf t)).length := by
      unfold joinS
      induction partsOf t with
      | nil => simp
      | cons x l ih => simp at ih ⊢; omega
    exact ⟨by omega, fun s hs => by have := (a s hs).2.1; rw [maxLen_eq]; omega⟩
  · exact ⟨by decide, by simp⟩

set_option maxRecDepth 100000 in
set_option maxHeartbeats 8000000 in
theorem plays_any (w : World) (t : Nat) (v : Value) (es : List EdgeV) (k n : Int) (tx : ByteArray) (A : Option Addr) (m c : Nat) (l : List ByteArray) (sl : Bool) (hT : TabT w t es) (hE : RdE w v es) (hs : StrsV w (.slice A m c) l) (hz : Nz (.slice A m c))
    (hn : (Lit.int .i64 n).wf = true) (htx : tx.size ≤ 140737488351232) :
    Calls Tryd.prog 31 #[.pointer (some ⟨t, 0, none⟩), v, .agg #[.int .i64 k, .string tx, .slice A m c, .bool sl, .int .i64 n]] w fun e w' => e = .returned (.bool true) ∧ Below w.heap.size w w' := by
  have hb1 : Below w.heap.size w (w.alloc (.cells #[.int .i64 k, .string tx, .slice A m c, .bool sl, .int .i64 n] 54)) := (Below.refl _ _).alloc (Nat.le_refl _) _
  have HST := Lib.hid hs
  have HZ := Lib.hid hz
  have HNW := Lib.hid hn
  have HTX : Hid (tx.size ≤ maxLen) := Lib.hid (by rw [maxLen_eq]; omega)
  obtain ⟨Ae, ce, rfl, hE0⟩ := hE
  have HK : Hid (∀ W', Below (w.heap.size + 1) (w.alloc (.cells #[.int .i64 k, .string tx, .slice A m c, .bool sl, .int .i64 n] 54)) W' → Below w.heap.size w W' ∧ TabT W' t es ∧ RdE W' (.slice Ae es.length ce) es ∧ W'.heap[w.heap.size]? = some (.cells #[.int .i64 k, .string tx, .slice A m c, .bool sl, .int .i64 n] 54 (0, 0)) ∧ RdS W' (.slice A m c) l) := Lib.hid (fun W' hb => by
    have h1 : Below w.heap.size w W' := below_lift hb1 (by simpa using hb)
    exact ⟨h1, hT.below h1, RdE.below ⟨Ae, ce, rfl, hE0⟩ h1, (hb.block _ (by simp)).trans (heap_alloc_new w _), hs.1.below h1⟩)
  have hq : Below (w.heap.size + 1) (w.alloc (.cells #[.int .i64 k, .string tx, .slice A m c, .bool sl, .int .i64 n] 54)) (w.alloc (.cells #[.int .i64 k, .string tx, .slice A m c, .bool sl, .int .i64 n] 54)) := Below.refl _ _
  clear hb1 hT hE0 hs hz hn
  obtain ⟨e0, e1, e2, e3, e4⟩ := op_box (HK.out _ hq).2.2.2.1
  have hl1 := heap_lt (HK.out _ hq).2.2.2.1
  go_enter Tryd.func31, Tryd.ntmps31
  by_cases h4 : k = 4
  · have h4' : (k == 4) = true := by rw [h4]; rfl
    clear h4
    obtain ⟨⟨x1, x2⟩, hX⟩ : ∃ X, lookT es n tx = X := ⟨_, rfl⟩
    have HXX := Lib.hid hX
    have hx2' : (x2 == x2) = true := by simp
    clear hX
    go_wp2_with fail
    refine (look_any _ t es (HK.out _ hq).2.1 n tx HNW.out HTX.out).mono ?_
    rintro e wA ⟨rfl, hbA⟩
    rw [HXX.out]
    simp only
    have hq := below_up (by simp) hq hbA
    clear e0 e1 e2 e3 e4 hl1
    obtain ⟨e0, e1, e2, e3, e4⟩ := op_box (HK.out _ hq).2.2.2.1
    have hl1 := heap_lt (HK.out _ hq).2.2.2.1
    go_wp2_with fail
    refine (refLook_any _ _ es (HK.out _ hq).2.2.1 n tx).mono ?_
    rintro e wB ⟨rfl, hbB⟩
    rw [HXX.out]
    simp only
    have hq := below_up (by simp) hq hbB
    go_wp2_with fail
    go_ret
    exact ⟨rfl, (HK.out _ hq).1⟩
  · have h4' : (k == 4) = false := by rw [beq_eq_false_iff_ne]; exact h4
    by_cases h56 : k = 5 ∨ k = 6
    · have h56' : (k == 5) = true ∨ ((k == 5) = false ∧ (k == 6) = true) := by
        rcases h56 with h | h
        · exact .inl (by rw [h]; rfl)
        · exact .inr ⟨by rw [h]; rfl, by rw [h]; rfl⟩
      clear h4 h56
      rcases h56' with h5' | ⟨h5', h6'⟩
      all_goals
        go_wp2_with fail
        refine (leads_any _ t _ es A m c l sl k (HK.out _ hq).2.1 (HK.out _ hq).2.2.1 (HK.out _ hq).2.2.2.2 HZ.out (by have := HST.out.2.2; omega) HST.out.2.1.max).mono ?_
        rintro e wA ⟨rfl, hbA⟩
        have hq := below_up (by simp) hq hbA
        go_wp2_with fail
        go_ret
        exact ⟨rfl, (HK.out _ hq).1⟩
    · have h5' : (k == 5) = false := by rw [beq_eq_false_iff_ne]; exact fun h => h56 (.inl h)
      have h6' : (k == 6) = false := by rw [beq_eq_false_iff_ne]; exact fun h => h56 (.inr h)
      clear h4 h56
      by_cases h7 : k = 7
      · have h7' : (k == 7) = true := by rw [h7]; rfl
        clear h7
        go_wp2_with fail
        refine (parse_any _ tx).mono ?_
        rintro e w2 hp
        obtain ⟨A5, m5, c5, rfl, hr5, hz5, hb2⟩ := hp.form
        clear hp
        have hq := below_up (by simp) hq hb2
        have HR5 : Hid (∀ W', Below (w2.heap.size + 1) (w2.alloc (.cells #[.slice A5 m5 c5, .bool (pB tx)] 25)) W' → Below (w.heap.size + 1) (w.alloc (.cells #[.int .i64 k, .string tx, .slice A m c, .bool sl, .int .i64 n] 54)) W' ∧ W'.heap[w2.heap.size]? = some (.cells #[.slice A5 m5 c5, .bool (pB tx)] 25 (0, 0)) ∧ RdS W' (.slice A5 m5 c5) (pL tx)) := Lib.hid (fun W' hb => by
          have h1 : Below w2.heap.size w2 W' := below_lift ((Below.refl _ _).alloc (Nat.le_refl _) _) (by simpa using hb)
          exact ⟨below_up (by simp) hq h1, (hb.block _ (by simp)).trans (heap_alloc_new w2 _), hr5.below h1⟩)
        have HZ5 := Lib.hid hz5
        have hq5 : Below (w2.heap.size + 1) (w2.alloc (.cells #[.slice A5 m5 c5, .bool (pB tx)] 25)) (w2.alloc (.cells #[.slice A5 m5 c5, .bool (pB tx)] 25)) := Below.refl _ _
        clear hb2 hr5 hz5 hq e0 e1 e2 e3 e4 hl1
        have hq := (HR5.out _ hq5).1
        obtain ⟨e0, e1, e2, e3, e4⟩ := op_box (HK.out _ hq).2.2.2.1
        have hl1 := heap_lt (HK.out _ hq).2.2.2.1
        go_wp2_with fail
        refine (refParse_any _ tx).mono ?_
        rintro e w3 hp
        obtain ⟨A7, m7, c7, rfl, hr7, _, hb3⟩ := hp.form
        clear hp
        have hq5' := below_up (by simp) hq5 hb3
        have HR7 : Hid (∀ W', Below (w3.heap.size + 1) (w3.alloc (.cells #[.slice A7 m7 c7, .bool (pB tx)] 25)) W' → Below (w2.heap.size + 1) (w2.alloc (.cells #[.slice A5 m5 c5, .bool (pB tx)] 25)) W' ∧ RdS W' (.slice A7 m7 c7) (pL tx)) := Lib.hid (fun W' hb => by
          have h1 : Below w3.heap.size w3 W' := below_lift ((Below.refl _ _).alloc (Nat.le_refl _) _) (by simpa using hb)
          exact ⟨below_up (by simp) hq5' h1, hr7.below h1⟩)
        have hq7 : Below (w3.heap.size + 1) (w3.alloc (.cells #[.slice A7 m7 c7, .bool (pB tx)] 25)) (w3.alloc (.cells #[.slice A7 m7 c7, .bool (pB tx)] 25)) := Below.refl _ _
        clear hb3 hr7 hq5' hq5 hq e0 e1 e2 e3 e4 hl1
        have hbx5 := (HR5.out _ (HR7.out _ hq7).1).2.1
        have k0 := cell_of_row _ _ 0 _ _ _ hbx5
        have k1 := cell_of_row _ _ 1 _ _ _ hbx5
        simp only [List.getElem?_toArray, List.getElem?_cons_zero, List.getElem?_cons_succ] at k0 k1
        have hl5 := heap_lt hbx5
        clear hbx5
        have HPL := Lib.hid (pl_ok tx)
        obtain ⟨er, her⟩ : ∃ er, errOf tx = er := ⟨_, rfl⟩
        rw [her]
        clear her
        go_wp2_with fail
        refine (same_any _ _ _ (pL tx) (pL tx) _ _ (HR5.out _ (HR7.out _ hq7).1).2.2 (HR7.out _ hq7).2).mono ?_
        rintro e wX ⟨rfl, hbX⟩
        rw [sameP_rfl]
        have hq7 := below_up (by simp) hq7 hbX
        clear k0 k1 hl5 hbX
        have hbx5 := (HR5.out _ (HR7.out _ hq7).1).2.1
        have k0 := cell_of_row _ _ 0 _ _ _ hbx5
        have k1 := cell_of_row _ _ 1 _ _ _ hbx5
        simp only [List.getElem?_toArray, List.getElem?_cons_zero, List.getElem?_cons_succ] at k0 k1
        have hl5 := heap_lt hbx5
        have hq := (HR5.out _ (HR7.out _ hq7).1).1
        clear hbx5
        by_cases h0 : er = 0
        · have h0' : (er != 0) = false := by rw [h0]; rfl
          clear h0
          go_wp2_with fail
          refine (leads_any _ t _ es A5 m5 c5 (pL tx) (pB tx) 7 (HK.out _ hq).2.1 (HK.out _ hq).2.2.1 (HR5.out _ (HR7.out _ hq7).1).2.2 HZ5.out HPL.out.1 HPL.out.2).mono ?_
          rintro e wA ⟨rfl, hbA⟩
          have hq := below_up (by simp) hq hbA
          go_wp2_with fail
          go_ret
          exact ⟨rfl, (HK.out _ hq).1⟩
        · have h0' : (er != 0) = true := by rw [bne_iff_ne]; exact h0
          clear h0
          go_wp2_with fail
          go_ret
          exact ⟨rfl, (HK.out _ hq).1⟩
      · have h7' : (k == 7) = false := by rw [beq_eq_false_iff_ne]; exact h7
        clear h7
        go_wp2_with fail
        refine (texts_any _ k n tx A m c l sl ⟨(HK.out _ hq).2.2.2.2, HST.out.2⟩ HZ.out).mono ?_
        rintro e wA ⟨rfl, hbA⟩
        have hq := below_up (by simp) hq hbA
        go_wp2_with fail
        go_ret
        exact ⟨rfl, (HK.out _ hq).1⟩

end Go.Proofs.YtpombeiabgbpiaaDoor
