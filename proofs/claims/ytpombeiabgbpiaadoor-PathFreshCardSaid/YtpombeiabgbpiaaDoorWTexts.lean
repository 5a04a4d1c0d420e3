/-
texts: of one call, Parse, Text, Clean answer what the document answers. (Printed by gen_texts.py.)
-/
import Derived.Test.YtpombeiabgbpiaaDoorWCopy
import Derived.Test.YtpombeiabgbpiaaDoorWRefT
import Derived.Test.YtpombeiabgbpiaaDoorWRefC
import Derived.Test.YtpombeiabgbpiaaDoorWClean
namespace Go.Proofs.YtpombeiabgbpiaaDoor
open Go.RowKit

/-- the path that a text is read as -/
def pL (t : ByteArray) : List ByteArray := if errOf t = 0 then partsOf t else []
def pB (t : ByteArray) : Bool := if errOf t = 0 then slashOf t else false
theorem rds_nil (w : World) : RdS w (.slice none 0 0) [] := ⟨none, 0, rfl, by simp, by simp [maxLen], fun h => absurd h (by simp)⟩
theorem nz_nil : Nz (.slice none 0 0) := fun n c e => by injection e with _ e1 e2; exact ⟨e1.symm, e2.symm⟩
theorem PaPost.form {w w' : World} {t : ByteArray} {e : Ending} (h : PaPost w t e w') :
    ∃ (A : Option Addr) (m c : Nat), e = .returned (.tuple #[.agg #[.slice A m c, .bool (pB t)], .int .i64 (errOf t)]) ∧ RdS w' (.slice A m c) (pL t) ∧ Nz (.slice A m c) ∧ Below w.heap.size w w' := by
  obtain ⟨hb, hp⟩ := h
  by_cases h0 : errOf t = 0
  · rw [if_pos h0] at hp
    obtain ⟨v, rfl, ho⟩ := hp
    obtain ⟨A, c, rfl⟩ := own_form ho
    unfold pB pL
    rw [if_pos h0, if_pos h0, h0]
    exact ⟨A, _, c, rfl, RdS.of_own ho, Nz.of_own ho, hb⟩
  · rw [if_neg h0] at hp
    unfold pB pL
    rw [if_neg h0, if_neg h0]
    exact ⟨_, _, _, hp, rds_nil _, nz_nil, hb⟩
theorem texts_cells {W : World} {b1 b3 : Nat} {k n : Int} {t : ByteArray} {u v : Value} {sl : Bool} (h1 : W.heap[b1]? = some (.cells #[.int .i64 k, .string t, u, .bool sl, .int .i64 n] 54 (0, 0))) (h3 : W.heap[b3]? = some (.cells #[v, .bool sl] 25 (0, 0))) :
    W.cell? ⟨b1, 0, none⟩ = some (.int .i64 k) ∧ W.cell? ⟨b1, 1, none⟩ = some (.string t) ∧ W.cell? ⟨b1, 2, none⟩ = some u ∧ W.cell? ⟨b1, 3, none⟩ = some (.bool sl) ∧ W.cell? ⟨b1, 4, none⟩ = some (.int .i64 n) ∧ W.cell? ⟨b3, 0, none⟩ = some v ∧ W.cell? ⟨b3, 1, none⟩ = some (.bool sl) :=
  ⟨by rw [cell_of_row _ _ _ _ _ _ h1]; rfl, by rw [cell_of_row _ _ _ _ _ _ h1]; rfl, by rw [cell_of_row _ _ _ _ _ _ h1]; rfl, by rw [cell_of_row _ _ _ _ _ _ h1]; rfl, by rw [cell_of_row _ _ _ _ _ _ h1]; rfl, by rw [cell_of_row _ _ _ _ _ _ h3]; rfl, by rw [cell_of_row _ _ _ _ _ _ h3]; rfl⟩

set_option maxRecDepth 100000 in
set_option maxHeartbeats 8000000 in
theorem texts_any (w : World) (k n : Int) (t : ByteArray) (A : Option Addr) (m c : Nat) (l : List ByteArray) (sl : Bool) (hs : StrsV w (.slice A m c) l) (hz : Nz (.slice A m c)) :
    Calls Tryd.prog 29 #[.agg #[.int .i64 k, .string t, .slice A m c, .bool sl, .int .i64 n]] w fun e w' => e = .returned (.bool true) ∧ Below w.heap.size w w' := by
  have hm : l.length = m := by obtain ⟨_, _, e, _⟩ := hs.1; injection e with _ e; exact e.symm
  have hlen := hs.2.2
  rw [hm] at hlen
  have HM := Lib.hid hm
  have HNM := Lib.hid hs.2.1
  have hb1 : Below w.heap.size w (w.alloc (.cells #[.int .i64 k, .string t, .slice A m c, .bool sl, .int .i64 n] 54)) := (Below.refl _ _).alloc (Nat.le_refl _) _
  have HRD := Lib.hid (hs.1.below hb1)
  have HC := Lib.hid (copyPath_any _ A m c l sl (hs.1.below hb1) hz (by omega))
  have hx1 := heap_alloc_new w (.cells #[.int .i64 k, .string t, .slice A m c, .bool sl, .int .i64 n] 54)
  have HB1 := Lib.hid (And.intro hb1 hx1)
  clear hb1 hx1 hs hz hm
  go_enter Tryd.func29, Tryd.ntmps29
  go_wp2_with fail
  refine HC.out.mono ?_
  rintro e w1 ⟨v3, rfl, ho3, hbb⟩
  rw [HM.out] at ho3
  obtain ⟨A3, c3, rfl⟩ := own_form ho3
  have ho3' := ho3
  rw [← HM.out] at ho3'
  have hr3 : RdS w1 (.slice A3 m c3) l := by have := RdS.of_own ho3'; rwa [HM.out] at this
  have HK : Hid (∀ W', Below (w1.heap.size + 1) (w1.alloc (.cells #[.slice A3 m c3, .bool sl] 25)) W' → Below w.heap.size w W' ∧ W'.heap[w.heap.size]? = some (.cells #[.int .i64 k, .string t, .slice A m c, .bool sl, .int .i64 n] 54 (0, 0)) ∧ W'.heap[w1.heap.size]? = some (.cells #[.slice A3 m c3, .bool sl] 25 (0, 0)) ∧ RdS W' (.slice A m c) l ∧ RdS W' (.slice A3 m c3) l) := Lib.hid (fun W' hb => by
    have h1 : Below w1.heap.size w1 W' := below_lift ((Below.refl _ _).alloc (Nat.le_refl _) _) (by simpa using hb)
    have h2 := below_lift (Below.refl _ _) (below_lift hbb h1)
    exact ⟨below_lift HB1.out.1 h2, (h2.block _ (by simp)).trans HB1.out.2, (hb.block _ (by simp)).trans (heap_alloc_new w1 _), HRD.out.below h2, hr3.below h1⟩)
  have hq : Below (w1.heap.size + 1) (w1.alloc (.cells #[.slice A3 m c3, .bool sl] 25)) (w1.alloc (.cells #[.slice A3 m c3, .bool sl] 25)) := Below.refl _ _
  clear ho3 ho3' hr3 hbb HC HB1 HRD
  obtain ⟨e0, e1, e2, e3, e4, g0, g1⟩ := texts_cells (HK.out _ hq).2.1 (HK.out _ hq).2.2.1
  have hl1 := heap_lt (HK.out _ hq).2.1
  have hl3 := heap_lt (HK.out _ hq).2.2.1
  by_cases hk1 : k = 1
  · have hk1' : (k == 1) = true := by rw [hk1]; rfl
    clear hk1
    go_wp2_with fail
    refine (parse_any _ t).mono ?_
    rintro e w2 hp
    obtain ⟨A5, m5, c5, rfl, hr5, _, hb2⟩ := hp.form
    clear hp
    have hq := below_up (by simp) hq hb2
    have HR5 : Hid (∀ W', Below (w2.heap.size + 1) (w2.alloc (.cells #[.slice A5 m5 c5, .bool (pB t)] 25)) W' → Below (w1.heap.size + 1) (w1.alloc (.cells #[.slice A3 m c3, .bool sl] 25)) W' ∧ W'.heap[w2.heap.size]? = some (.cells #[.slice A5 m5 c5, .bool (pB t)] 25 (0, 0)) ∧ RdS W' (.slice A5 m5 c5) (pL t)) := Lib.hid (fun W' hb => by
      have h1 : Below w2.heap.size w2 W' := below_lift ((Below.refl _ _).alloc (Nat.le_refl _) _) (by simpa using hb)
      exact ⟨below_up (by simp) hq h1, (hb.block _ (by simp)).trans (heap_alloc_new w2 _), hr5.below h1⟩)
    have hq5 : Below (w2.heap.size + 1) (w2.alloc (.cells #[.slice A5 m5 c5, .bool (pB t)] 25)) (w2.alloc (.cells #[.slice A5 m5 c5, .bool (pB t)] 25)) := Below.refl _ _
    clear hb2 hr5 hq e0 e1 e2 e3 e4 g0 g1 hl1 hl3
    have hq := (HR5.out _ hq5).1
    obtain ⟨e0, e1, e2, e3, e4, g0, g1⟩ := texts_cells (HK.out _ hq).2.1 (HK.out _ hq).2.2.1
    have hl1 := heap_lt (HK.out _ hq).2.1
    have hl3 := heap_lt (HK.out _ hq).2.2.1
    go_wp2_with fail
    refine (refParse_any _ t).mono ?_
    rintro e w3 hp
    obtain ⟨A7, m7, c7, rfl, hr7, _, hb3⟩ := hp.form
    clear hp
    have hq5' := below_up (by simp) hq5 hb3
    have HR7 : Hid (∀ W', Below (w3.heap.size + 1) (w3.alloc (.cells #[.slice A7 m7 c7, .bool (pB t)] 25)) W' → Below (w2.heap.size + 1) (w2.alloc (.cells #[.slice A5 m5 c5, .bool (pB t)] 25)) W' ∧ RdS W' (.slice A7 m7 c7) (pL t)) := Lib.hid (fun W' hb => by
      have h1 : Below w3.heap.size w3 W' := below_lift ((Below.refl _ _).alloc (Nat.le_refl _) _) (by simpa using hb)
      exact ⟨below_up (by simp) hq5' h1, hr7.below h1⟩)
    have hq7 : Below (w3.heap.size + 1) (w3.alloc (.cells #[.slice A7 m7 c7, .bool (pB t)] 25)) (w3.alloc (.cells #[.slice A7 m7 c7, .bool (pB t)] 25)) := Below.refl _ _
    clear hb3 hr7 hq5' hq5 hq e0 e1 e2 e3 e4 g0 g1 hl1 hl3
    have hbx5 := (HR5.out _ (HR7.out _ hq7).1).2.1
    have k0 := cell_of_row _ _ 0 _ _ _ hbx5
    have k1 := cell_of_row _ _ 1 _ _ _ hbx5
    simp only [List.getElem?_toArray, List.getElem?_cons_zero, List.getElem?_cons_succ] at k0 k1
    have hl5 := heap_lt hbx5
    have hq := (HR5.out _ (HR7.out _ hq7).1).1
    obtain ⟨e0, e1, e2, e3, e4, g0, g1⟩ := texts_cells (HK.out _ hq).2.1 (HK.out _ hq).2.2.1
    have hl1 := heap_lt (HK.out _ hq).2.1
    have hl3 := heap_lt (HK.out _ hq).2.2.1
    clear hbx5
    generalize errOf t = er
    go_wp2_with fail
    refine (same_any _ _ _ (pL t) (pL t) _ _ (HR5.out _ (HR7.out _ hq7).1).2.2 (HR7.out _ hq7).2).mono ?_
    rintro e wX ⟨rfl, hbX⟩
    rw [sameP_rfl]
    have hq := below_up (by simp) hq hbX
    clear k0 k1 hl5 e0 e1 e2 e3 e4 g0 g1 hl1 hl3
    obtain ⟨e0, e1, e2, e3, e4, g0, g1⟩ := texts_cells (HK.out _ hq).2.1 (HK.out _ hq).2.2.1
    have hl1 := heap_lt (HK.out _ hq).2.1
    have hl3 := heap_lt (HK.out _ hq).2.2.1
    go_wp2_with fail
    refine (same_any _ _ _ l l _ _ (HK.out _ hq).2.2.2.1 (HK.out _ hq).2.2.2.2).mono ?_
    rintro e wZ ⟨rfl, hbZ⟩
    rw [sameP_rfl]
    have hq := below_up (by simp) hq hbZ
    go_wp2_with fail
    go_ret
    exact ⟨rfl, (HK.out _ hq).1⟩
  · have hk1' : (k == 1) = false := by rw [beq_eq_false_iff_ne]; exact hk1
    clear hk1
    by_cases hk2 : k = 2
    · have hk2' : (k == 2) = true := by rw [hk2]; rfl
      clear hk2
      go_wp2_with fail
      have hq := hq.drew
      obtain ⟨_, _, e2, e3, _, g0, g1⟩ := texts_cells (HK.out _ hq).2.1 (HK.out _ hq).2.2.1
      first
        | go_region_held (fun W' => W'.cell? ⟨w.heap.size, 2, none⟩ = some (.slice A m c) ∧ W'.cell? ⟨w.heap.size, 3, none⟩ = some (.bool sl) ∧ W'.cell? ⟨w1.heap.size, 0, none⟩ = some (.slice A3 m c3) ∧ W'.cell? ⟨w1.heap.size, 1, none⟩ = some (.bool sl)) (exact ⟨e2, e3, g0, g1⟩)
            (first
              | (go_at_call 20; refine (text_any _ _ l sl (HK.out _ hq).2.2.2.1).mono ?_; rintro e wX ⟨rfl, hbX⟩; have hq := below_up (by simp) hq hbX; obtain ⟨_, _, e2, e3, _, g0, g1⟩ := texts_cells (HK.out _ hq).2.1 (HK.out _ hq).2.2.1)
              | (go_at_call 47; refine (refText_any _ _ l sl (HK.out _ hq).2.2.2.2 HNM.out).mono ?_; rintro e wX ⟨rfl, hbX⟩; have hq := below_up (by simp) hq hbX; obtain ⟨_, _, e2, e3, _, g0, g1⟩ := texts_cells (HK.out _ hq).2.1 (HK.out _ hq).2.2.1))
        | fail
      all_goals
        clear e0 e1 e4 hl1 hl3
        obtain ⟨e0, e1, e2, e3, e4, g0, g1⟩ := texts_cells (HK.out _ hq).2.1 (HK.out _ hq).2.2.1
        have hl1 := heap_lt (HK.out _ hq).2.1
        have hl3 := heap_lt (HK.out _ hq).2.2.1
        go_wp2_with fail
        refine (same_any _ _ _ l l _ _ (HK.out _ hq).2.2.2.1 (HK.out _ hq).2.2.2.2).mono ?_
        rintro e wZ ⟨rfl, hbZ⟩
        rw [sameP_rfl]
        have hq := below_up (by simp) hq hbZ
        go_wp2_with fail
        go_ret
        exact ⟨rfl, (HK.out _ hq).1⟩
    · have hk2' : (k == 2) = false := by rw [beq_eq_false_iff_ne]; exact hk2
      clear hk2
      by_cases hk3 : k = 3
      · have hk3' : (k == 3) = true := by rw [hk3]; rfl
        clear hk3
        go_wp2_with fail
        have hq := hq.drew
        obtain ⟨_, _, e2, e3, _, g0, g1⟩ := texts_cells (HK.out _ hq).2.1 (HK.out _ hq).2.2.1
        first
          | go_region_held (fun W' => W'.cell? ⟨w.heap.size, 2, none⟩ = some (.slice A m c) ∧ W'.cell? ⟨w.heap.size, 3, none⟩ = some (.bool sl) ∧ W'.cell? ⟨w1.heap.size, 0, none⟩ = some (.slice A3 m c3) ∧ W'.cell? ⟨w1.heap.size, 1, none⟩ = some (.bool sl)) (exact ⟨e2, e3, g0, g1⟩)
              (first
                | (go_at_call 32; refine (clean_any _ _ l sl (HK.out _ hq).2.2.2.1 (by rw [HM.out]; omega)).mono ?_; rintro e wX ⟨uA, rfl, hrA, _, _, hbX⟩; (try have hrB := hrB.below hbX); have hq := below_up (by simp) hq hbX; obtain ⟨_, _, e2, e3, _, g0, g1⟩ := texts_cells (HK.out _ hq).2.1 (HK.out _ hq).2.2.1)
                | (go_at_call 48; refine (refClean_any _ _ l sl (HK.out _ hq).2.2.2.2 (by rw [HM.out]; omega)).mono ?_; rintro e wX ⟨uB, rfl, hrB, hbX⟩; (try have hrA := hrA.below hbX); have hq := below_up (by simp) hq hbX; obtain ⟨_, _, e2, e3, _, g0, g1⟩ := texts_cells (HK.out _ hq).2.1 (HK.out _ hq).2.2.1)
                | (go_at_call 46; refine (same_any _ _ _ (clF [] l) (clF [] l) _ _ hrA hrB).mono ?_; rintro e wX ⟨rfl, hbX⟩; rw [sameP_rfl]; have hq := below_up (by simp) hq hbX; obtain ⟨_, _, e2, e3, _, g0, g1⟩ := texts_cells (HK.out _ hq).2.1 (HK.out _ hq).2.2.1))
          | fail
        all_goals
          clear e0 e1 e4 hl1 hl3
          obtain ⟨e0, e1, e2, e3, e4, g0, g1⟩ := texts_cells (HK.out _ hq).2.1 (HK.out _ hq).2.2.1
          have hl1 := heap_lt (HK.out _ hq).2.1
          have hl3 := heap_lt (HK.out _ hq).2.2.1
          go_wp2_with fail
          refine (same_any _ _ _ l l _ _ (HK.out _ hq).2.2.2.1 (HK.out _ hq).2.2.2.2).mono ?_
          rintro e wZ ⟨rfl, hbZ⟩
          rw [sameP_rfl]
          have hq := below_up (by simp) hq hbZ
          go_wp2_with fail
          go_ret
          exact ⟨rfl, (HK.out _ hq).1⟩
      · have hk3' : (k == 3) = false := by rw [beq_eq_false_iff_ne]; exact hk3
        clear hk3
        go_wp2_with fail
        refine (same_any _ _ _ l l _ _ (HK.out _ hq).2.2.2.1 (HK.out _ hq).2.2.2.2).mono ?_
        rintro e wZ ⟨rfl, hbZ⟩
        rw [sameP_rfl]
        have hq := below_up (by simp) hq hbZ
        go_wp2_with fail
        go_ret
        exact ⟨rfl, (HK.out _ hq).1⟩

end Go.Proofs.YtpombeiabgbpiaaDoor
