/-
What the statement RadixApart computes of any script and offset: true.
-/
import Derived.Test.YtfljnfmocmhhdaaWKeep
import Derived.Test.YtfljnfmocmhhdaaLLast
namespace Go.Proofs.Ytfljnfmocmhhdaa
open Go.RowKit

theorem own_form3 {w : World} {B n : Nat} {e : TypeId} {s : Nat} {v : Value} {xs : List Value} (h : w.ownsRow B e s v n xs) : ∃ A c, v = .slice A n c ∧ (A = none → n = 0 ∧ c = 0) ∧ (0 < n → ∃ g, A = some ⟨g, 0, none⟩) ∧ n ≤ c ∧ c ≤ 9223372036854775807 ∧ (∀ k, v.ownBlock = some k → B ≤ k ∧ k < w.heap.size) := by
  have hlt := h.lt
  rcases h.2 with ⟨rfl, rfl⟩ | ⟨g, cap, cur, rfl, hB, hg, h1, h2, _⟩
  · exact ⟨none, 0, rfl, fun _ => ⟨rfl, rfl⟩, fun h => by omega, by omega, by omega, fun k e => by cases e⟩
  · refine ⟨_, cap, rfl, (fun e => by cases e), fun _ => ⟨g, rfl⟩, h1, by simpa [maxLen] using h2, fun k e => ?_⟩
    have : g = k := Option.some.inj e
    subst this
    exact ⟨hB, heap_lt hg⟩

/-- the list a, written over up to k -/
def markA (L : List Run) (k : Nat) : List Run := (List.range k).map (fun i : Nat => (((-1 : Int), ((i : Nat) : Int), (7 : Int)) : Run)) ++ L.drop k

theorem markA_len (L : List Run) (k : Nat) (h : k ≤ L.length) : (markA L k).length = L.length := by simp [markA]; omega
theorem markA_set (L : List Run) (k : Nat) (h : k < L.length) : (markA L k).set k ((-1 : Int), (k : Int), (7 : Int)) = markA L (k + 1) := by
  unfold markA
  rw [List.range_succ, List.map_append, List.append_assoc]
  refine Eq.trans (List.set_append_right _ _ (by simp)) ?_
  congr 1
  rw [List.length_map, List.length_range, Nat.sub_self, List.drop_eq_getElem_cons h]
  rfl
theorem markA_zero (L : List Run) : markA L 0 = L := by simp [markA]
theorem cellsR_set : ∀ (l : List Run) (k : Nat) (a b c : Int), k < l.length → (((cellsR l).set (k * 3) (.int .i64 a)).set (k * 3 + 1) (.int .i64 b)).set (k * 3 + 2) (.int .i64 c) = cellsR (l.set k (a, b, c))
  | x :: l, 0, a, b, c, _ => by simp [cellsR]
  | x :: l, k + 1, a, b, c, h => by
    have ih := cellsR_set l k a b c (by simpa using h)
    have e1 : cellsR (x :: l) = .int .i64 x.1 :: .int .i64 x.2.1 :: .int .i64 x.2.2 :: cellsR l := rfl
    rw [List.set_cons_succ, show cellsR (x :: l.set k (a, b, c)) = .int .i64 x.1 :: .int .i64 x.2.1 :: .int .i64 x.2.2 :: cellsR (l.set k (a, b, c)) from rfl, ← ih, e1,
      show (k + 1) * 3 = k * 3 + 1 + 1 + 1 by omega, show k * 3 + 1 + 1 + 1 + 1 = (k * 3 + 1) + 1 + 1 + 1 by omega, show k * 3 + 1 + 1 + 1 + 2 = (k * 3 + 2) + 1 + 1 + 1 by omega]
    rfl
theorem mark_step {W : World} {lo hi g m c k : Nat} {L : List Run} (h : RE.In ⟨rg lo hi, lo, 66, 3, .slice (some ⟨g, 0, none⟩) m c, m, cellsR (markA L k)⟩ W) (hk : k < m) (hL : L.length = m) :
    (∃ x, W.cell? ⟨g, k * 3, none⟩ = some x) ∧ (∃ x, W.cell? ⟨g, k * 3 + 1, none⟩ = some x) ∧ (∃ x, W.cell? ⟨g, k * 3 + 2, none⟩ = some x) ∧ W.frozen? ⟨g, k * 3, none⟩ = false ∧ W.frozen? ⟨g, k * 3 + 1, none⟩ = false ∧ W.frozen? ⟨g, k * 3 + 2, none⟩ = false ∧
    RE.In ⟨rg lo hi, lo, 66, 3, .slice (some ⟨g, 0, none⟩) m c, m, cellsR (markA L (k + 1))⟩ (((W.setCell ⟨g, k * 3, none⟩ (.int .i64 (-1))).setCell ⟨g, k * 3 + 1, none⟩ (.int .i64 k)).setCell ⟨g, k * 3 + 2, none⟩ (.int .i64 7)) ∧
    Chg (fun b => lo ≤ b ∧ b < hi) W (((W.setCell ⟨g, k * 3, none⟩ (.int .i64 (-1))).setCell ⟨g, k * 3 + 1, none⟩ (.int .i64 k)).setCell ⟨g, k * 3 + 2, none⟩ (.int .i64 7)) := by
  obtain ⟨ho, hk2⟩ := h
  simp only at ho hk2
  have hml := markA_len L k (by omega)
  obtain ⟨x, hx⟩ : ∃ x, (markA L k)[k]? = some x := ⟨_, List.getElem?_eq_getElem (by omega)⟩
  have a0 := own_at ho (cellsR_at _ k x hx 0 (by omega))
  have a1 := own_at ho (cellsR_at _ k x hx 1 (by omega))
  have a2 := own_at ho (cellsR_at _ k x hx 2 (by omega))
  have hg := hk2 g rfl
  have h3 := own_set (own_set (own_set ho (k * 3) (.int .i64 (-1))) (k * 3 + 1) (.int .i64 k)) (k * 3 + 2) (.int .i64 7)
  rw [cellsR_set _ k _ _ _ (by omega), markA_set L k (by omega)] at h3
  exact ⟨⟨_, a0.1⟩, ⟨_, a1.1⟩, ⟨_, a2.1⟩, a0.2, a1.2, a2.2, ⟨h3, hk2⟩, (((Chg.refl _ W).setCell (p := ⟨g, k * 3, none⟩) (fun _ => hg) _).setCell (p := ⟨g, k * 3 + 1, none⟩) (fun _ => hg) _).setCell (p := ⟨g, k * 3 + 2, none⟩) (fun _ => hg) _⟩

theorem fill_set (ys : List Int) (k : Nat) (h : k < ys.length) : ((List.replicate k (-5 : Int) ++ ys.drop k).map fun x => Value.int .i64 x).set k (.int .i64 (-5)) = (List.replicate (k + 1) (-5 : Int) ++ ys.drop (k + 1)).map fun x => Value.int .i64 x := by
  rw [← List.map_set]
  congr 1
  refine Eq.trans (List.set_append_right _ _ (by simp)) ?_
  rw [List.length_replicate, Nat.sub_self, List.drop_eq_getElem_cons h, List.replicate_succ', List.append_assoc]
  rfl
theorem fill_step {W : World} {lo hi g m c k : Nat} {ys : List Int} (h : RE.In ⟨rg lo hi, lo, 3, 1, .slice (some ⟨g, 0, none⟩) m c, m, (List.replicate k (-5 : Int) ++ ys.drop k).map fun x => Value.int .i64 x⟩ W) (hk : k < m) (hL : ys.length = m) :
    (∃ x, W.cell? ⟨g, k, none⟩ = some x) ∧ W.frozen? ⟨g, k, none⟩ = false ∧
    RE.In ⟨rg lo hi, lo, 3, 1, .slice (some ⟨g, 0, none⟩) m c, m, (List.replicate (k + 1) (-5 : Int) ++ ys.drop (k + 1)).map fun x => Value.int .i64 x⟩ (W.setCell ⟨g, k, none⟩ (.int .i64 (-5))) ∧
    Chg (fun b => lo ≤ b ∧ b < hi) W (W.setCell ⟨g, k, none⟩ (.int .i64 (-5))) := by
  obtain ⟨ho, hk2⟩ := h
  simp only at ho hk2
  obtain ⟨x, hx⟩ : ∃ x, ((List.replicate k (-5 : Int) ++ ys.drop k).map fun x => Value.int .i64 x)[k]? = some x := ⟨_, List.getElem?_eq_getElem (by simp; omega)⟩
  have a0 := own_at ho hx
  have hg := hk2 g rfl
  have h3 := own_set ho k (.int .i64 (-5))
  rw [fill_set ys k (by omega)] at h3
  exact ⟨⟨_, a0.1⟩, a0.2, ⟨h3, hk2⟩, (Chg.refl _ W).setCell (p := ⟨g, k, none⟩) (fun _ => hg) _⟩

theorem markA_get (L : List Run) {m k : Nat} (h : k < m) : (markA L m)[k]? = some ((-1 : Int), (k : Int), (7 : Int)) := by
  unfold markA
  rw [List.getElem?_append_left (by simpa using h), List.getElem?_map, List.getElem?_range h]
  rfl
theorem app_left {α : Type} {l r : List α} {j : Nat} {u : α} (h : l[j]? = some u) : (l ++ r)[j]? = some u := by
  rw [List.getElem?_append_left (List.getElem?_eq_some_iff.1 h).1]; exact h
theorem cut_count (f : Nat → Int) (o : Nat) : ∀ n, cntN (cutI f o) n + (items f 0 (o : Int) n).length = cntN f n
  | 0 => rfl
  | n + 1 => by
    have ih := cut_count f o n
    rw [cntN_succ, cntN_succ, items_succ, List.length_append, Nat.zero_add]
    by_cases h : o ≤ n
    · rw [show cutI f o n = 0 from if_pos (by omega), if_pos rfl]
      by_cases hz : f n = 0
      · rw [if_pos hz, if_neg (fun h => h.2 hz)]; simpa using ih
      · rw [if_neg hz, if_pos ⟨by omega, hz⟩]; simp; omega
    · have e1 : (if (o : Int) ≤ ((n : Nat) : Int) ∧ f n ≠ 0 then [(n, f n)] else []) = ([] : List (Nat × Int)) := if_neg (fun h' => h (by have := h'.1; omega))
      rw [show cutI f o n = f n from if_neg (by omega), e1, List.length_nil]
      split <;> omega

theorem last_two (h : Nat → Int) : items (upd (upd h 511 81) 510 82) 0 510 512 = [(510, 82), (511, 81)] := by
  have e := items_add (upd (upd h 511 81) 510 82) 0 510 510 2
  have e0 : items (upd (upd h 511 81) 510 82) 0 510 510 = [] := items_none _ _ _ _ (.inl (by omega))
  rw [e0, List.nil_append] at e
  rw [e]
  simp [items, List.range_succ, upd]
theorem lit_two (w : World) (a b : Int) (t : TypeId) : RdI (w.alloc (.cells #[.int .i64 a, .int .i64 b] t)) (some ⟨w.heap.size, 0, none⟩) 2 2 [a, b] := by
  have hg := heap_alloc_new w (.cells #[.int .i64 a, .int .i64 b] t)
  refine ⟨rfl, by omega, by omega, .inr ⟨_, 0, rfl, fun j u hj => ?_⟩⟩
  rw [Nat.zero_add, cell_of_row _ _ _ _ _ _ hg]
  rcases j with _ | _ | j
  · simp at hj; subst hj; rfl
  · simp at hj; subst hj; rfl
  · simp at hj

set_option maxRecDepth 100000 in
set_option maxHeartbeats 16000000 in
theorem radixApart_any (w : World) (A : Option Addr) (n c : Nat) (l : List PutV) (hr : RdT w A n c l) (O : Int) : Calls Try.prog 16 #[.slice A n c, .int .i64 O] w fun e w' => e = .returned (.bool true) ∧ Below w.heap.size w w' := by
  obtain ⟨i0, hi, hz0, hz1, hz2⟩ := info_parts info66
  obtain ⟨j0, gi, gz0, gz1, gz2⟩ := info_parts info3
  have HGR := Lib.hid (fun (X : World) (hX : Below w.heap.size w X) => grown_any X A n c l (hr.below hX))
  clear hr
  go_enter Try.func16, Try.ntmps16
  go_wp2_with fail
  refine (HGR.out w (Below.refl _ _)).mono ?_
  rintro e W1 ⟨rfl, hg⟩
  obtain ⟨lb1, ht1, hl1⟩ := hg.tree
  have hb1 := hg.bel
  clear hg
  generalize hf : runP (l.take 400) = f at *
  clear hf
  obtain ⟨r1, hr1⟩ : ∃ r, w.heap.size + 1 = r := ⟨_, rfl⟩
  rw [hr1] at ht1 ⊢
  clear hr1
  have HA : Hid (Ap w [⟨rg w.heap.size W1.heap.size, r1, f, lb1⟩] [] W1) := ⟨by simp only [List.forall_mem_singleton]; exact ⟨ht1, fun b hb => ⟨hl1 b hb, ht1.dom b hb⟩⟩, by simp, hb1⟩
  have q1 := hb1.size
  clear ht1 hl1
  go_wp2_with fail
  refine (HGR.out W1 hb1).mono ?_
  rintro e W2 ⟨rfl, hg⟩
  obtain ⟨lb2, ht2, hl2⟩ := hg.tree
  have hb2 := hg.bel
  obtain ⟨r2, hr2⟩ : ∃ r, W1.heap.size + 1 = r := ⟨_, rfl⟩
  rw [hr2] at ht2 ⊢
  clear hr2 hg HGR hb1
  replace HA := Lib.hid ((HA.out.below hb2).tree ⟨rg W1.heap.size W2.heap.size, r2, f, lb2⟩ ⟨ht2, fun b hb => ⟨hl2 b hb, ht2.dom b hb⟩⟩)
  have q2 := hb2.size
  clear ht2 hl2 hb2
  go_wp2_with fail
  refine (place5_any O W2).mono ?_
  rintro e X ⟨rfl, rfl⟩
  have ho := plc5_lt O
  generalize plc5 O = o at *
  go_wp2_with fail
  refine (copy_calls W2 r1 f lb1 (HA.out.trees ⟨rg w.heap.size W1.heap.size, r1, f, lb1⟩ (by simp)).1).mono ?_
  rintro e W3 ⟨r3, lb3, rfl, ht3, hl3, hb3⟩
  replace HA := Lib.hid ((HA.out.below hb3).tree ⟨rg W2.heap.size W3.heap.size, r3, f, lb3⟩ ⟨ht3, fun b hb => ⟨hl3 b hb, ht3.dom b hb⟩⟩)
  have q3 := hb3.size
  clear ht3 hl3 hb3
  go_wp2_with fail
  refine (copy_calls W3 r1 f lb1 (HA.out.trees ⟨rg w.heap.size W1.heap.size, r1, f, lb1⟩ (by simp)).1).mono ?_
  rintro e W4 ⟨r4, lb4, rfl, ht4, hl4, hb4⟩
  replace HA := Lib.hid ((HA.out.below hb4).tree ⟨rg W3.heap.size W4.heap.size, r4, f, lb4⟩ ⟨ht4, fun b hb => ⟨hl4 b hb, ht4.dom b hb⟩⟩)
  have q4 := hb4.size
  clear ht4 hl4 hb4
  have HRU := Lib.hid (fun (X : World) (q : Nat) (lq : Nat → Nat) (hq : TreeI X q f lq) => runs_calls X q f lq hq)
  have hrl := runs_len f
  generalize hL : runsOf (items f 0 0 512) = L at *
  obtain ⟨m, hm⟩ : ∃ m, L.length = m := ⟨_, rfl⟩
  rw [hm] at hrl HRU
  have HL := Lib.hid hL
  have HM := Lib.hid hm
  clear hL hm
  go_wp2_with fail
  refine (HRU.out W4 r1 lb1 (HA.out.trees ⟨rg w.heap.size W1.heap.size, r1, f, lb1⟩ (by simp)).1).mono ?_
  rintro e W5 ⟨va, rfl, ho5, hb5⟩
  obtain ⟨Aa, ca, rfl, _, hga, hca, hca2, hka⟩ := own_form3 ho5
  replace HA := Lib.hid ((HA.out.below hb5).row ⟨rg W4.heap.size W5.heap.size, W4.heap.size, 66, 3, .slice Aa m ca, m, cellsR L⟩ ⟨ho5, hka⟩)
  have q5 := hb5.size
  have HGA := Lib.hid hga
  clear ho5 hb5 hka hga
  go_wp2_with fail
  refine (HRU.out W5 r2 lb2 (HA.out.trees ⟨rg W1.heap.size W2.heap.size, r2, f, lb2⟩ (by simp)).1).mono ?_
  rintro e W6 ⟨vk, rfl, ho6, hb6⟩
  obtain ⟨Ak, ck, rfl, _, hgk, hck, hck2, hkk⟩ := own_form3 ho6
  replace HA := Lib.hid ((HA.out.below hb6).row ⟨rg W5.heap.size W6.heap.size, W5.heap.size, 66, 3, .slice Ak m ck, m, cellsR L⟩ ⟨ho6, hkk⟩)
  have q6 := hb6.size
  have HGK := Lib.hid hgk
  clear ho6 hb6 hkk hgk
  go_wp2_with fail
  refine (HRU.out W6 r1 lb1 (HA.out.trees ⟨rg w.heap.size W1.heap.size, r1, f, lb1⟩ (by simp)).1).mono ?_
  rintro e W7 ⟨vb, rfl, ho7, hb7⟩
  obtain ⟨Ab, cb, rfl, _, hgb, hcb, hcb2, hkb⟩ := own_form3 ho7
  replace HA := Lib.hid ((HA.out.below hb7).row ⟨rg W6.heap.size W7.heap.size, W6.heap.size, 66, 3, .slice Ab m cb, m, cellsR L⟩ ⟨ho7, hkb⟩)
  have q7 := hb7.size
  have HGB := Lib.hid hgb
  clear ho7 hb7 hkb hgb
  have ea := HA.out.rows ⟨rg W4.heap.size W5.heap.size, W4.heap.size, 66, 3, .slice Aa m ca, m, cellsR L⟩ (by simp)
  have ek := HA.out.rows ⟨rg W5.heap.size W6.heap.size, W5.heap.size, 66, 3, .slice Ak m ck, m, cellsR L⟩ (by simp)
  have eb := HA.out.rows ⟨rg W6.heap.size W7.heap.size, W6.heap.size, 66, 3, .slice Ab m cb, m, cellsR L⟩ (by simp)
  have HS1 := Lib.hid (sameRuns_yes L Aa Ak m ca ck W7 (RdR.of_own ea.1 HM.out (by omega)) (RdR.of_own ek.1 HM.out (by omega)))
  have HS2 := Lib.hid (fun X (hX : Below W7.heap.size W7 X) => sameRuns_yes L Ab Ak m cb ck X ((RdR.of_own eb.1 HM.out (by omega)).below hX) ((RdR.of_own ek.1 HM.out (by omega)).below hX))
  clear ea ek eb
  go_wp2_with fail
  refine HS1.out.mono ?_
  rintro e W8 ⟨rfl, hb8⟩
  have HB8 := Lib.hid hb8
  have HS3 := Lib.hid (HS2.out W8 hb8)
  clear hb8 HS1 HS2
  go_wp2_with fail
  refine HS3.out.mono ?_
  rintro e W9 ⟨rfl, hb9⟩
  replace HA := Lib.hid ((HA.out.below HB8.out).below hb9)
  have q9 := Nat.le_trans HB8.out.size hb9.size
  clear hb9 HB8 HS3
  go_wp2_with fail
  go_loopw [14] (fun v14 wr => ∃ k : Nat, k ≤ m ∧ v14 = .int .i64 k ∧ W7.heap.size ≤ wr.heap.size ∧ Hid (Ap w _ [⟨rg W6.heap.size W7.heap.size, W6.heap.size, 66, 3, .slice Ab m cb, m, cellsR L⟩, ⟨rg W5.heap.size W6.heap.size, W5.heap.size, 66, 3, .slice Ak m ck, m, cellsR L⟩, ⟨rg W4.heap.size W5.heap.size, W4.heap.size, 66, 3, .slice Aa m ca, m, cellsR (markA L k)⟩] wr)) (fun v14 _ => m - (intOf v14).toNat)
  case atStart => exact ⟨0, by omega, rfl, q9, by rw [markA_zero]; exact HA⟩
  case round =>
    clear HA
    obtain ⟨k, hk, rfl, hwz, HA⟩ := hrel
    by_cases hlt : k < m
    · obtain ⟨g, rfl⟩ := HGA.out (by omega)
      obtain ⟨⟨x0, c0⟩, ⟨x1, c1⟩, ⟨x2, c2⟩, f0, f1, f2, hre, hch⟩ := mark_step (HA.out.rows ⟨rg W4.heap.size W5.heap.size, W4.heap.size, 66, 3, .slice (some ⟨g, 0, none⟩) m ca, m, cellsR (markA L k)⟩ (by simp)) hlt HM.out
      obtain ⟨X1, hX1⟩ : ∃ X, ((wr.setCell ⟨g, k * 3, none⟩ (.int .i64 (-1))).setCell ⟨g, k * 3 + 1, none⟩ (.int .i64 k)).setCell ⟨g, k * 3 + 2, none⟩ (.int .i64 7) = X := ⟨_, rfl⟩
      rw [hX1] at hre hch
      have HE : Hid (Ap w [⟨rg W3.heap.size W4.heap.size, r4, f, lb4⟩, ⟨rg W2.heap.size W3.heap.size, r3, f, lb3⟩, ⟨rg W1.heap.size W2.heap.size, r2, f, lb2⟩, ⟨rg w.heap.size W1.heap.size, r1, f, lb1⟩] [⟨rg W6.heap.size W7.heap.size, W6.heap.size, 66, 3, .slice Ab m cb, m, cellsR L⟩, ⟨rg W5.heap.size W6.heap.size, W5.heap.size, 66, 3, .slice Ak m ck, m, cellsR L⟩, ⟨rg W4.heap.size W5.heap.size, W4.heap.size, 66, 3, .slice (some ⟨g, 0, none⟩) m ca, m, cellsR (markA L (k + 1))⟩] X1) := by
        have h1 := (HA.out.sub (T' := [⟨rg W3.heap.size W4.heap.size, r4, f, lb4⟩, ⟨rg W2.heap.size W3.heap.size, r3, f, lb3⟩, ⟨rg W1.heap.size W2.heap.size, r2, f, lb2⟩, ⟨rg w.heap.size W1.heap.size, r1, f, lb1⟩]) (R' := [⟨rg W6.heap.size W7.heap.size, W6.heap.size, 66, 3, .slice Ab m cb, m, cellsR L⟩, ⟨rg W5.heap.size W6.heap.size, W5.heap.size, 66, 3, .slice Ak m ck, m, cellsR L⟩]) (by simp) (by simp)).chg hch (by intro x hx b hb; simp only [List.mem_cons, List.not_mem_nil, or_false] at hx; rcases hx with rfl | rfl | rfl | rfl <;> (simp only [rg] at hb ⊢; omega)) (by intro x hx b hb; simp only [List.mem_cons, List.not_mem_nil, or_false] at hx; rcases hx with rfl | rfl <;> (simp only [rg] at hb ⊢; omega)) (fun b h => by omega)
        have h2 := h1.row _ hre
        exact h2.sub (by simp) (by simp)
      have hxz : wr.heap.size ≤ X1.heap.size := hch.size
      clear hre hch HA
      go_wp2_with fail
      go_roundw
      case rel => exact ⟨k + 1, by omega, by go_num, by omega, HE⟩
      case measure => simp [intOf]; omega
    · obtain rfl : m = k := by omega
      have ea := HA.out.rows ⟨rg W4.heap.size W5.heap.size, W4.heap.size, 66, 3, .slice Aa m ca, m, cellsR (markA L m)⟩ (by simp)
      have HOA := Lib.hid ea.1
      have hea := ea.2
      have hmkl := markA_len L m (Nat.le_of_eq HM.out.symm)
      have HEA := Lib.hid hea
      clear ea hea
      go_wp2_with (at_builtin; refine wpList_append_keep _ rfl _ _ 63 rfl W4.heap.size 66 i0 (.agg #[.int .i64 0, .int .i64 0, .int .i64 0]) 3 24 Try.underlying63 hi hz0 hz1 hz2 rfl (by decide) (.slice Aa m ca) m (cellsR (markA L m)) rfl (HOA.out.alloc _) ⟨wr.heap.size, 0, none⟩ 2 2 [.int .i64 (-2), .int .i64 0, .int .i64 0, .int .i64 (-3), .int .i64 0, .int .i64 0] rfl rfl (World.news_of_block (cs := #[.int .i64 (-2), .int .i64 0, .int .i64 0, .int .i64 (-3), .int .i64 0, .int .i64 0]) (t := 66) (fr := (0, 0)) (heap_alloc_new wr _)) (by simp [Value.oneCell']) (by simp only [maxLen]; omega) (by omega) (by simp; omega) ?_; intro v10 W10 hown10 hgr10 hold10 hblk10; have HN10 := Lib.hid (And.intro hown10 (And.intro hgr10 (And.intro hold10 hblk10))); clear hown10 hgr10 hold10 hblk10)
      -- GENERATED
      obtain ⟨wo, rfl⟩ : ∃ wo : World, wo = wr := ⟨_, rfl⟩
      obtain ⟨hown10, hgr10, hold10, hblk10⟩ := HN10.out
      obtain ⟨Am, cm, rfl, _, hgm, hcm, hcm2, hkm⟩ := own_form3 hown10
      obtain ⟨gm, rfl⟩ := hgm (by omega)
      have hc10 : Chg (rg W4.heap.size W5.heap.size) wo W10 := ((Chg.refl (rg W4.heap.size W5.heap.size) wo).alloc _).grown hgr10 (fun k e _ => HEA.out k e)
      have q10 : wo.heap.size ≤ W10.heap.size := hc10.size
      have h10 := (HA.out.sub (T' := [⟨rg W3.heap.size W4.heap.size, r4, f, lb4⟩, ⟨rg W2.heap.size W3.heap.size, r3, f, lb3⟩, ⟨rg W1.heap.size W2.heap.size, r2, f, lb2⟩, ⟨rg w.heap.size W1.heap.size, r1, f, lb1⟩]) (R' := [⟨rg W6.heap.size W7.heap.size, W6.heap.size, 66, 3, .slice Ab m cb, m, cellsR L⟩, ⟨rg W5.heap.size W6.heap.size, W5.heap.size, 66, 3, .slice Ak m ck, m, cellsR L⟩]) (by simp) (by simp)).chg hc10 (by intro x hx b hb; simp only [List.mem_cons, List.not_mem_nil, or_false] at hx; rcases hx with rfl | rfl | rfl | rfl <;> (simp only [rg] at hb ⊢; omega)) (by intro x hx b hb; simp only [List.mem_cons, List.not_mem_nil, or_false] at hx; rcases hx with rfl | rfl <;> (simp only [rg] at hb ⊢; omega)) (fun b h => by simp only [rg] at h; omega)
      replace HA := Lib.hid ((h10.row ⟨rg W4.heap.size W5.heap.size, W4.heap.size, 66, 3, .slice Aa m ca, m, cellsR (markA L m)⟩ ⟨hold10, HEA.out⟩).row ⟨fun b => rg W4.heap.size W5.heap.size b ∨ rg W7.heap.size W10.heap.size b, W4.heap.size, 66, 3, .slice (some ⟨gm, 0, none⟩) (m + 2) cm, m + 2, cellsR (markA L m) ++ [.int .i64 (-2), .int .i64 0, .int .i64 0, .int .i64 (-3), .int .i64 0, .int .i64 0]⟩ ⟨hown10, fun k hk => by rcases hblk10 k hk with h | h; exact .inl (HEA.out k h); right; have h8 := hkm k hk; simp at h; exact ⟨by omega, h8.2⟩⟩)
      have qm := Nat.le_trans hwz q10
      clear hown10 hgr10 hold10 hblk10 hkm hc10 h10 HN10 HOA HEA hwz q10 hgm
      have h3 := (HA.out.trees ⟨rg W2.heap.size W3.heap.size, r3, f, lb3⟩ (by simp)).2
      refine (cut_calls W10 r3 f lb3 (HA.out.trees ⟨rg W2.heap.size W3.heap.size, r3, f, lb3⟩ (by simp)).1 (o : Int) (by omega)).mono ?_
      rintro e W11 ⟨vx, rfl, ho11, ht11, hc11⟩
      have hil := items_len f 0 (o : Int) 512
      generalize hxs : items f 0 (o : Int) 512 = xs at *
      obtain ⟨nx, hnx⟩ : ∃ nx, xs.length = nx := ⟨_, rfl⟩
      rw [hnx] at ho11 hil
      obtain ⟨Ax, cx, rfl, _, hgx, hcx, hcx2, hkx⟩ := own_form3 ho11
      have h11 := (HA.out.sub (T' := [⟨rg W3.heap.size W4.heap.size, r4, f, lb4⟩, ⟨rg W1.heap.size W2.heap.size, r2, f, lb2⟩, ⟨rg w.heap.size W1.heap.size, r1, f, lb1⟩]) (R' := [⟨fun b => rg W4.heap.size W5.heap.size b ∨ rg W7.heap.size W10.heap.size b, W4.heap.size, 66, 3, .slice (some ⟨gm, 0, none⟩) (m + 2) cm, m + 2, cellsR (markA L m) ++ [.int .i64 (-2), .int .i64 0, .int .i64 0, .int .i64 (-3), .int .i64 0, .int .i64 0]⟩, ⟨rg W4.heap.size W5.heap.size, W4.heap.size, 66, 3, .slice Aa m ca, m, cellsR (markA L m)⟩, ⟨rg W6.heap.size W7.heap.size, W6.heap.size, 66, 3, .slice Ab m cb, m, cellsR L⟩, ⟨rg W5.heap.size W6.heap.size, W5.heap.size, 66, 3, .slice Ak m ck, m, cellsR L⟩]) (by simp) (by simp)).chg hc11 (by intro x hx b hb hd; have h9 := h3 b hd; simp only [List.mem_cons, List.not_mem_nil, or_false] at hx; rcases hx with rfl | rfl | rfl <;> (simp only [rg] at hb h9; omega)) (by intro x hx b hb hd; have h9 := h3 b hd; simp only [List.mem_cons, List.not_mem_nil, or_false] at hx; rcases hx with rfl | rfl | rfl | rfl <;> (simp only [rg] at hb h9; omega)) (fun b h => by have := h3 b h; simp only [rg] at this; omega)
      replace HA := Lib.hid ((h11.tree ⟨rg W2.heap.size W3.heap.size, r3, cutI f o, lb3⟩ ⟨ht11, h3⟩).row ⟨rg W10.heap.size W11.heap.size, W10.heap.size, 3, 1, .slice Ax nx cx, nx, xs.map fun x => .int .i64 x.2⟩ ⟨ho11, hkx⟩)
      have q11 : W10.heap.size ≤ W11.heap.size := hc11.size
      have HCC : Hid (cntI (cutI f o) + nx = cntI f) := by rw [← hnx, ← hxs]; exact cut_count f o 512
      have HXS := Lib.hid hxs
      have HNX := Lib.hid hnx
      have HGX := Lib.hid hgx
      have hwq : w.heap.size ≤ W2.heap.size := Nat.le_trans q1 q2
      clear ho11 ht11 hc11 hkx h11 hxs hnx hgx h3
      go_wp2_with fail
      go_loopw [17, 18] (fun v17 v18 wr => ∃ (k : Nat) (vw : Value), vw = v17 ∧ o ≤ k ∧ k ≤ 512 ∧ v18 = .int .i64 k ∧ W11.heap.size ≤ wr.heap.size ∧ Hid (Ap w [⟨rg W2.heap.size W3.heap.size, r3, cutI f o, lb3⟩, ⟨rg W3.heap.size W4.heap.size, r4, f, lb4⟩, ⟨rg W1.heap.size W2.heap.size, r2, f, lb2⟩, ⟨rg w.heap.size W1.heap.size, r1, f, lb1⟩] [⟨fun b => W11.heap.size ≤ b, W11.heap.size, 3, 1, v17, (items f 0 (o : Int) k).length, (items f 0 (o : Int) k).map fun x => .int .i64 x.2⟩, ⟨rg W10.heap.size W11.heap.size, W10.heap.size, 3, 1, .slice Ax nx cx, nx, xs.map fun x => .int .i64 x.2⟩, ⟨fun b => rg W4.heap.size W5.heap.size b ∨ rg W7.heap.size W10.heap.size b, W4.heap.size, 66, 3, .slice (some ⟨gm, 0, none⟩) (m + 2) cm, m + 2, cellsR (markA L m) ++ [.int .i64 (-2), .int .i64 0, .int .i64 0, .int .i64 (-3), .int .i64 0, .int .i64 0]⟩, ⟨rg W4.heap.size W5.heap.size, W4.heap.size, 66, 3, .slice Aa m ca, m, cellsR (markA L m)⟩, ⟨rg W6.heap.size W7.heap.size, W6.heap.size, 66, 3, .slice Ab m cb, m, cellsR L⟩, ⟨rg W5.heap.size W6.heap.size, W5.heap.size, 66, 3, .slice Ak m ck, m, cellsR L⟩] wr)) (fun _ v18 _ => 512 - (intOf v18).toNat)
      case atStart =>
        have h0 : items f 0 (o : Int) o = [] := items_none _ _ _ _ (.inl (by simp))
        exact ⟨o, _, rfl, by omega, by omega, rfl, Nat.le_refl _, by rw [h0]; exact HA.out.row _ ⟨World.ownsRow_nil _ _ _ _, fun k hk => by cases hk⟩⟩
      case round =>
        clear HA
        obtain ⟨k, vw, rfl, hk0, hk, rfl, hwz, HA⟩ := hrel
        have hik := items_len f 0 (o : Int) k
        by_cases hlt : k < 512
        · have hsn := items_succ f 0 (o : Int) k
          rw [Nat.zero_add] at hsn
          have HG := Lib.hid (get_any wr r1 f lb1 (HA.out.trees ⟨rg w.heap.size W1.heap.size, r1, f, lb1⟩ (by simp)).1 k hlt)
          by_cases hfz : f k = 0
          · rw [if_neg (fun h => h.2 hfz), List.append_nil] at hsn
            rw [hfz] at HG
            rw [← hsn] at HA
            clear hsn hfz
            go_wp2_with fail
            refine HG.out.mono ?_
            rintro e X ⟨rfl, rfl⟩
            go_wp2_with fail
            go_roundw
            case rel => exact ⟨k + 1, _, rfl, by omega, by omega, by go_num, hwz, HA⟩
            case measure => simp [intOf]; omega
          · rw [if_pos ⟨by omega, hfz⟩] at hsn
            have hz1 : (f k != 0) = true := by simpa using hfz
            have HSN := Lib.hid hsn
            clear hsn hfz
            generalize hfk : f k = fk at *
            generalize hls : items f 0 (o : Int) k = ls at *
            have HOW := Lib.hid (HA.out.rows ⟨fun b => W11.heap.size ≤ b, W11.heap.size, 3, 1, vw, ls.length, ls.map fun x => .int .i64 x.2⟩ (by simp)).1
            have HEW := Lib.hid (HA.out.rows ⟨fun b => W11.heap.size ≤ b, W11.heap.size, 3, 1, vw, ls.length, ls.map fun x => .int .i64 x.2⟩ (by simp)).2
            clear hfk hls
            go_wp2_with fail
            refine HG.out.mono ?_
            rintro e X ⟨rfl, rfl⟩
            go_wp2_with fail
            refine HG.out.mono ?_
            rintro e X ⟨rfl, rfl⟩
            go_wp2_with (at_builtin; refine wpList_append_own _ rfl _ _ 32 rfl W11.heap.size 3 j0 (.int .i64 0) 1 8 Try.underlying32 gi gz0 gz1 gz2 rfl (by decide) vw ls.length _ rfl (HOW.out.alloc _) ⟨wr.heap.size, 0, none⟩ 1 1 [.int .i64 fk] rfl rfl (cell_one_new _ _ _) (by simp [Value.oneCell']) (by simp only [maxLen]; omega) (by omega) (by simp; omega) ?_; intro v' w1 hown' hgrow _; have HX := Lib.hid (And.intro hown' hgrow); clear hown' hgrow)
            obtain ⟨hown', hgrow⟩ := HX.out
            have hcw : Chg (fun b => W11.heap.size ≤ b) wr w1 := ((Chg.refl (fun b => W11.heap.size ≤ b) wr).alloc _).grown hgrow (fun k e _ => HEW.out k e)
            have hlt' := hown'.lt
            have hE1 := (HA.out.sub (T' := [⟨rg W2.heap.size W3.heap.size, r3, cutI f o, lb3⟩, ⟨rg W3.heap.size W4.heap.size, r4, f, lb4⟩, ⟨rg W1.heap.size W2.heap.size, r2, f, lb2⟩, ⟨rg w.heap.size W1.heap.size, r1, f, lb1⟩]) (R' := [⟨rg W10.heap.size W11.heap.size, W10.heap.size, 3, 1, .slice Ax nx cx, nx, xs.map fun x => .int .i64 x.2⟩, ⟨fun b => rg W4.heap.size W5.heap.size b ∨ rg W7.heap.size W10.heap.size b, W4.heap.size, 66, 3, .slice (some ⟨gm, 0, none⟩) (m + 2) cm, m + 2, cellsR (markA L m) ++ [.int .i64 (-2), .int .i64 0, .int .i64 0, .int .i64 (-3), .int .i64 0, .int .i64 0]⟩, ⟨rg W4.heap.size W5.heap.size, W4.heap.size, 66, 3, .slice Aa m ca, m, cellsR (markA L m)⟩, ⟨rg W6.heap.size W7.heap.size, W6.heap.size, 66, 3, .slice Ab m cb, m, cellsR L⟩, ⟨rg W5.heap.size W6.heap.size, W5.heap.size, 66, 3, .slice Ak m ck, m, cellsR L⟩]) (by simp) (by simp)).chg hcw (by intro x hx b hb; simp only [List.mem_cons, List.not_mem_nil, or_false] at hx; rcases hx with rfl | rfl | rfl | rfl <;> (simp only [rg] at hb ⊢; omega)) (by intro x hx b hb; simp only [List.mem_cons, List.not_mem_nil, or_false] at hx; rcases hx with rfl | rfl | rfl | rfl | rfl <;> (simp only [rg] at hb ⊢; omega)) (fun b h => by omega)
            have hqw : W11.heap.size ≤ w1.heap.size := Nat.le_trans hwz hcw.size
            have HE : Hid (Ap w [⟨rg W2.heap.size W3.heap.size, r3, cutI f o, lb3⟩, ⟨rg W3.heap.size W4.heap.size, r4, f, lb4⟩, ⟨rg W1.heap.size W2.heap.size, r2, f, lb2⟩, ⟨rg w.heap.size W1.heap.size, r1, f, lb1⟩] [⟨fun b => W11.heap.size ≤ b, W11.heap.size, 3, 1, v', (items f 0 (o : Int) (k + 1)).length, (items f 0 (o : Int) (k + 1)).map fun x => .int .i64 x.2⟩, ⟨rg W10.heap.size W11.heap.size, W10.heap.size, 3, 1, .slice Ax nx cx, nx, xs.map fun x => .int .i64 x.2⟩, ⟨fun b => rg W4.heap.size W5.heap.size b ∨ rg W7.heap.size W10.heap.size b, W4.heap.size, 66, 3, .slice (some ⟨gm, 0, none⟩) (m + 2) cm, m + 2, cellsR (markA L m) ++ [.int .i64 (-2), .int .i64 0, .int .i64 0, .int .i64 (-3), .int .i64 0, .int .i64 0]⟩, ⟨rg W4.heap.size W5.heap.size, W4.heap.size, 66, 3, .slice Aa m ca, m, cellsR (markA L m)⟩, ⟨rg W6.heap.size W7.heap.size, W6.heap.size, 66, 3, .slice Ab m cb, m, cellsR L⟩, ⟨rg W5.heap.size W6.heap.size, W5.heap.size, 66, 3, .slice Ak m ck, m, cellsR L⟩] w1) := by
              rw [HSN.out, List.length_append, List.map_append]
              exact hE1.row _ ⟨hown', fun k hk => (hlt' k hk).1⟩
            clear hown' hgrow hcw hlt' hE1 HX HOW HEW HA
            go_wp2_with fail
            go_roundw
            case rel => exact ⟨k + 1, _, rfl, by omega, by omega, by go_num, hqw, HE⟩
            case measure => simp [intOf]; omega
        · obtain rfl : 512 = k := by omega
          rw [HXS.out, HNX.out] at HA
          obtain ⟨W12, rfl⟩ : ∃ W12 : World, W12 = wr := ⟨_, rfl⟩
          obtain ⟨ys, hys⟩ : ∃ ys, xs.map Prod.snd = ys := ⟨_, rfl⟩
          have hyl : ys.length = nx := by rw [← hys, List.length_map]; exact HNX.out
          have hye : (xs.map fun x => Value.int .i64 x.2) = ys.map fun x => Value.int .i64 x := by rw [← hys, List.map_map]; rfl
          rw [hye] at HA
          have HYS := Lib.hid hys
          have HYL := Lib.hid hyl
          have hw12 : W12.ownsRow W11.heap.size 3 1 vw nx (ys.map fun x => .int .i64 x) := (HA.out.rows ⟨fun b => W11.heap.size ≤ b, W11.heap.size, 3, 1, vw, nx, ys.map fun x => .int .i64 x⟩ (by simp)).1
          obtain ⟨Aw, cw, rfl, _, hgw, hcw, hcw2, hkw⟩ := own_form3 hw12
          replace HA := Lib.hid ((HA.out.sub (T' := [⟨rg W2.heap.size W3.heap.size, r3, cutI f o, lb3⟩, ⟨rg W3.heap.size W4.heap.size, r4, f, lb4⟩, ⟨rg W1.heap.size W2.heap.size, r2, f, lb2⟩, ⟨rg w.heap.size W1.heap.size, r1, f, lb1⟩]) (R' := [⟨rg W10.heap.size W11.heap.size, W10.heap.size, 3, 1, .slice Ax nx cx, nx, ys.map fun x => .int .i64 x⟩, ⟨fun b => rg W4.heap.size W5.heap.size b ∨ rg W7.heap.size W10.heap.size b, W4.heap.size, 66, 3, .slice (some ⟨gm, 0, none⟩) (m + 2) cm, m + 2, cellsR (markA L m) ++ [.int .i64 (-2), .int .i64 0, .int .i64 0, .int .i64 (-3), .int .i64 0, .int .i64 0]⟩, ⟨rg W4.heap.size W5.heap.size, W4.heap.size, 66, 3, .slice Aa m ca, m, cellsR (markA L m)⟩, ⟨rg W6.heap.size W7.heap.size, W6.heap.size, 66, 3, .slice Ab m cb, m, cellsR L⟩, ⟨rg W5.heap.size W6.heap.size, W5.heap.size, 66, 3, .slice Ak m ck, m, cellsR L⟩]) (by simp) (by simp)).row ⟨rg W11.heap.size W12.heap.size, W11.heap.size, 3, 1, .slice Aw nx cw, nx, ys.map fun x => .int .i64 x⟩ ⟨hw12, hkw⟩)
          have HYE := Lib.hid hye
          clear hys hyl hye hw12 hkw hgw
          have HSI := Lib.hid (sameInts_yes ys Ax Aw nx cx cw W12 (RdI.of_own (HA.out.rows ⟨rg W10.heap.size W11.heap.size, W10.heap.size, 3, 1, .slice Ax nx cx, nx, ys.map fun x => .int .i64 x⟩ (by simp)).1 HYL.out (by omega)) (RdI.of_own (HA.out.rows ⟨rg W11.heap.size W12.heap.size, W11.heap.size, 3, 1, .slice Aw nx cw, nx, ys.map fun x => .int .i64 x⟩ (by simp)).1 HYL.out (by omega)))
          go_wp2_with fail
          refine HSI.out.mono ?_
          rintro e W13 ⟨rfl, hb13⟩
          replace HA := Lib.hid (HA.out.below hb13)
          have q13 := hb13.size
          clear HSI hb13
          go_wp2_with fail
          go_loopw [19] (fun v19 wr => ∃ k : Nat, k ≤ nx ∧ v19 = .int .i64 k ∧ W13.heap.size ≤ wr.heap.size ∧ Hid (Ap w [⟨rg W2.heap.size W3.heap.size, r3, cutI f o, lb3⟩, ⟨rg W3.heap.size W4.heap.size, r4, f, lb4⟩, ⟨rg W1.heap.size W2.heap.size, r2, f, lb2⟩, ⟨rg w.heap.size W1.heap.size, r1, f, lb1⟩] [⟨rg W10.heap.size W11.heap.size, W10.heap.size, 3, 1, .slice Ax nx cx, nx, (List.replicate k (-5 : Int) ++ ys.drop k).map fun x => .int .i64 x⟩, ⟨rg W11.heap.size W12.heap.size, W11.heap.size, 3, 1, .slice Aw nx cw, nx, ys.map fun x => .int .i64 x⟩, ⟨fun b => rg W4.heap.size W5.heap.size b ∨ rg W7.heap.size W10.heap.size b, W4.heap.size, 66, 3, .slice (some ⟨gm, 0, none⟩) (m + 2) cm, m + 2, cellsR (markA L m) ++ [.int .i64 (-2), .int .i64 0, .int .i64 0, .int .i64 (-3), .int .i64 0, .int .i64 0]⟩, ⟨rg W4.heap.size W5.heap.size, W4.heap.size, 66, 3, .slice Aa m ca, m, cellsR (markA L m)⟩, ⟨rg W6.heap.size W7.heap.size, W6.heap.size, 66, 3, .slice Ab m cb, m, cellsR L⟩, ⟨rg W5.heap.size W6.heap.size, W5.heap.size, 66, 3, .slice Ak m ck, m, cellsR L⟩] wr)) (fun v19 _ => nx - (intOf v19).toNat)
          case atStart => exact ⟨0, by omega, rfl, Nat.le_refl _, HA.out.sub (by simp) (by simp)⟩
          case round =>
            clear HA
            obtain ⟨k, hk, rfl, hwz3, HA⟩ := hrel
            by_cases hlt3 : k < nx
            · obtain ⟨gx, rfl⟩ := HGX.out (by omega)
              obtain ⟨⟨x0, c0⟩, f0, hre, hch⟩ := fill_step (HA.out.rows ⟨rg W10.heap.size W11.heap.size, W10.heap.size, 3, 1, .slice (some ⟨gx, 0, none⟩) nx cx, nx, (List.replicate k (-5 : Int) ++ ys.drop k).map fun x => .int .i64 x⟩ (by simp)) hlt3 HYL.out
              obtain ⟨X1, hX1⟩ : ∃ X, wr.setCell ⟨gx, k, none⟩ (.int .i64 (-5)) = X := ⟨_, rfl⟩
              rw [hX1] at hre hch
              have h1 := (HA.out.sub (T' := [⟨rg W2.heap.size W3.heap.size, r3, cutI f o, lb3⟩, ⟨rg W3.heap.size W4.heap.size, r4, f, lb4⟩, ⟨rg W1.heap.size W2.heap.size, r2, f, lb2⟩, ⟨rg w.heap.size W1.heap.size, r1, f, lb1⟩]) (R' := [⟨rg W11.heap.size W12.heap.size, W11.heap.size, 3, 1, .slice Aw nx cw, nx, ys.map fun x => .int .i64 x⟩, ⟨fun b => rg W4.heap.size W5.heap.size b ∨ rg W7.heap.size W10.heap.size b, W4.heap.size, 66, 3, .slice (some ⟨gm, 0, none⟩) (m + 2) cm, m + 2, cellsR (markA L m) ++ [.int .i64 (-2), .int .i64 0, .int .i64 0, .int .i64 (-3), .int .i64 0, .int .i64 0]⟩, ⟨rg W4.heap.size W5.heap.size, W4.heap.size, 66, 3, .slice Aa m ca, m, cellsR (markA L m)⟩, ⟨rg W6.heap.size W7.heap.size, W6.heap.size, 66, 3, .slice Ab m cb, m, cellsR L⟩, ⟨rg W5.heap.size W6.heap.size, W5.heap.size, 66, 3, .slice Ak m ck, m, cellsR L⟩]) (by simp) (by simp)).chg hch (by intro x hx b hb; simp only [List.mem_cons, List.not_mem_nil, or_false] at hx; rcases hx with rfl | rfl | rfl | rfl <;> (simp only [rg] at hb ⊢; omega)) (by intro x hx b hb; simp only [List.mem_cons, List.not_mem_nil, or_false] at hx; rcases hx with rfl | rfl | rfl | rfl | rfl <;> (simp only [rg] at hb ⊢; omega)) (fun b h => by omega)
              have HE := Lib.hid (h1.row _ hre)
              have hxz : wr.heap.size ≤ X1.heap.size := hch.size
              clear hre hch HA h1
              go_wp2_with fail
              go_roundw
              case rel => exact ⟨k + 1, by omega, by go_num, by omega, HE⟩
              case measure => simp [intOf]; omega
            · obtain rfl : nx = k := by omega
              obtain ⟨W14, rfl⟩ : ∃ W14 : World, W14 = wr := ⟨_, rfl⟩
              have h4 := (HA.out.trees ⟨rg W3.heap.size W4.heap.size, r4, f, lb4⟩ (by simp)).2
              have hxl : (List.replicate nx (-5 : Int) ++ ys.drop nx) = List.replicate nx (-5) := by rw [List.drop_of_length_le (by rw [HYL.out]; exact Nat.le_refl _), List.append_nil]
              rw [hxl] at HA
              go_wp2_with fail
              refine (cut_calls W14 r4 f lb4 (HA.out.trees ⟨rg W3.heap.size W4.heap.size, r4, f, lb4⟩ (by simp)).1 (o : Int) (by omega)).mono ?_
              rintro e W15 ⟨vy, rfl, ho15, ht15, hc15⟩
              rw [HXS.out, HNX.out, HYE.out] at ho15
              obtain ⟨Ay, cy, rfl, _, _, hcy, hcy2, hky⟩ := own_form3 ho15
              have h15 := (HA.out.sub (T' := [⟨rg W2.heap.size W3.heap.size, r3, cutI f o, lb3⟩, ⟨rg W1.heap.size W2.heap.size, r2, f, lb2⟩, ⟨rg w.heap.size W1.heap.size, r1, f, lb1⟩]) (R' := [⟨rg W10.heap.size W11.heap.size, W10.heap.size, 3, 1, .slice Ax nx cx, nx, (List.replicate nx (-5 : Int)).map fun x => .int .i64 x⟩, ⟨rg W11.heap.size W12.heap.size, W11.heap.size, 3, 1, .slice Aw nx cw, nx, ys.map fun x => .int .i64 x⟩, ⟨fun b => rg W4.heap.size W5.heap.size b ∨ rg W7.heap.size W10.heap.size b, W4.heap.size, 66, 3, .slice (some ⟨gm, 0, none⟩) (m + 2) cm, m + 2, cellsR (markA L m) ++ [.int .i64 (-2), .int .i64 0, .int .i64 0, .int .i64 (-3), .int .i64 0, .int .i64 0]⟩, ⟨rg W4.heap.size W5.heap.size, W4.heap.size, 66, 3, .slice Aa m ca, m, cellsR (markA L m)⟩, ⟨rg W6.heap.size W7.heap.size, W6.heap.size, 66, 3, .slice Ab m cb, m, cellsR L⟩, ⟨rg W5.heap.size W6.heap.size, W5.heap.size, 66, 3, .slice Ak m ck, m, cellsR L⟩]) (by simp) (by simp)).chg hc15 (by intro x hx b hb hd; have h9 := h4 b hd; simp only [List.mem_cons, List.not_mem_nil, or_false] at hx; rcases hx with rfl | rfl | rfl <;> (simp only [rg] at hb h9; omega)) (by intro x hx b hb hd; have h9 := h4 b hd; simp only [List.mem_cons, List.not_mem_nil, or_false] at hx; rcases hx with rfl | rfl | rfl | rfl | rfl | rfl <;> (simp only [rg] at hb h9; omega)) (fun b h => by have := h4 b h; simp only [rg] at this; omega)
              replace HA := Lib.hid ((h15.tree ⟨rg W3.heap.size W4.heap.size, r4, cutI f o, lb4⟩ ⟨ht15, h4⟩).row ⟨rg W14.heap.size W15.heap.size, W14.heap.size, 3, 1, .slice Ay nx cy, nx, ys.map fun x => .int .i64 x⟩ ⟨ho15, hky⟩)
              have q15 : W14.heap.size ≤ W15.heap.size := hc15.size
              clear ho15 ht15 hc15 hky h15 h4 HXS HNX HYE
              have HOX : Hid (W15.ownsRow W10.heap.size 3 1 (.slice Ax nx cx) nx ((List.replicate nx (-5 : Int)).map fun x => .int .i64 x)) := (HA.out.rows ⟨rg W10.heap.size W11.heap.size, W10.heap.size, 3, 1, .slice Ax nx cx, nx, (List.replicate nx (-5 : Int)).map fun x => .int .i64 x⟩ (by simp)).1
              have HEX : Hid (∀ k, (Value.slice Ax nx cx).ownBlock = some k → rg W10.heap.size W11.heap.size k) := (HA.out.rows ⟨rg W10.heap.size W11.heap.size, W10.heap.size, 3, 1, .slice Ax nx cx, nx, (List.replicate nx (-5 : Int)).map fun x => .int .i64 x⟩ (by simp)).2
              have hxl : ((List.replicate nx (-5 : Int)).map fun x => Value.int .i64 x).length = nx * 1 := by simp
              have HXL := Lib.hid hxl
              clear hxl
              go_wp2_with (at_builtin; refine wpList_append_keep _ rfl _ _ 32 rfl W10.heap.size 3 j0 (.int .i64 0) 1 8 Try.underlying32 gi gz0 gz1 gz2 rfl (by decide) (.slice Ax nx cx) nx ((List.replicate nx (-5 : Int)).map fun x => .int .i64 x) rfl (HOX.out.alloc _) ⟨W15.heap.size, 0, none⟩ 2 2 [.int .i64 (-6), .int .i64 (-7)] rfl rfl (World.news_of_block (cs := #[.int .i64 (-6), .int .i64 (-7)]) (t := 3) (fr := (0, 0)) (heap_alloc_new W15 _)) (by simp [Value.oneCell']) (by simp only [maxLen]; omega) (by omega) (by simp; omega) ?_; intro v16 W16 hown16 hgr16 hold16 hblk16; obtain ⟨Az, cz, rfl, _, hgz, hcz, hcz2, hkz⟩ := own_form3 hown16; obtain ⟨gz, rfl⟩ := hgz (by omega); have HN16 := Lib.hid (And.intro hown16 (And.intro hgr16 (And.intro hold16 (And.intro hblk16 hkz)))); clear hown16 hgr16 hold16 hblk16 hkz hgz)
              obtain ⟨hown16, hgr16, hold16, hblk16, hkz⟩ := HN16.out
              have hc16 : Chg (rg W10.heap.size W11.heap.size) W15 W16 := ((Chg.refl (rg W10.heap.size W11.heap.size) W15).alloc _).grown hgr16 (fun k e _ => HEX.out k e)
              have q16 : W15.heap.size ≤ W16.heap.size := hc16.size
              have h16 := (HA.out.sub (T' := [⟨rg W3.heap.size W4.heap.size, r4, cutI f o, lb4⟩, ⟨rg W2.heap.size W3.heap.size, r3, cutI f o, lb3⟩, ⟨rg W1.heap.size W2.heap.size, r2, f, lb2⟩, ⟨rg w.heap.size W1.heap.size, r1, f, lb1⟩]) (R' := [⟨rg W14.heap.size W15.heap.size, W14.heap.size, 3, 1, .slice Ay nx cy, nx, ys.map fun x => .int .i64 x⟩, ⟨rg W11.heap.size W12.heap.size, W11.heap.size, 3, 1, .slice Aw nx cw, nx, ys.map fun x => .int .i64 x⟩, ⟨fun b => rg W4.heap.size W5.heap.size b ∨ rg W7.heap.size W10.heap.size b, W4.heap.size, 66, 3, .slice (some ⟨gm, 0, none⟩) (m + 2) cm, m + 2, cellsR (markA L m) ++ [.int .i64 (-2), .int .i64 0, .int .i64 0, .int .i64 (-3), .int .i64 0, .int .i64 0]⟩, ⟨rg W4.heap.size W5.heap.size, W4.heap.size, 66, 3, .slice Aa m ca, m, cellsR (markA L m)⟩, ⟨rg W6.heap.size W7.heap.size, W6.heap.size, 66, 3, .slice Ab m cb, m, cellsR L⟩, ⟨rg W5.heap.size W6.heap.size, W5.heap.size, 66, 3, .slice Ak m ck, m, cellsR L⟩]) (by simp) (by simp)).chg hc16 (by intro x hx b hb; simp only [List.mem_cons, List.not_mem_nil, or_false] at hx; rcases hx with rfl | rfl | rfl | rfl <;> (simp only [rg] at hb ⊢; omega)) (by intro x hx b hb; simp only [List.mem_cons, List.not_mem_nil, or_false] at hx; rcases hx with rfl | rfl | rfl | rfl | rfl | rfl <;> (simp only [rg] at hb ⊢; omega)) (fun b h => by simp only [rg] at h; omega)
              replace HA := Lib.hid ((h16.row ⟨rg W10.heap.size W11.heap.size, W10.heap.size, 3, 1, .slice Ax nx cx, nx, (List.replicate nx (-5 : Int)).map fun x => .int .i64 x⟩ ⟨hold16, HEX.out⟩).row ⟨fun b => rg W10.heap.size W11.heap.size b ∨ rg W15.heap.size W16.heap.size b, W10.heap.size, 3, 1, .slice (some ⟨gz, 0, none⟩) (nx + 2) cz, nx + 2, ((List.replicate nx (-5 : Int)).map fun x => .int .i64 x) ++ [.int .i64 (-6), .int .i64 (-7)]⟩ ⟨hown16, fun k hk => by rcases hblk16 k hk with h | h; exact .inl (HEX.out k h); right; have h8 := hkz k hk; simp at h; exact ⟨by omega, h8.2⟩⟩)
              clear hown16 hgr16 hold16 hblk16 hkz hc16 h16 HN16 HOX HEX HXL
              have HSJ := Lib.hid (sameInts_yes ys Ay Aw nx cy cw W16 (RdI.of_own (HA.out.rows ⟨rg W14.heap.size W15.heap.size, W14.heap.size, 3, 1, .slice Ay nx cy, nx, ys.map fun x => .int .i64 x⟩ (by simp)).1 HYL.out (by omega)) (RdI.of_own (HA.out.rows ⟨rg W11.heap.size W12.heap.size, W11.heap.size, 3, 1, .slice Aw nx cw, nx, ys.map fun x => .int .i64 x⟩ (by simp)).1 HYL.out (by omega)))
              refine HSJ.out.mono ?_
              rintro e W17 ⟨rfl, hb17⟩
              replace HA := Lib.hid (HA.out.below hb17)
              have q17 := hb17.size
              clear HSJ hb17
              go_wp2_with fail
              go_loopw [22] (fun v22 wr => ∃ k : Nat, k ≤ nx ∧ v22 = .int .i64 k ∧ wr = W17) (fun v22 _ => nx - (intOf v22).toNat)
              case atStart => exact ⟨0, by omega, rfl, rfl⟩
              case round =>
                obtain ⟨k, hk, rfl, rfl⟩ := hrel
                by_cases hlt4 : k < nx
                · obtain ⟨gx, rfl⟩ := HGX.out (by omega)
                  have hxo : wr.ownsRow W10.heap.size 3 1 (.slice (some ⟨gx, 0, none⟩) nx cx) nx ((List.replicate nx (-5 : Int)).map fun x => .int .i64 x) := (HA.out.rows ⟨rg W10.heap.size W11.heap.size, W10.heap.size, 3, 1, .slice (some ⟨gx, 0, none⟩) nx cx, nx, (List.replicate nx (-5 : Int)).map fun x => .int .i64 x⟩ (by simp)).1
                  have c1 := (own_at hxo (j := k) (u := .int .i64 (-5)) (by simp [hlt4])).1
                  have hzo : wr.ownsRow W10.heap.size 3 1 (.slice (some ⟨gz, 0, none⟩) (nx + 2) cz) (nx + 2) (((List.replicate nx (-5 : Int)).map fun x => .int .i64 x) ++ [.int .i64 (-6), .int .i64 (-7)]) := (HA.out.rows ⟨fun b => rg W10.heap.size W11.heap.size b ∨ rg W15.heap.size W16.heap.size b, W10.heap.size, 3, 1, .slice (some ⟨gz, 0, none⟩) (nx + 2) cz, nx + 2, ((List.replicate nx (-5 : Int)).map fun x => .int .i64 x) ++ [.int .i64 (-6), .int .i64 (-7)]⟩ (by simp)).1
                  have c2 := (own_at hzo (j := k) (u := .int .i64 (-5)) (by rw [List.getElem?_append_left (by simpa using hlt4)]; simp [hlt4])).1
                  clear hxo hzo
                  go_wp2_with fail
                  go_roundw
                  case rel => exact ⟨k + 1, by omega, by go_num, trivial⟩
                  case measure => simp [intOf]; omega
                · obtain rfl : nx = k := by omega
                  obtain ⟨W17, rfl⟩ : ∃ W17 : World, W17 = wr := ⟨_, rfl⟩
                  go_wp2_with fail
                  go_loopw [23] (fun v23 wr => ∃ k : Nat, k ≤ m ∧ v23 = .int .i64 k ∧ W17.heap.size ≤ wr.heap.size ∧ Hid (Ap w [⟨rg W3.heap.size W4.heap.size, r4, cutI f o, lb4⟩, ⟨rg W2.heap.size W3.heap.size, r3, cutI f o, lb3⟩, ⟨rg W1.heap.size W2.heap.size, r2, f, lb2⟩, ⟨rg w.heap.size W1.heap.size, r1, f, lb1⟩] [⟨fun b => rg W10.heap.size W11.heap.size b ∨ rg W15.heap.size W16.heap.size b, W10.heap.size, 3, 1, .slice (some ⟨gz, 0, none⟩) (nx + 2) cz, nx + 2, ((List.replicate nx (-5 : Int)).map fun x => .int .i64 x) ++ [.int .i64 (-6), .int .i64 (-7)]⟩, ⟨rg W10.heap.size W11.heap.size, W10.heap.size, 3, 1, .slice Ax nx cx, nx, (List.replicate nx (-5 : Int)).map fun x => .int .i64 x⟩, ⟨rg W14.heap.size W15.heap.size, W14.heap.size, 3, 1, .slice Ay nx cy, nx, ys.map fun x => .int .i64 x⟩, ⟨rg W11.heap.size W12.heap.size, W11.heap.size, 3, 1, .slice Aw nx cw, nx, ys.map fun x => .int .i64 x⟩, ⟨fun b => rg W4.heap.size W5.heap.size b ∨ rg W7.heap.size W10.heap.size b, W4.heap.size, 66, 3, .slice (some ⟨gm, 0, none⟩) (m + 2) cm, m + 2, cellsR (markA L m) ++ [.int .i64 (-2), .int .i64 0, .int .i64 0, .int .i64 (-3), .int .i64 0, .int .i64 0]⟩, ⟨rg W4.heap.size W5.heap.size, W4.heap.size, 66, 3, .slice Aa m ca, m, cellsR (markA L m)⟩, ⟨rg W6.heap.size W7.heap.size, W6.heap.size, 66, 3, .slice Ab m cb, m, cellsR L⟩, ⟨rg W5.heap.size W6.heap.size, W5.heap.size, 66, 3, .slice Ak m ck, m, cellsR L⟩] wr)) (fun v23 _ => m - (intOf v23).toNat)
                  case atStart => exact ⟨0, by omega, rfl, Nat.le_refl _, HA⟩
                  case round =>
                    clear HA
                    obtain ⟨k, hk, rfl, hwz5, HA⟩ := hrel
                    by_cases hlt5 : k < m
                    · obtain ⟨ga, rfl⟩ := HGA.out (by omega)
                      obtain ⟨gb, rfl⟩ := HGB.out (by omega)
                      obtain ⟨gk, rfl⟩ := HGK.out (by omega)
                      have hmk : (markA L m)[k]? = some ((-1 : Int), (k : Int), (7 : Int)) := markA_get L hlt5
                      obtain ⟨⟨x0, x1, x2⟩, hx⟩ : ∃ x, L[k]? = some x := ⟨_, List.getElem?_eq_getElem (by have := HM.out; omega)⟩
                      have hao : wr.ownsRow W4.heap.size 66 3 (.slice (some ⟨ga, 0, none⟩) m ca) m (cellsR (markA L m)) := (HA.out.rows ⟨rg W4.heap.size W5.heap.size, W4.heap.size, 66, 3, .slice (some ⟨ga, 0, none⟩) m ca, m, cellsR (markA L m)⟩ (by simp)).1
                      have hmo : wr.ownsRow W4.heap.size 66 3 (.slice (some ⟨gm, 0, none⟩) (m + 2) cm) (m + 2) (cellsR (markA L m) ++ [.int .i64 (-2), .int .i64 0, .int .i64 0, .int .i64 (-3), .int .i64 0, .int .i64 0]) := (HA.out.rows ⟨fun b => rg W4.heap.size W5.heap.size b ∨ rg W7.heap.size W10.heap.size b, W4.heap.size, 66, 3, .slice (some ⟨gm, 0, none⟩) (m + 2) cm, m + 2, cellsR (markA L m) ++ [.int .i64 (-2), .int .i64 0, .int .i64 0, .int .i64 (-3), .int .i64 0, .int .i64 0]⟩ (by simp)).1
                      have hbo : wr.ownsRow W6.heap.size 66 3 (.slice (some ⟨gb, 0, none⟩) m cb) m (cellsR L) := (HA.out.rows ⟨rg W6.heap.size W7.heap.size, W6.heap.size, 66, 3, .slice (some ⟨gb, 0, none⟩) m cb, m, cellsR L⟩ (by simp)).1
                      have hko : wr.ownsRow W5.heap.size 66 3 (.slice (some ⟨gk, 0, none⟩) m ck) m (cellsR L) := (HA.out.rows ⟨rg W5.heap.size W6.heap.size, W5.heap.size, 66, 3, .slice (some ⟨gk, 0, none⟩) m ck, m, cellsR L⟩ (by simp)).1
                      have a0 : wr.cell? ⟨ga, k * 3, none⟩ = some (.int .i64 (-1)) := (own_at hao (cellsR_at _ k _ hmk 0 (by omega))).1
                      have m0 : wr.cell? ⟨gm, k * 3, none⟩ = some (.int .i64 (-1)) := (own_at hmo (app_left (cellsR_at _ k _ hmk 0 (by omega)))).1
                      have b0 : wr.cell? ⟨gb, k * 3, none⟩ = some (.int .i64 x0) := (own_at hbo (cellsR_at _ k _ hx 0 (by omega))).1
                      have k0 : wr.cell? ⟨gk, k * 3, none⟩ = some (.int .i64 x0) := (own_at hko (cellsR_at _ k _ hx 0 (by omega))).1
                      have a1 : wr.cell? ⟨ga, k * 3 + 1, none⟩ = some (.int .i64 ((k : Int))) := (own_at hao (cellsR_at _ k _ hmk 1 (by omega))).1
                      have m1 : wr.cell? ⟨gm, k * 3 + 1, none⟩ = some (.int .i64 ((k : Int))) := (own_at hmo (app_left (cellsR_at _ k _ hmk 1 (by omega)))).1
                      have b1 : wr.cell? ⟨gb, k * 3 + 1, none⟩ = some (.int .i64 x1) := (own_at hbo (cellsR_at _ k _ hx 1 (by omega))).1
                      have k1 : wr.cell? ⟨gk, k * 3 + 1, none⟩ = some (.int .i64 x1) := (own_at hko (cellsR_at _ k _ hx 1 (by omega))).1
                      have a2 : wr.cell? ⟨ga, k * 3 + 2, none⟩ = some (.int .i64 (7)) := (own_at hao (cellsR_at _ k _ hmk 2 (by omega))).1
                      have m2 : wr.cell? ⟨gm, k * 3 + 2, none⟩ = some (.int .i64 (7)) := (own_at hmo (app_left (cellsR_at _ k _ hmk 2 (by omega)))).1
                      have b2 : wr.cell? ⟨gb, k * 3 + 2, none⟩ = some (.int .i64 x2) := (own_at hbo (cellsR_at _ k _ hx 2 (by omega))).1
                      have k2 : wr.cell? ⟨gk, k * 3 + 2, none⟩ = some (.int .i64 x2) := (own_at hko (cellsR_at _ k _ hx 2 (by omega))).1
                      have HE : Hid (∀ nq, Ap w _ _ (wr.drewN nq)) := fun nq => HA.out.below (drewN_below wr nq)
                      have HWZ : Hid (∀ nq, W17.heap.size ≤ (wr.drewN nq).heap.size) := fun nq => hwz5
                      clear hmk hx hao hmo hbo hko HA
                      go_wp2_with fail
                      go_quiet (fail)
                      go_wp2_with fail
                      go_roundw
                      case rel => exact ⟨k + 1, by omega, by go_num, HWZ.out _, HE.out _⟩
                      case measure => simp [intOf]; omega
                    · obtain rfl : m = k := by omega
                      obtain ⟨W18, rfl⟩ : ∃ W18 : World, W18 = wr := ⟨_, rfl⟩
                      go_wp2_with fail
                      go_loopw [24] (fun v24 wr => ∃ k : Nat, k ≤ 512 ∧ v24 = .int .i64 k ∧ wr = W18) (fun v24 _ => 512 - (intOf v24).toNat)
                      case atStart => exact ⟨0, by omega, rfl, rfl⟩
                      case round =>
                        obtain ⟨k, hk, rfl, rfl⟩ := hrel
                        by_cases hlt6 : k < 512
                        · have HG1 := Lib.hid (get_any wr r1 f lb1 (HA.out.trees ⟨rg w.heap.size W1.heap.size, r1, f, lb1⟩ (by simp)).1 k hlt6)
                          have HG2 := Lib.hid (get_any wr r2 f lb2 (HA.out.trees ⟨rg W1.heap.size W2.heap.size, r2, f, lb2⟩ (by simp)).1 k hlt6)
                          have HG3 := Lib.hid (get_any wr r3 (cutI f o) lb3 (HA.out.trees ⟨rg W2.heap.size W3.heap.size, r3, cutI f o, lb3⟩ (by simp)).1 k hlt6)
                          by_cases hko : k < o
                          · have hcv : cutI f o k = f k := if_neg (by omega)
                            rw [hcv] at HG3
                            generalize f k = fk at *
                            clear hcv
                            go_wp2_with fail
                            refine HG1.out.mono ?_
                            rintro e X ⟨rfl, rfl⟩
                            go_wp2_with fail
                            refine HG2.out.mono ?_
                            rintro e X ⟨rfl, rfl⟩
                            go_wp2_with fail
                            refine HG3.out.mono ?_
                            rintro e X ⟨rfl, rfl⟩
                            go_wp2_with fail
                            refine HG1.out.mono ?_
                            rintro e X ⟨rfl, rfl⟩
                            go_wp2_with fail
                            go_roundw
                            case rel => exact ⟨k + 1, by omega, by go_num, trivial⟩
                            case measure => simp [intOf]; omega
                          · have hcv : cutI f o k = 0 := if_pos (by omega)
                            rw [hcv] at HG3
                            generalize f k = fk at *
                            clear hcv
                            go_wp2_with fail
                            refine HG1.out.mono ?_
                            rintro e X ⟨rfl, rfl⟩
                            go_wp2_with fail
                            refine HG2.out.mono ?_
                            rintro e X ⟨rfl, rfl⟩
                            go_wp2_with fail
                            refine HG3.out.mono ?_
                            rintro e X ⟨rfl, rfl⟩
                            go_wp2_with fail
                            go_roundw
                            case rel => exact ⟨k + 1, by omega, by go_num, trivial⟩
                            case measure => simp [intOf]; omega
                        · obtain rfl : 512 = k := by omega
                          obtain ⟨W18, rfl⟩ : ∃ W18 : World, W18 = wr := ⟨_, rfl⟩
                          have HL1 := Lib.hid (len_any W18 r3 (cutI f o) lb3 (HA.out.trees ⟨rg W2.heap.size W3.heap.size, r3, cutI f o, lb3⟩ (by simp)).1)
                          have HL2 := Lib.hid (len_any W18 r1 f lb1 (HA.out.trees ⟨rg w.heap.size W1.heap.size, r1, f, lb1⟩ (by simp)).1)
                          have hcn := HCC.out
                          have hcn2 := cntI_le f
                          generalize cntI (cutI f o) = n1 at *
                          generalize cntI f = n2 at *
                          go_wp2_with fail
                          refine HL1.out.mono ?_
                          rintro e X ⟨rfl, rfl⟩
                          go_wp2_with fail
                          refine HL2.out.mono ?_
                          rintro e X ⟨rfl, rfl⟩
                          have hcn3 : ((n1 : Int) + (nx : Int)) = (n2 : Int) := by omega
                          have hcn4 : ((n1 : Int) + (nx : Int) != (n2 : Int)) = false := by simp [hcn3]
                          have HCN := Lib.hid hcn3
                          clear hcn hcn3 HL1 HL2
                          go_wp2_with fail
                          refine (HRU.out W18 r1 lb1 (HA.out.trees ⟨rg w.heap.size W1.heap.size, r1, f, lb1⟩ (by simp)).1).mono ?_
                          rintro e W19 ⟨vr, rfl, ho19, hb19⟩
                          obtain ⟨Ar, cr, rfl, hnr, _, hcr, hcr2, _⟩ := own_form3 ho19
                          have HLE := Lib.hid (lentIn_any W19 Ar m cr L (RdR.of_own ho19 HM.out (by omega)) (fun e => (hnr e).2) hrl)
                          replace HA := Lib.hid (HA.out.below hb19)
                          have q19 := hb19.size
                          clear ho19 hnr hb19
                          go_wp2_with fail
                          refine HLE.out.mono ?_
                          rintro e W20 ⟨rfl, hb20⟩
                          replace HA := Lib.hid (HA.out.below hb20)
                          have q20 := hb20.size
                          clear HLE hb20
                          have ht20 := (HA.out.trees ⟨rg W2.heap.size W3.heap.size, r3, cutI f o, lb3⟩ (by simp))
                          have HT20 := Lib.hid ht20.1
                          have h3 := ht20.2
                          replace HA := Lib.hid (HA.out.sub (T' := []) (R' := [⟨rg W10.heap.size W11.heap.size, W10.heap.size, 3, 1, .slice Ax nx cx, nx, (List.replicate nx (-5 : Int)).map fun x => .int .i64 x⟩]) (by simp) (by simp))
                          have hq20 : W11.heap.size ≤ W20.heap.size := by omega
                          clear ht20
                          go_wp2_with fail
                          refine (set_int W20 r3 (cutI f o) lb3 HT20.out 511 (by omega) (by omega) 81).mono ?_
                          rintro e W21 ⟨rfl, lb5, ht21, hx21, hc21⟩
                          have HT21 := Lib.hid ht21
                          replace HA := Lib.hid (HA.out.chg hc21 (by simp) (by intro x hx b hb hd; have h9 := h3 b hd; simp only [List.mem_singleton] at hx; subst hx; simp only [rg] at hb h9; omega) (fun b h => by have := h3 b h; simp only [rg] at this; omega))
                          have h5 : ∀ b, lb5 b ≠ 0 → rg W2.heap.size W3.heap.size b ∨ W20.heap.size ≤ b := fun b h => (hx21.1 b h).imp (h3 b) id
                          have q21 : W20.heap.size ≤ W21.heap.size := hc21.size
                          clear ht21 hx21 hc21 HT20
                          go_wp2_with fail
                          refine (set_int W21 r3 _ lb5 HT21.out 510 (by omega) (by omega) 82).mono ?_
                          rintro e W22 ⟨rfl, lb6, ht22, hx22, hc22⟩
                          have HT22 := Lib.hid ht22
                          replace HA := Lib.hid (HA.out.chg hc22 (by simp) (by intro x hx b hb hd; have h9 := h5 b hd; simp only [List.mem_singleton] at hx; subst hx; simp only [rg] at hb h9; omega) (fun b h => by have := h5 b h; simp only [rg] at this; omega))
                          have h6 : ∀ b, lb6 b ≠ 0 → rg W2.heap.size W3.heap.size b ∨ W20.heap.size ≤ b := fun b h => (hx22.1 b h).elim (h5 b) (fun h => .inr (by omega))
                          clear ht22 hx22 hc22 HT21
                          go_wp2_with fail
                          refine (cut_calls W22 r3 _ lb6 HT22.out 510 (by omega)).mono ?_
                          rintro e W23 ⟨vq, rfl, ho23, _, hc23⟩
                          rw [show (510 : Int).toNat = 510 from rfl, show (511 : Int).toNat = 511 from rfl, last_two] at ho23
                          replace HA := Lib.hid (HA.out.chg hc23 (by simp) (by intro x hx b hb hd; have h9 := h6 b hd; simp only [List.mem_singleton] at hx; subst hx; simp only [rg] at hb h9; omega) (fun b h => by have := h6 b h; simp only [rg] at this; omega))
                          have ho23' : W23.ownsRow W22.heap.size 3 1 vq 2 (([82, 81] : List Int).map fun x => .int .i64 x) := ho23
                          obtain ⟨Aq, cq, rfl, _, _, hcq, hcq2, _⟩ := own_form3 ho23'
                          have HI1 := Lib.hid (RdI.of_own (l := [82, 81]) ho23' rfl (by omega))
                          clear ho23 ho23' hc23 HT22 h3 h5 h6
                          obtain ⟨W24, hW24⟩ : ∃ X, W23.alloc (.cells #[.int .i64 82, .int .i64 81] 3) = X := ⟨_, rfl⟩
                          have hb24 : Below W23.heap.size W23 W24 := by rw [← hW24]; exact (Below.refl _ _).alloc (Nat.le_refl _) _
                          have hI2 : RdI W24 (some ⟨W23.heap.size, 0, none⟩) 2 2 [82, 81] := by rw [← hW24]; exact lit_two W23 82 81 3
                          have HSQ := Lib.hid (sameInts_yes [82, 81] Aq (some ⟨W23.heap.size, 0, none⟩) 2 cq 2 W24 (HI1.out.below hb24) hI2)
                          replace HA := Lib.hid (HA.out.below hb24)
                          clear hb24 hI2 HI1
                          go_wp2_with fail
                          refine HSQ.out.mono ?_
                          rintro e W25 ⟨rfl, hb25⟩
                          replace HA := Lib.hid (HA.out.below hb25)
                          clear hb25 HSQ hW24
                          go_wp2_with fail
                          go_loopw [26] (fun v26 wr => ∃ k : Nat, k ≤ nx ∧ v26 = .int .i64 k ∧ wr = W25) (fun v26 _ => nx - (intOf v26).toNat)
                          case atStart => exact ⟨0, by omega, rfl, rfl⟩
                          case round =>
                            obtain ⟨k, hk, rfl, rfl⟩ := hrel
                            by_cases hlt7 : k < nx
                            · obtain ⟨gx, rfl⟩ := HGX.out (by omega)
                              have hxo : wr.ownsRow W10.heap.size 3 1 (.slice (some ⟨gx, 0, none⟩) nx cx) nx ((List.replicate nx (-5 : Int)).map fun x => .int .i64 x) := (HA.out.rows ⟨rg W10.heap.size W11.heap.size, W10.heap.size, 3, 1, .slice (some ⟨gx, 0, none⟩) nx cx, nx, (List.replicate nx (-5 : Int)).map fun x => .int .i64 x⟩ (by simp)).1
                              have c1 := (own_at hxo (j := k) (u := .int .i64 (-5)) (by simp [hlt7])).1
                              clear hxo
                              go_wp2_with fail
                              go_roundw
                              case rel => exact ⟨k + 1, by omega, by go_num, trivial⟩
                              case measure => simp [intOf]; omega
                            · go_wp2_with fail
                              go_ret
                              exact ⟨rfl, HA.out.bel⟩

theorem RadixApart.walk (W : World) (v0 : Value) (o0 : Puts W v0) (O : Int) (_wO : (Lit.int .i64 O).wf = true) : Calls Try.prog 16 #[v0, .int .i64 O] W fun e w' => e = .returned (.bool true) ∧ Below W.heap.size W w' := by
  obtain ⟨A, n, c, l, rfl, hr⟩ := o0
  exact radixApart_any W A n c l hr O

end Go.Proofs.Ytfljnfmocmhhdaa
