/-
The document's Parse: what it answers of any text is what the program's answers.
-/
import Derived.Test.YtpombeiabgbpiaaDoorWCuts
import Derived.Test.YtpombeiabgbpiaaDoorWKit
namespace Go.Proofs.YtpombeiabgbpiaaDoor
open Go.RowKit

theorem own_low {W : World} {B B' n s : Nat} {e : TypeId} {v : Value} {xs : List Value} (h : W.ownsRow B e s v n xs) (hB : B' ≤ B) : W.ownsRow B' e s v n xs :=
  ⟨h.1, h.2.imp id (fun ⟨g, cap, cur, e, hb, r⟩ => ⟨g, cap, cur, e, Nat.le_trans hB hb, r⟩)⟩
/-- a path in a variable, whose parts are the call's own, behind an append that is stored there -/
theorem app_box2 {wa w' : World} {b B k : Nat} {va v' : Value} {l : List ByteArray} {s : ByteArray} {sl : Bool} {o : Obj} (hb : wa.heap[b]? = some (.cells #[va, .bool sl] 25 (0, 0))) (hne : ∀ g, va.ownBlock = some g → g ≠ b)
    (hown : w'.ownsRow B 9 1 v' (k + 1) (l.map vS ++ [.string s])) (hg : (wa.alloc o).grownBy w' va.ownBlock) (hloc : v'.ownBlock = va.ownBlock ∨ v'.ownBlock = some (wa.alloc o).heap.size) :
    w'.heap[b]? = some (.cells #[va, .bool sl] 25 (0, 0)) ∧ (w'.setCell ⟨b, 0, none⟩ v').heap[b]? = some (.cells #[v', .bool sl] 25 (0, 0)) ∧ (w'.setCell ⟨b, 0, none⟩ v').ownsRow B 9 1 v' (k + 1) ((l ++ [s]).map vS) ∧
      (∀ g, v'.ownBlock = some g → g ≠ b) ∧ Chg (fun x => x = b ∨ va.ownBlock = some x) wa (w'.setCell ⟨b, 0, none⟩ v') := by
  have hlt := heap_lt hb
  have hch : Chg (fun x => va.ownBlock = some x) wa w' := ((Chg.refl (fun x => va.ownBlock = some x) wa).alloc o).grown hg (fun k e _ => e)
  have hb' : w'.heap[b]? = some (.cells #[va, .bool sl] 25 (0, 0)) := hch.heap hb (fun e => hne b e rfl)
  have hnb : ∀ g, v'.ownBlock = some g → g ≠ b := fun g e => by
    rcases hloc with h | h
    · exact hne g (h ▸ e)
    · rw [h] at e
      have := Option.some.inj e
      simp at this
      omega
  refine ⟨hb', heap_setCell_same _ _ 0 _ _ v' hb', ?_, hnb, (hch.mono (fun _ _ e => .inr e)).setCell (p := ⟨b, 0, none⟩) (fun _ => .inl rfl) _⟩
  rw [List.map_append]
  exact own_chg hown ((Chg.refl (fun x => x = b) w').setCell (p := ⟨b, 0, none⟩) (fun _ => rfl) _) (fun g e h => hnb g e h)
theorem refp_res {tmps : Array Value} {X : World} {b2 : Nat} {v : Value} {b : Bool} {e : Int} (h2 : tmps[2]?.getD undef = .pointer (some ⟨b2, 0, none⟩)) (h3 : tmps[3]?.getD undef = .int .i64 e) (k2 : X.heap[b2]? = some (.cells #[v, .bool b] 25 (0, 0))) :
    (results Tryd.f45 tmps).run Tryd.prog X = .ok (.tuple #[.agg #[v, .bool b], .int .i64 e]) X := by
  have c0 : X.cell? ⟨b2, 0, none⟩ = some v := by rw [cell_of_row _ _ _ _ _ _ k2]; rfl
  have c1 : X.cell? ⟨b2, 1, none⟩ = some (.bool b) := by rw [cell_of_row _ _ _ _ _ _ k2]; rfl
  simp [results, Tryd.results45, go_sem, h2, h3, c0, c1]

theorem refp_fin {w wr : World} {t : ByteArray} {l : List ByteArray} {v : Value} {b : Bool} {tmps : Array Value} (h2 : tmps[2]?.getD undef = .pointer (some ⟨w.heap.size, 0, none⟩)) (h3 : tmps[3]?.getD undef = .int .i64 0)
    (hb2 : wr.heap[w.heap.size]? = some (.cells #[.slice none 0 0, .bool false] 25 (0, 0))) (hrow : wr.ownsRow (w.heap.size + 1 + 1) 9 1 v l.length (l.map vS)) (hbel : Below w.heap.size w wr) (hR : errOf t = 0) (hP : partsOf t = l) (hs : slashOf t = b) :
    bodyPost Tryd.prog Tryd.f45 (PaPost w t) Exit.ret { tmps := tmps, defers := [] } (((wr.setCell ⟨w.heap.size + 1, 1, none⟩ (.bool b)).setCell ⟨w.heap.size, 0, none⟩ v).setCell ⟨w.heap.size, 1, none⟩ (.bool b)) := by
  have hc1 : Chg (fun x => x = w.heap.size + 1) wr (wr.setCell ⟨w.heap.size + 1, 1, none⟩ (.bool b)) := (Chg.refl (fun x => x = w.heap.size + 1) wr).setCell (p := ⟨w.heap.size + 1, 1, none⟩) (fun _ => rfl) _
  have hx2 := hc1.heap hb2 (by omega)
  have hc : Chg (fun x => x = w.heap.size + 1 ∨ x = w.heap.size) wr (((wr.setCell ⟨w.heap.size + 1, 1, none⟩ (.bool b)).setCell ⟨w.heap.size, 0, none⟩ v).setCell ⟨w.heap.size, 1, none⟩ (.bool b)) :=
    ((hc1.mono (fun _ _ e => .inl e)).setCell (p := ⟨w.heap.size, 0, none⟩) (fun _ => .inr rfl) _).setCell (p := ⟨w.heap.size, 1, none⟩) (fun _ => .inr rfl) _
  refine bodyPost_ret (refp_res h2 h3 (set_path _ _ _ _ _ _ _ hx2)) rfl (PaPost.good hR (by rw [← hs]; rfl) ?_ ?_)
  · rw [hP]
    exact own_low (own_chg hrow hc (fun g e h => by have := (hrow.lt g e).1; rcases h with h | h <;> omega)) (by omega)
  · exact ((hbel.setCell (p := ⟨w.heap.size + 1, 1, none⟩) (by show w.heap.size ≤ w.heap.size + 1; omega) _).setCell (p := ⟨w.heap.size, 0, none⟩) (Nat.le_refl _) _).setCell (p := ⟨w.heap.size, 1, none⟩) (Nat.le_refl _) _

/-- behind i bytes -/
structure RpI (w : World) (t : ByteArray) (i : Nat) (part : ByteArray) (W : World) : Prop where
  nul : 0 ∉ (bys t).take i
  b2 : W.heap[w.heap.size]? = some (.cells #[.slice none 0 0, .bool false] 25 (0, 0))
  row : ∃ (v : Value) (l : List ByteArray), W.heap[w.heap.size + 1]? = some (.cells #[v, .bool false] 25 (0, 0)) ∧ W.ownsRow (w.heap.size + 1 + 1) 9 1 v l.length (l.map vS) ∧ l.map bys ++ pt (bys part) ((bys t).drop i) = pt [] (bys t) ∧ l.length ≤ i
  bel : Below w.heap.size w W
theorem bys_app (a b : ByteArray) : bys (a ++ b) = bys a ++ bys b := by simp [bys]

set_option maxRecDepth 100000 in
set_option maxHeartbeats 8000000 in
theorem refParse_any (w : World) (t : ByteArray) : Calls Tryd.prog 45 #[.string t] w (PaPost w t) := by
  obtain ⟨i0, hi, hz0, hz1, hz2⟩ := info_parts info9
  have hb1 : Below w.heap.size w (w.alloc (.cells #[.slice none 0 0, .bool false] 25)) := (Below.refl _ _).alloc (Nat.le_refl _) _
  have hx1 : (w.alloc (.cells #[.slice none 0 0, .bool false] 25)).heap[w.heap.size]? = some (.cells #[.slice none 0 0, .bool false] 25 (0, 0)) := heap_alloc_new w _
  have HX1 := Lib.hid (And.intro hb1 hx1)
  have d0 := cell_of_row _ _ 0 _ _ _ hx1
  have d1 := cell_of_row _ _ 1 _ _ _ hx1
  have f0 := frozen_of_row _ _ 0 _ _ hx1
  have f1 := frozen_of_row _ _ 1 _ _ hx1
  simp only [List.getElem?_toArray, List.getElem?_cons_zero, List.getElem?_cons_succ] at d0 d1
  clear hb1 hx1
  obtain ⟨R, hR⟩ : ∃ R, errOf t = R := ⟨_, rfl⟩
  have HR := Lib.hid hR
  have hRd := hR
  unfold errOf at hRd
  have HRD := Lib.hid hRd
  clear hR hRd
  go_enter Tryd.func45, Tryd.ntmps45
  by_cases h200 : 200 < t.size
  · obtain rfl : R = 140 := by rw [← HRD.out, if_pos h200]
    go_wp2_with fail
    exact bodyPost_ret (refp_res rfl rfl HX1.out.2) rfl (PaPost.bad HR.out (by decide) HX1.out.1)
  · by_cases h0 : t.size = 0
    · obtain rfl : t = ByteArray.empty := ByteArray.ext (Array.eq_empty_of_size_eq_zero h0)
      obtain rfl : R = 141 := by rw [← HRD.out]; rfl
      go_wp2_with fail
      exact bodyPost_ret (refp_res rfl rfl HX1.out.2) rfl (PaPost.bad HR.out (by decide) HX1.out.1)
    · have hz : 0 < t.size := by omega
      have hte : (t.toList == []) = false := by
        rw [beq_eq_false_iff_ne, toList_bys]
        exact fun e => h0 (bys_nil.1 e)
      by_cases h47 : t[0] = 47
      · have hb0 : ((t[0].toNat : Int) != 47) = false := by rw [h47]; rfl
        have HE : Hid ((if 0 ∈ bys t then (141 : Int) else if ∃ x ∈ frs t.size t, 28 < x.size then 142 else 0) = R) := by
          have := HRD.out
          rw [if_neg h200, if_neg (by rw [bys_head t hz, h47]; simp)] at this
          exact Lib.hid this
        clear HRD
        have HS0 : Hid (RpI w t 0 ByteArray.empty ((w.alloc (.cells #[.slice none 0 0, .bool false] 25)).alloc (.cells #[.slice none 0 0, .bool false] 25))) := by
          refine Lib.hid ⟨by simp, (Below.heap_alloc _ _ _ (by simp)).trans HX1.out.2, ⟨.slice none 0 0, [], ?_, World.ownsRow_nil _ _ _ _, rfl, by simp⟩, HX1.out.1.alloc (by simp) _⟩
          simpa using heap_alloc_new (w.alloc (.cells #[.slice none 0 0, .bool false] 25)) (.cells #[.slice none 0 0, .bool false] 25)
        go_wp2_with fail
        clear d0 d1 f0 f1 HX1 hte
        go_loopw [5, 6] (fun v5 v6 wr => ∃ (i : Nat) (part : ByteArray), i ≤ t.size + 1 ∧ part.size ≤ i ∧ (i = t.size + 1 → part.size = 0) ∧ v6 = .int .i64 i ∧ v5 = .string part ∧ Hid (RpI w t i part wr)) (fun _ v6 _ => t.size + 1 - (intOf v6).toNat)
        case atStart => exact ⟨0, ByteArray.empty, by omega, by simp, fun _ => rfl, rfl, rfl, HS0⟩
        case round =>
          clear HS0
          obtain ⟨i, part, hi2, hps, hpn, rfl, rfl, HI⟩ := hrel
          obtain ⟨v, l, hbx, hrow, hpt, hll⟩ := HI.out.row
          by_cases hit : i ≤ t.size
          · by_cases hil : i < t.size
            · rcases byte_cases t[i] with hx | hx | ⟨hx1, hx2, hx3, hx4⟩
              · have hb1 : ((t[i].toNat : Int) == 0) = false := by rw [hx]; rfl
                have hb2 : ((t[i].toNat : Int) != 47) = false := by rw [hx]; rfl
                have HNUL : Hid (0 ∉ (bys t).take (i + 1)) := by
                  refine Lib.hid ?_
                  rw [List.take_add_one]
                  intro hm
                  rcases List.mem_append.1 hm with h | h
                  · exact HI.out.nul h
                  · have : (bys t)[i]? = some t[i] := List.getElem?_eq_getElem (by rw [bys_length]; exact hil)
                    rw [this, hx] at h
                    simp at h
                by_cases hp0 : part.size = 0
                · obtain rfl : part = ByteArray.empty := ByteArray.ext (Array.eq_empty_of_size_eq_zero hp0)
                  have HJ : Hid (RpI w t (i + 1) ByteArray.empty wr) := by
                    refine Lib.hid ⟨HNUL.out, HI.out.b2, ⟨v, l, hbx, hrow, ?_, by omega⟩, HI.out.bel⟩
                    rw [bys_drop t i hil, hx, show bys ByteArray.empty = [] from rfl, pt_slash, if_pos rfl] at hpt
                    exact hpt
                  clear hpt hrow hbx
                  go_wp2_with fail
                  go_roundw
                  case rel => exact ⟨i + 1, ByteArray.empty, by omega, by simp, fun _ => rfl, by go_num, rfl, HJ⟩
                  case measure => simp [intOf]; omega
                · have hpi : part.toList.isEmpty = false := by rw [isE_size]; simp [hp0]
                  have hpe : (part.toList != []) = true := by
                    rw [bne_iff_ne, toList_bys]
                    exact fun e => hp0 (bys_nil.1 e)
                  have hpb : bys part ≠ [] := fun e => hp0 (bys_nil.1 e)
                  obtain ⟨A4, c4, rfl⟩ := own_form hrow
                  have hlt := heap_lt hbx
                  have d0 := cell_of_row _ _ 0 _ _ _ hbx
                  have f0 := frozen_of_row _ _ 0 _ _ hbx
                  simp only [List.getElem?_toArray, List.getElem?_cons_zero] at d0
                  have HBX := Lib.hid hbx
                  have HROW := Lib.hid hrow
                  have HPT : Hid ((l ++ [part]).map bys ++ pt [] ((bys t).drop (i + 1)) = pt [] (bys t)) := by
                    refine Lib.hid ?_
                    rw [List.map_append, List.append_assoc]
                    rw [bys_drop t i hil, hx, pt_slash, if_neg hpb] at hpt
                    exact hpt
                  have hsz1 := HI.out.bel.size
                  clear hpt hrow hbx
                  go_wp2_with (at_builtin; refine wpList_append_own_at _ rfl _ _ 23 rfl (w.heap.size + 1 + 1) 9 i0 (.string ByteArray.empty) 1 16 Tryd.underlying23 hi hz0 hz1 hz2 rfl (by decide) _ l.length _ rfl (HROW.out.alloc _) ⟨wr.heap.size, 0, none⟩ 1 1 [.string part] rfl rfl (World.news_of_block (cs := #[.string part]) (t := 9) (fr := (0, 0)) (heap_alloc_new wr _)) (by simp [Value.oneCell']) (by rw [maxLen_eq]; omega) (by omega) (by simp; omega) ?_; intro v7 w7 hown7 hg7 _ hloc7; obtain ⟨A7, c7, rfl⟩ := own_form hown7; obtain ⟨hbx7, hbx8, hown8, hne8, hch8⟩ := app_box2 HBX.out (fun g e => by have := (HROW.out.lt g e).1; omega) hown7 hg7 hloc7; have d0 := cell_of_row _ _ 0 _ _ _ hbx7; have f0 := frozen_of_row _ _ 0 _ _ hbx7; simp only [List.getElem?_toArray, List.getElem?_cons_zero] at d0; have H8 := Lib.hid (And.intro hbx8 (And.intro hown8 hch8)); clear hown7 hg7 hloc7 hbx7 hbx8 hown8 hne8 hch8)
                  obtain ⟨hbx8, hown8, hch8⟩ := H8.out
                  have hch : Below w.heap.size wr (w7.setCell ⟨w.heap.size + 1, 0, none⟩ (.slice A7 (l.length + 1) c7)) := hch8.below _ hsz1 (fun b hb h => by
                    rcases h with rfl | h
                    · omega
                    · have := (HROW.out.lt b h).1; omega)
                  have HJ : Hid (RpI w t (i + 1) ByteArray.empty (w7.setCell ⟨w.heap.size + 1, 0, none⟩ (.slice A7 (l.length + 1) c7))) := by
                    refine Lib.hid ⟨HNUL.out, hch8.heap HI.out.b2 (fun h => ?_), ⟨_, l ++ [part], hbx8, ?_, HPT.out, by simp; omega⟩, HI.out.bel.trans hch⟩
                    · rcases h with h | h
                      · omega
                      · have := (HROW.out.lt _ h).1; omega
                    · rw [List.length_append]; exact hown8
                  clear hbx8 hown8 hch8 hch d0 f0
                  go_roundw
                  case rel => exact ⟨i + 1, ByteArray.empty, by omega, by simp, fun _ => rfl, by go_num, rfl, HJ⟩
                  case measure => simp [intOf]; omega
              · have hb1 : ((t[i].toNat : Int) == 0) = true := by rw [hx]; rfl
                obtain rfl : R = 141 := by rw [← HE.out, if_pos (by rw [← hx]; exact byte_mem t hil)]
                have d0 := cell_of_row _ _ 0 _ _ _ HI.out.b2
                have d1 := cell_of_row _ _ 1 _ _ _ HI.out.b2
                have f0 := frozen_of_row _ _ 0 _ _ HI.out.b2
                have f1 := frozen_of_row _ _ 1 _ _ HI.out.b2
                simp only [List.getElem?_toArray, List.getElem?_cons_zero, List.getElem?_cons_succ] at d0 d1
                go_wp2_with fail
                exact bodyPost_ret (refp_res rfl rfl (set_path _ _ _ _ _ _ _ HI.out.b2)) rfl (PaPost.bad HR.out (by decide) ((HI.out.bel.setCell (p := ⟨w.heap.size, 0, none⟩) (Nat.le_refl _) _).setCell (p := ⟨w.heap.size, 1, none⟩) (Nat.le_refl _) _))
              · have hb1 : ((t[i].toNat : Int) == 0) = false := hx2
                have hb2 : ((t[i].toNat : Int) != 47) = true := by simp only [bne, hx1]; rfl
                have hsl : (Instr.slice 9 (.string t) (some (.int .i64 (i : Int))) (some (.int .i64 ((i : Int) + 1))) none).run Tryd.prog wr = .ok (.string (t.extract i (i + 1))) wr := by
                  rw [run_slice_string (P := Tryd.prog) wr 9 t .i64 .i64 (i : Int) ((i : Int) + 1) Tryd.underlying9 (by omega) (by omega) (by omega), show ((i : Int) + 1).toNat = i + 1 by omega, show ((i : Int)).toNat = i by omega]
                have hxb : bys (t.extract i (i + 1)) = [t[i]] := by
                  rw [bys_extract, List.drop_take, Nat.add_sub_cancel_left, bys_drop t i hil]; rfl
                have HJ : Hid (RpI w t (i + 1) (part ++ t.extract i (i + 1)) wr) := by
                  refine Lib.hid ⟨?_, HI.out.b2, ⟨v, l, hbx, hrow, ?_, by omega⟩, HI.out.bel⟩
                  · rw [List.take_add_one]
                    intro hm
                    rcases List.mem_append.1 hm with h | h
                    · exact HI.out.nul h
                    · have : (bys t)[i]? = some t[i] := List.getElem?_eq_getElem (by rw [bys_length]; exact hil)
                      rw [this] at h
                      simp at h
                      exact hx4 h.symm
                  · rw [bys_app, hxb, ← pt_byte _ hx3, ← bys_drop t i hil]; exact hpt
                have hes : (t.extract i (i + 1)).size = 1 := by rw [← bys_length, hxb]; rfl
                have HSL := Lib.hid hsl
                clear hpt hrow hbx hxb hx1 hx2 hx3 hx4 hsl
                go_wp2_with fail
                rw [HSL.out]
                go_wp2_with fail
                go_roundw
                case rel => exact ⟨i + 1, part ++ t.extract i (i + 1), by omega, by rw [← bys_length, bys_app, List.length_append, bys_length, bys_length, hes]; omega, fun h => by omega, by go_num, rfl, HJ⟩
                case measure => simp [intOf]; omega
            · obtain rfl : i = t.size := by omega
              have HNUL : Hid (0 ∉ (bys t).take (t.size + 1)) := by
                refine Lib.hid ?_
                have := HI.out.nul
                rw [List.take_of_length_le (by rw [bys_length]; exact Nat.le_refl _)] at this
                rwa [List.take_of_length_le (by rw [bys_length]; omega)]
              by_cases hp0 : part.size = 0
              · obtain rfl : part = ByteArray.empty := ByteArray.ext (Array.eq_empty_of_size_eq_zero hp0)
                have HJ : Hid (RpI w t (t.size + 1) ByteArray.empty wr) := by
                  refine Lib.hid ⟨HNUL.out, HI.out.b2, ⟨v, l, hbx, hrow, ?_, by omega⟩, HI.out.bel⟩
                  rw [show (bys t).drop t.size = [] from List.drop_eq_nil_of_le (by rw [bys_length]; exact Nat.le_refl _), show bys ByteArray.empty = [] from rfl, pt_nil, if_pos rfl] at hpt
                  rw [List.drop_eq_nil_of_le (by rw [bys_length]; omega), pt_nil]
                  exact hpt
                clear hpt hrow hbx
                go_wp2_with fail
                go_roundw
                case rel => exact ⟨t.size + 1, ByteArray.empty, by omega, by simp, fun _ => rfl, by go_num, rfl, HJ⟩
                case measure => simp [intOf]
              · have hpi : part.toList.isEmpty = false := by rw [isE_size]; simp [hp0]
                have hpe : (part.toList != []) = true := by
                  rw [bne_iff_ne, toList_bys]
                  exact fun e => hp0 (bys_nil.1 e)
                have hpb : bys part ≠ [] := fun e => hp0 (bys_nil.1 e)
                obtain ⟨A4, c4, rfl⟩ := own_form hrow
                have hlt := heap_lt hbx
                have d0 := cell_of_row _ _ 0 _ _ _ hbx
                have f0 := frozen_of_row _ _ 0 _ _ hbx
                simp only [List.getElem?_toArray, List.getElem?_cons_zero] at d0
                have HBX := Lib.hid hbx
                have HROW := Lib.hid hrow
                have HPT : Hid ((l ++ [part]).map bys ++ pt [] ((bys t).drop (t.size + 1)) = pt [] (bys t)) := by
                  refine Lib.hid ?_
                  rw [List.map_append, List.append_assoc]
                  rw [show (bys t).drop t.size = [] from List.drop_eq_nil_of_le (by rw [bys_length]; exact Nat.le_refl _), pt_nil, if_neg hpb] at hpt
                  rw [show (bys t).drop (t.size + 1) = [] from List.drop_eq_nil_of_le (by rw [bys_length]; omega), pt_nil, if_pos rfl, List.append_nil]
                  exact hpt
                have hsz1 := HI.out.bel.size
                clear hpt hrow hbx
                go_wp2_with (at_builtin; refine wpList_append_own_at _ rfl _ _ 23 rfl (w.heap.size + 1 + 1) 9 i0 (.string ByteArray.empty) 1 16 Tryd.underlying23 hi hz0 hz1 hz2 rfl (by decide) _ l.length _ rfl (HROW.out.alloc _) ⟨wr.heap.size, 0, none⟩ 1 1 [.string part] rfl rfl (World.news_of_block (cs := #[.string part]) (t := 9) (fr := (0, 0)) (heap_alloc_new wr _)) (by simp [Value.oneCell']) (by rw [maxLen_eq]; omega) (by omega) (by simp; omega) ?_; intro v7 w7 hown7 hg7 _ hloc7; obtain ⟨A7, c7, rfl⟩ := own_form hown7; obtain ⟨hbx7, hbx8, hown8, hne8, hch8⟩ := app_box2 HBX.out (fun g e => by have := (HROW.out.lt g e).1; omega) hown7 hg7 hloc7; have d0 := cell_of_row _ _ 0 _ _ _ hbx7; have f0 := frozen_of_row _ _ 0 _ _ hbx7; simp only [List.getElem?_toArray, List.getElem?_cons_zero] at d0; have H8 := Lib.hid (And.intro hbx8 (And.intro hown8 hch8)); clear hown7 hg7 hloc7 hbx7 hbx8 hown8 hne8 hch8)
                obtain ⟨hbx8, hown8, hch8⟩ := H8.out
                have hch : Below w.heap.size wr (w7.setCell ⟨w.heap.size + 1, 0, none⟩ (.slice A7 (l.length + 1) c7)) := hch8.below _ hsz1 (fun b hb h => by
                  rcases h with rfl | h
                  · omega
                  · have := (HROW.out.lt b h).1; omega)
                have HJ : Hid (RpI w t (t.size + 1) ByteArray.empty (w7.setCell ⟨w.heap.size + 1, 0, none⟩ (.slice A7 (l.length + 1) c7))) := by
                  refine Lib.hid ⟨HNUL.out, hch8.heap HI.out.b2 (fun h => ?_), ⟨_, l ++ [part], hbx8, ?_, HPT.out, by simp; omega⟩, HI.out.bel.trans hch⟩
                  · rcases h with h | h
                    · omega
                    · have := (HROW.out.lt _ h).1; omega
                  · rw [List.length_append]; exact hown8
                clear hbx8 hown8 hch8 hch d0 f0
                go_roundw
                case rel => exact ⟨t.size + 1, ByteArray.empty, by omega, by simp, fun _ => rfl, by go_num, rfl, HJ⟩
                case measure => simp [intOf]
          · obtain rfl : i = t.size + 1 := by omega
            have hp0 := hpn rfl
            obtain rfl : part = ByteArray.empty := ByteArray.ext (Array.eq_empty_of_size_eq_zero hp0)
            rw [show (bys t).drop (t.size + 1) = [] from List.drop_eq_nil_of_le (by rw [bys_length]; omega), show bys ByteArray.empty = [] from rfl, pt_nil, if_pos rfl, List.append_nil] at hpt
            have hparts := parts_eq hpt.symm
            have hnul := HI.out.nul
            rw [List.take_of_length_le (by rw [bys_length]; omega)] at hnul
            have HRL : Hid ((∃ x ∈ l, 28 < x.size) ∧ R = 142 ∨ (¬ ∃ x ∈ l, 28 < x.size) ∧ R = 0) := by
              have he : (∃ x ∈ frs t.size t, 28 < x.size) ↔ ∃ x ∈ l, 28 < x.size := by
                rw [frs_long, ← hpt]
                constructor
                · rintro ⟨p, hp, h⟩
                  obtain ⟨x, hx, rfl⟩ := List.mem_map.1 hp
                  exact ⟨x, hx, by rwa [bys_length] at h⟩
                · rintro ⟨x, hx, h⟩
                  exact ⟨bys x, List.mem_map.2 ⟨x, hx, rfl⟩, by rwa [bys_length]⟩
              have := HE.out
              rw [if_neg hnul] at this
              by_cases h : ∃ x ∈ l, 28 < x.size
              · rw [if_pos (he.2 h)] at this
                exact Lib.hid (.inl ⟨h, this.symm⟩)
              · rw [if_neg (fun x => h (he.1 x))] at this
                exact Lib.hid (.inr ⟨h, this.symm⟩)
            obtain ⟨A4, c4, rfl⟩ := own_form hrow
            have HROW := Lib.hid hrow
            have HPA := Lib.hid hparts
            obtain ⟨_, _, e4, k1, k2, k3⟩ := RdS.of_own hrow
            injection e4 with e5 e6 e7
            subst e5 e7
            have hc4 : c4 ≤ 9223372036854775807 := maxLen_eq ▸ k2
            have HK3 := Lib.hid k3
            obtain ⟨n, hn⟩ : ∃ n, l.length = n := ⟨_, rfl⟩
            have HN := Lib.hid hn
            rw [hn] at k1 hll
            have hbx' := hbx
            rw [hn] at hbx'
            have HBX := Lib.hid hbx'
            have hlt := heap_lt hbx'
            have hlt2 := heap_lt HI.out.b2
            have d0 := cell_of_row _ _ 0 _ _ _ hbx'
            have d1 := cell_of_row _ _ 1 _ _ _ hbx'
            have f1 := frozen_of_row _ _ 1 _ _ hbx'
            have d2 := cell_of_row _ _ 0 _ _ _ HI.out.b2
            have d3 := cell_of_row _ _ 1 _ _ _ HI.out.b2
            have f2 := frozen_of_row _ _ 0 _ _ HI.out.b2
            have f3 := frozen_of_row _ _ 1 _ _ HI.out.b2
            simp only [List.getElem?_toArray, List.getElem?_cons_zero, List.getElem?_cons_succ] at d0 d1 d2 d3
            clear hpt hparts hnul HE hrow hbx hbx' k2 k3 hpn hps e6 hn hp0
            go_wp2_with fail
            go_loopw [7] (fun v7 wi => ∃ k : Nat, k ≤ n ∧ v7 = .int .i64 k ∧ Hid (∀ s ∈ l.take k, s.size ≤ 28) ∧ wi = wr) (fun v7 _ => n - (intOf v7).toNat)
            case atStart => exact ⟨0, by omega, rfl, Lib.hid (by simp), rfl⟩
            case round =>
              obtain ⟨k, hk, rfl, HS, rfl⟩ := hrel
              by_cases hkn : k < n
              · obtain ⟨g, off, rfl, hgw, hh⟩ := HK3.out (by rw [HN.out]; omega)
                obtain ⟨s, hs⟩ : ∃ s, l[k]? = some s := ⟨_, List.getElem?_eq_getElem (by rw [HN.out]; exact hkn)⟩
                have e0 := hh k s hs
                have HSS := Lib.hid hs
                clear hh hs
                by_cases h28 : 28 < s.size
                · have h28' : (28 : Int) < s.size := by omega
                  obtain rfl : R = 142 := by
                    rcases HRL.out with h | h
                    · exact h.2
                    · exact absurd ⟨s, List.mem_of_getElem? HSS.out, h28⟩ h.1
                  go_wp2_with fail
                  exact bodyPost_ret (refp_res rfl rfl (set_path _ _ _ _ _ _ _ HI.out.b2)) rfl (PaPost.bad HR.out (by decide) ((HI.out.bel.setCell (p := ⟨w.heap.size, 0, none⟩) (Nat.le_refl _) _).setCell (p := ⟨w.heap.size, 1, none⟩) (Nat.le_refl _) _))
                · have h28' : ¬ (28 : Int) < s.size := by omega
                  go_wp2_with fail
                  go_roundw
                  case rel => exact ⟨k + 1, by omega, by go_num, Lib.hid (fun y hy => by
                    rw [take_succ_get l k s HSS.out] at hy
                    rcases List.mem_append.1 hy with h | h
                    · exact HS.out y h
                    · rw [List.mem_singleton.1 h]; omega), trivial⟩
                  case measure => simp [intOf]; omega
              · obtain rfl : k = n := by omega
                obtain rfl : R = 0 := by
                  rcases HRL.out with h | h
                  · obtain ⟨⟨x, hx, h28⟩, _⟩ := h
                    have := HS.out x (by rw [List.take_of_length_le (by rw [HN.out]; exact Nat.le_refl _)]; exact hx)
                    omega
                  · exact h.2
                have hsl : k = 0 ∧ slashOf t = false ∨ 0 < k ∧ slashOf t = (((t[t.size - 1]'(by omega)).toNat : Int) == 47) := by
                  unfold slashOf
                  rw [ends_at t hz, HPA.out, ← HN.out]
                  cases l with
                  | nil => exact .inl ⟨rfl, rfl⟩
                  | cons a l => exact .inr ⟨by simp, rfl⟩
                rcases hsl with ⟨hk0, hsl⟩ | ⟨hk0, hsl⟩
                · have hk1 : ((0 : Int) < (k : Int)) = False := by simp; omega
                  have hk2 : (0 < k) = False := by simp; omega
                  have HRW : Hid (wr.ownsRow (w.heap.size + 1 + 1) 9 1 (.slice A4 k c4) l.length (l.map vS)) := by
                    have := HROW.out
                    rw [HN.out] at this ⊢
                    exact Lib.hid this
                  clear hk0
                  go_wp2_with fail
                  exact refp_fin rfl rfl HI.out.b2 HRW.out HI.out.bel HR.out HPA.out hsl
                · have hk1 : ((0 : Int) < (k : Int)) = True := by simp; omega
                  have hk2 : (0 < k) = True := by simp; omega
                  have HRW : Hid (wr.ownsRow (w.heap.size + 1 + 1) 9 1 (.slice A4 k c4) l.length (l.map vS)) := by
                    have := HROW.out
                    rw [HN.out] at this ⊢
                    exact Lib.hid this
                  have HSL := Lib.hid hsl
                  clear hk0 hsl
                  go_wp2_with fail
                  exact refp_fin rfl rfl HI.out.b2 HRW.out HI.out.bel HR.out HPA.out HSL.out
      · have hb0 : ((t[0].toNat : Int) != 47) = true := by
          rw [bne, byte_ne h47]; rfl
        obtain rfl : R = 141 := by rw [← HRD.out, if_neg h200, if_pos (by rw [bys_head t hz]; simpa using h47)]
        go_wp2_with fail
        exact bodyPost_ret (refp_res rfl rfl HX1.out.2) rfl (PaPost.bad HR.out (by decide) HX1.out.1)

end Go.Proofs.YtpombeiabgbpiaaDoor
