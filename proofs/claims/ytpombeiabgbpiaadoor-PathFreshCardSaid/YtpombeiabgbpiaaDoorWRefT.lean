/-
The document's Text: what it tells of a path is what the program tells.
-/
import Derived.Test.YtpombeiabgbpiaaDoorWRefP
namespace Go.Proofs.YtpombeiabgbpiaaDoor
open Go.RowKit

theorem bys_slash : bys ⟨#[47]⟩ = [47] := rfl
theorem joinB_nil : joinB [] true = ⟨#[47]⟩ := rfl
theorem refText_nil (w : World) (v : Value) (hr : RdS w v []) : Calls Tryd.prog 47 #[.agg #[v, .bool false]] w fun e w' => e = .returned (.string (textOf [] false)) ∧ Below w.heap.size w w' := by
  obtain ⟨A, c, rfl, h1, h2, h3⟩ := hr
  rw [show textOf [] false = ⟨#[47]⟩ from rfl]
  clear h3
  go_enter Tryd.func47, Tryd.ntmps47
  go_wp2_with fail
  go_ret
  exact ⟨rfl, (Below.refl _ _).alloc (Nat.le_refl _) _⟩

set_option maxRecDepth 100000 in
set_option maxHeartbeats 8000000 in
theorem refText_any (w : World) (v : Value) (l : List ByteArray) (b : Bool) (hr : RdS w v l) (hnm : ∀ s ∈ l, s.size ≤ 140737488351232) : Calls Tryd.prog 47 #[.agg #[v, .bool b]] w fun e w' => e = .returned (.string (textOf l b)) ∧ Below w.heap.size w w' := by
  by_cases h0 : l = [] ∧ b = false
  · obtain ⟨rfl, rfl⟩ := h0
    exact refText_nil w v hr
  · have hr0 := hr
    obtain ⟨A, c, rfl, h1, h2, h3⟩ := hr
    have HR := Lib.hid h3
    have HRD := Lib.hid hr0
    have hcm : c ≤ 9223372036854775807 := maxLen_eq ▸ h2
    obtain ⟨n, hn⟩ : ∃ n, l.length = n := ⟨_, rfl⟩
    have HL := Lib.hid hn
    have HNM := Lib.hid hnm
    obtain ⟨T, hT⟩ : ∃ T, textOf l b = T := ⟨_, rfl⟩
    have HT := Lib.hid hT
    rw [hT]
    rw [hn] at h1 ⊢
    have hn' := hn
    have hb1 : Below w.heap.size w (w.alloc (.cells #[.slice A n c, .bool b] 25)) := (Below.refl _ _).alloc (Nat.le_refl _) _
    have HB1 := Lib.hid hb1
    have HTR := Lib.hid (text_read h0)
    have h00 : (((n : Int) == 0) = true ∧ b = true) ∨ ((n : Int) == 0) = false := by
      by_cases h : n = 0
      · refine .inl ⟨by rw [h]; rfl, ?_⟩
        cases b
        · exact absurd ⟨List.length_eq_zero_iff.1 (hn.trans h), rfl⟩ h0
        · rfl
      · exact .inr (by rw [beq_eq_false_iff_ne]; omega)
    clear h2 h3 hn hT hr0 hb1 hnm h0
    go_enter Tryd.func47, Tryd.ntmps47
    have d0 : (w.alloc (.cells #[.slice A n c, .bool b] 25)).cell? ⟨w.heap.size, 0, none⟩ = some (.slice A n c) := by rw [cell_of_row _ _ _ _ _ _ (heap_alloc_new w _)]; rfl
    have d1 : (w.alloc (.cells #[.slice A n c, .bool b] 25)).cell? ⟨w.heap.size, 1, none⟩ = some (.bool b) := by rw [cell_of_row _ _ _ _ _ _ (heap_alloc_new w _)]; rfl
    obtain ⟨W1, hW1⟩ : ∃ W1, w.alloc (.cells #[.slice A n c, .bool b] 25) = W1 := ⟨_, rfl⟩
    have HRD1 := Lib.hid (HRD.out.below HB1.out)
    rw [hn', hW1] at HRD1
    rw [hW1] at d0 d1 HB1
    have hlt : w.heap.size < W1.heap.size := by rw [← hW1]; simp
    rcases h00 with ⟨hn0, hb⟩ | hn0
    all_goals
      go_wp2_with fail
      have HW1 := Lib.hid hW1
      clear hW1 hn'
      go_loopw [3, 4] (fun v3 v4 wr => ∃ (i : Nat) (tt : ByteArray), i ≤ n ∧ tt.size ≤ 200 ∧ v4 = .int .i64 i ∧ v3 = .string tt ∧ Hid (bys tt = joinS (l.take i)) ∧ wr = W1) (fun _ v4 _ => n - (intOf v4).toNat)
      case atStart => exact ⟨0, ByteArray.empty, by omega, by simp, rfl, rfl, Lib.hid rfl, by first | rfl | (have := HW1.out; rw [hb] at this; exact this)⟩
      case round =>
        obtain ⟨i, tt, hi, htt, rfl, rfl, HI, rfl⟩ := hrel
        by_cases hil : i < n
        · obtain ⟨g, off, rfl, hgw, hh⟩ := HR.out (by rw [HL.out]; omega)
          obtain ⟨s, hs⟩ : ∃ s, l[i]? = some s := ⟨_, List.getElem?_eq_getElem (by rw [HL.out]; exact hil)⟩
          have e0 := cell_below HB1.out (hh i s hs)
          have hsz := HNM.out s (List.mem_of_getElem? hs)
          have HJ : Hid (bys (tt ++ ⟨#[47]⟩ ++ s) = joinS (l.take (i + 1))) := by
            rw [take_succ_get l i s hs, joinS_snoc, bys_app, bys_app, HI.out, bys_slash, List.append_assoc]
            exact Lib.hid rfl
          have hjs : (joinS (l.take (i + 1))).length = tt.size + 1 + s.size := by
            rw [← HJ.out, bys_app, bys_app, List.length_append, List.length_append, bys_length, bys_length]; rfl
          have HJS := Lib.hid hjs
          have hl0 : l ≠ [] := fun e => by rw [e] at hs; cases hs
          have HL0 := Lib.hid hl0
          clear hh hs hjs hl0
          by_cases hov : 200 < tt.size + 1 + s.size
          · obtain rfl : T = ByteArray.empty := by
              rw [← HT.out]
              refine textOf_long HL0.out (k := i + 1) ?_
              rw [HJS.out]
              unfold room
              split <;> omega
            have hov2 : (200 : Int) < (tt.size : Int) + 1 + s.size := by omega
            go_wp2_with fail
            go_ret
            exact ⟨rfl, HB1.out⟩
          · have hov2 : ¬ (200 : Int) < (tt.size : Int) + 1 + s.size := by omega
            go_wp2_with fail
            go_roundw
            case rel => exact ⟨i + 1, tt ++ ⟨#[47]⟩ ++ s, by omega, by rw [← bys_length, HJ.out, HJS.out]; omega, by go_num, rfl, HJ, trivial⟩
            case measure => simp [intOf]; omega
        · obtain rfl : i = n := by omega
          have hI := HI.out
          rw [List.take_of_length_le (by rw [HL.out]; exact Nat.le_refl _)] at hI
          have HU1 : Hid (tt ++ ⟨#[47]⟩ = joinB l true) := Lib.hid (bys_inj (by rw [bys_app, bys_joinB, hI]; rfl))
          have HU0 : Hid (tt = joinB l false) := Lib.hid (bys_inj (by rw [bys_joinB, hI, if_neg (by simp), List.append_nil]))
          clear hI HI
          have hbb : b = true ∨ b = false := by cases b <;> simp
          rcases hbb with hbt | hbt
          · go_wp2_with fail
            rw [HU1.out]
            have hTR := HTR.out
            rw [HT.out, hbt] at hTR
            obtain ⟨U, hU⟩ : ∃ U, joinB l true = U := ⟨_, rfl⟩
            rw [hU] at hTR ⊢
            clear hU HU1 HU0 HTR HT HR HRD HNM
            refine (refParse_any wr U).mono ?_
            rintro e w5 ⟨hb5, hp⟩
            obtain ⟨A5, m5, c5, b5, l5, rfl, hr5, hT5⟩ : ∃ (A5 : Option Addr) (m5 c5 : Nat) (b5 : Bool) (l5 : List ByteArray), e = .returned (.tuple #[.agg #[.slice A5 m5 c5, .bool b5], .int .i64 (errOf U)]) ∧ RdS w5 (.slice A5 m5 c5) l5 ∧ (errOf U = 0 → l5 = partsOf U ∧ b5 = slashOf U) := by
              by_cases h0 : errOf U = 0
              · rw [if_pos h0] at hp
                obtain ⟨v, rfl, ho⟩ := hp
                obtain ⟨A5, c5, rfl⟩ := own_form ho
                exact ⟨A5, _, c5, _, partsOf U, by rw [h0]; rfl, RdS.of_own ho, fun _ => ⟨rfl, rfl⟩⟩
              · rw [if_neg h0] at hp
                exact ⟨none, 0, 0, false, [], hp, ⟨none, 0, rfl, by simp, by simp [maxLen], fun h => absurd h (by simp)⟩, fun h => absurd h h0⟩
            have hT6 : T = if errOf U = 0 ∧ sameP l true l5 b5 = true then U else ByteArray.empty := by
              by_cases h0 : errOf U = 0
              · rw [(hT5 h0).1, (hT5 h0).2]; exact hTR
              · rw [if_neg (fun h => h0 h.1)]
                rw [if_neg (fun h => h0 h.1)] at hTR
                exact hTR
            obtain ⟨er, her⟩ : ∃ er, errOf U = er := ⟨_, rfl⟩
            rw [her] at hT6 ⊢
            have d0 := (hb5.cell hlt).trans d0
            have d1 := (hb5.cell hlt).trans d1
            have hlt := Nat.lt_of_lt_of_le hlt hb5.size
            have HB5 := Lib.hid (below_lift HB1.out hb5)
            have HR5 := Lib.hid hr5
            have HRQ := Lib.hid (HRD1.out.below hb5)
            have HT6 := Lib.hid hT6
            clear hb5 hp hr5 hT5 hT6 hTR her HW1 HRD1 HB1
            go_wp2_with fail
            refine (same_any _ _ _ l l5 true b5 (HRQ.out.below ((Below.refl _ _).alloc (Nat.le_refl _) _)) (HR5.out.below ((Below.refl _ _).alloc (Nat.le_refl _) _))).mono ?_
            rintro e w6 ⟨rfl, hb6⟩
            have HB6 := Lib.hid (below_lift HB5.out (below_lift ((Below.refl _ _).alloc (Nat.le_refl _) _) hb6))
            obtain ⟨q, hq⟩ : ∃ q, sameP l true l5 b5 = q := ⟨_, rfl⟩
            have hT6 := HT6.out
            rw [hq] at hT6 ⊢
            clear hb6 hq HT6
            by_cases h0 : er = 0
            · cases q
              · rw [if_neg (by simp)] at hT6
                subst hT6
                have h00 : (er != 0) = false := by rw [h0]; rfl
                clear h0
                go_wp2_with fail
                go_ret
                exact ⟨rfl, HB6.out⟩
              · rw [if_pos ⟨h0, rfl⟩] at hT6
                subst hT6
                have h00 : (er != 0) = false := by rw [h0]; rfl
                clear h0
                go_wp2_with fail
                go_ret
                exact ⟨rfl, HB6.out⟩
            · rw [if_neg (fun h => h0 h.1)] at hT6
              subst hT6
              have h00 : (er != 0) = true := by rw [bne_iff_ne]; exact h0
              clear h0
              go_wp2_with fail
              go_ret
              exact ⟨rfl, HB6.out⟩
          · first
              | (exfalso; rw [hb] at hbt; exact absurd hbt (by decide))
              | (go_wp2_with fail
                 rw [HU0.out]
                 have hTR := HTR.out
                 rw [HT.out, hbt] at hTR
                 obtain ⟨U, hU⟩ : ∃ U, joinB l false = U := ⟨_, rfl⟩
                 rw [hU] at hTR ⊢
                 clear hU HU1 HU0 HTR HT HR HRD HNM
                 refine (refParse_any wr U).mono ?_
                 rintro e w5 ⟨hb5, hp⟩
                 obtain ⟨A5, m5, c5, b5, l5, rfl, hr5, hT5⟩ : ∃ (A5 : Option Addr) (m5 c5 : Nat) (b5 : Bool) (l5 : List ByteArray), e = .returned (.tuple #[.agg #[.slice A5 m5 c5, .bool b5], .int .i64 (errOf U)]) ∧ RdS w5 (.slice A5 m5 c5) l5 ∧ (errOf U = 0 → l5 = partsOf U ∧ b5 = slashOf U) := by
                   by_cases h0 : errOf U = 0
                   · rw [if_pos h0] at hp
                     obtain ⟨v, rfl, ho⟩ := hp
                     obtain ⟨A5, c5, rfl⟩ := own_form ho
                     exact ⟨A5, _, c5, _, partsOf U, by rw [h0]; rfl, RdS.of_own ho, fun _ => ⟨rfl, rfl⟩⟩
                   · rw [if_neg h0] at hp
                     exact ⟨none, 0, 0, false, [], hp, ⟨none, 0, rfl, by simp, by simp [maxLen], fun h => absurd h (by simp)⟩, fun h => absurd h h0⟩
                 have hT6 : T = if errOf U = 0 ∧ sameP l false l5 b5 = true then U else ByteArray.empty := by
                   by_cases h0 : errOf U = 0
                   · rw [(hT5 h0).1, (hT5 h0).2]; exact hTR
                   · rw [if_neg (fun h => h0 h.1)]
                     rw [if_neg (fun h => h0 h.1)] at hTR
                     exact hTR
                 obtain ⟨er, her⟩ : ∃ er, errOf U = er := ⟨_, rfl⟩
                 rw [her] at hT6 ⊢
                 have d0 := (hb5.cell hlt).trans d0
                 have d1 := (hb5.cell hlt).trans d1
                 have hlt := Nat.lt_of_lt_of_le hlt hb5.size
                 have HB5 := Lib.hid (below_lift HB1.out hb5)
                 have HR5 := Lib.hid hr5
                 have HRQ := Lib.hid (HRD1.out.below hb5)
                 have HT6 := Lib.hid hT6
                 clear hb5 hp hr5 hT5 hT6 hTR her HW1 HRD1 HB1
                 go_wp2_with fail
                 refine (same_any _ _ _ l l5 false b5 (HRQ.out.below ((Below.refl _ _).alloc (Nat.le_refl _) _)) (HR5.out.below ((Below.refl _ _).alloc (Nat.le_refl _) _))).mono ?_
                 rintro e w6 ⟨rfl, hb6⟩
                 have HB6 := Lib.hid (below_lift HB5.out (below_lift ((Below.refl _ _).alloc (Nat.le_refl _) _) hb6))
                 obtain ⟨q, hq⟩ : ∃ q, sameP l false l5 b5 = q := ⟨_, rfl⟩
                 have hT6 := HT6.out
                 rw [hq] at hT6 ⊢
                 clear hb6 hq HT6
                 by_cases h0 : er = 0
                 · cases q
                   · rw [if_neg (by simp)] at hT6
                     subst hT6
                     have h00 : (er != 0) = false := by rw [h0]; rfl
                     clear h0
                     go_wp2_with fail
                     go_ret
                     exact ⟨rfl, HB6.out⟩
                   · rw [if_pos ⟨h0, rfl⟩] at hT6
                     subst hT6
                     have h00 : (er != 0) = false := by rw [h0]; rfl
                     clear h0
                     go_wp2_with fail
                     go_ret
                     exact ⟨rfl, HB6.out⟩
                 · rw [if_neg (fun h => h0 h.1)] at hT6
                   subst hT6
                   have h00 : (er != 0) = true := by rw [bne_iff_ne]; exact h0
                   clear h0
                   go_wp2_with fail
                   go_ret
                   exact ⟨rfl, HB6.out⟩)

end Go.Proofs.YtpombeiabgbpiaaDoor
