/-
samePath and the document's Same: are two paths alike? (Printed by gen_same.py.)
-/
import Derived.Test.YtpombeiabgbpiaaDoorWKit
namespace Go.Proofs.YtpombeiabgbpiaaDoor
open Go.RowKit

/-- two paths alike -/
def sameP (l1 : List ByteArray) (b1 : Bool) (l2 : List ByteArray) (b2 : Bool) : Bool := decide (l1 = l2 ∧ b1 = b2)
theorem sameP_rfl (l : List ByteArray) (b : Bool) : sameP l b l b = true := decide_eq_true ⟨rfl, rfl⟩
structure SmSt (w : World) (v1 : Value) (b1 : Bool) (v2 : Value) (b2 : Bool) (W : World) : Prop where
  b1 : W.heap[w.heap.size]? = some (.cells #[v1, .bool b1] 25 (0, 0))
  b2 : W.heap[w.heap.size + 1]? = some (.cells #[v2, .bool b2] 25 (0, 0))
  bel : Below w.heap.size w W

set_option maxRecDepth 100000 in
set_option maxHeartbeats 4000000 in
/-- samePath -/
theorem samePath_any (w : World) (v1 v2 : Value) (l1 l2 : List ByteArray) (b1 b2 : Bool) (hr1 : RdS w v1 l1) (hr2 : RdS w v2 l2) :
    Calls Tryd.prog 21 #[.agg #[v1, .bool b1], .agg #[v2, .bool b2]] w fun e w' => e = .returned (.bool (sameP l1 b1 l2 b2)) ∧ Below w.heap.size w w' := by
  obtain ⟨A, c, rfl, h1, h2, h3⟩ := hr1
  obtain ⟨A', c', rfl, h1', h2', h3'⟩ := hr2
  have HR1 := Lib.hid h3
  have HR2 := Lib.hid h3'
  have hcm : c ≤ 9223372036854775807 := maxLen_eq ▸ h2
  have hcm' : c' ≤ 9223372036854775807 := maxLen_eq ▸ h2'
  obtain ⟨n, hn⟩ : ∃ n, l1.length = n := ⟨_, rfl⟩
  obtain ⟨m, hm⟩ : ∃ m, l2.length = m := ⟨_, rfl⟩
  have HL1 := Lib.hid hn
  have HL2 := Lib.hid hm
  rw [hn] at h1 ⊢
  rw [hm] at h1' ⊢
  obtain ⟨S, hS⟩ : ∃ S, sameP l1 b1 l2 b2 = S := ⟨_, rfl⟩
  have HS := Lib.hid hS
  rw [hS]
  have hb : Below w.heap.size w ((w.alloc (.cells #[.slice A n c, .bool b1] 25)).alloc (.cells #[.slice A' m c', .bool b2] 25)) := ((Below.refl _ _).alloc (Nat.le_refl _) _).alloc (by simp) _
  have HB0 := Lib.hid hb
  clear h2 h2' h3 h3' hn hm hS hb
  by_cases hnm : n = m
  · subst hnm
    by_cases hbb : b1 = b2
    · subst hbb
      have hne : (b1 != b1) = false := by cases b1 <;> rfl
      have HW0 : Hid (SmSt w (.slice A n c) b1 (.slice A' n c') b1 ((w.alloc (.cells #[.slice A n c, .bool b1] 25)).alloc (.cells #[.slice A' n c', .bool b1] 25))) := by
        refine Lib.hid ⟨(Below.heap_alloc _ _ _ (by simp)).trans (heap_alloc_new w _), ?_, HB0.out⟩
        simpa using heap_alloc_new (w.alloc (.cells #[.slice A n c, .bool b1] 25)) (.cells #[.slice A' n c', .bool b1] 25)
      go_enter Tryd.func21, Tryd.ntmps21
      go_wp2_with fail
      go_loopw [5] (fun v5 wr => ∃ k : Nat, k ≤ n ∧ v5 = .int .i64 k ∧ Hid (l1.take k = l2.take k) ∧ Hid (SmSt w (.slice A n c) b1 (.slice A' n c') b1 wr)) (fun v5 _ => n - (intOf v5).toNat)
      case atStart => exact ⟨0, by omega, rfl, Lib.hid (by simp), HW0⟩
      case round =>
        clear HW0
        obtain ⟨k, hk, rfl, HT, HX⟩ := hrel
        have d0 := cell_of_row _ _ 0 _ _ _ HX.out.b1
        have d1 := cell_of_row _ _ 0 _ _ _ HX.out.b2
        simp only [List.getElem?_toArray, List.getElem?_cons_zero] at d0 d1
        have hb1l := heap_lt HX.out.b1
        have hb2l := heap_lt HX.out.b2
        by_cases hlt : k < n
        · obtain ⟨g, off, rfl, hgw, hh⟩ := HR1.out (by rw [HL1.out]; omega)
          obtain ⟨g', off', rfl, hgw', hh'⟩ := HR2.out (by rw [HL2.out]; omega)
          obtain ⟨s, hs⟩ : ∃ s, l1[k]? = some s := ⟨_, List.getElem?_eq_getElem (by rw [HL1.out]; exact hlt)⟩
          obtain ⟨s', hs'⟩ : ∃ s, l2[k]? = some s := ⟨_, List.getElem?_eq_getElem (by rw [HL2.out]; exact hlt)⟩
          have e0 := cell_below HX.out.bel (hh k s hs)
          have e1 := cell_below HX.out.bel (hh' k s' hs')
          have HK1 := Lib.hid hs
          have HK2 := Lib.hid hs'
          have HXD : Hid (SmSt w (.slice (some ⟨g, off, none⟩) n c) b1 (.slice (some ⟨g', off', none⟩) n c') b1 wr.drew) := Lib.hid ⟨HX.out.b1, HX.out.b2, HX.out.bel.drew⟩
          clear hh hh' hs hs' HX
          by_cases hss : s = s'
          · subst hss
            have hq : (s.toList == s.toList) = true := by simp
            go_wp2_with fail
            go_region
            go_wp2_with fail
            go_roundw
            case rel => exact ⟨k + 1, by omega, by go_num, Lib.hid (by rw [List.take_add_one, List.take_add_one, HT.out, HK1.out, HK2.out]), HXD⟩
            case measure => simp [intOf]; omega
          · have hq : (s.toList == s'.toList) = false := by
              rw [beq_eq_false_iff_ne]
              intro e
              rw [toList_bys, toList_bys] at e
              exact hss (bys_inj e)
            obtain rfl : S = false := by
              rw [← HS.out]
              refine decide_eq_false (fun h => ?_)
              have := HK1.out
              rw [h.1, HK2.out] at this
              exact hss (Option.some.inj this).symm
            go_wp2_with fail
            go_region
            go_wp2_with fail
            go_ret
            exact ⟨rfl, HXD.out.bel⟩
        · obtain rfl : k = n := by omega
          obtain rfl : S = true := by
            rw [← HS.out]
            refine decide_eq_true ⟨?_, rfl⟩
            have := HT.out
            rwa [List.take_of_length_le (by rw [HL1.out]; exact Nat.le_refl _), List.take_of_length_le (by rw [HL2.out]; exact Nat.le_refl _)] at this
          go_wp2_with fail
          go_ret
          exact ⟨rfl, HX.out.bel⟩
    · obtain rfl : S = false := by rw [← HS.out]; exact decide_eq_false (fun h => hbb h.2)
      clear HS
      cases b1 <;> cases b2
      · exact absurd rfl hbb
      · clear hbb
        go_enter Tryd.func21, Tryd.ntmps21
        go_wp2_with fail
        go_ret
        exact ⟨rfl, HB0.out⟩
      · clear hbb
        go_enter Tryd.func21, Tryd.ntmps21
        go_wp2_with fail
        go_ret
        exact ⟨rfl, HB0.out⟩
      · exact absurd rfl hbb
  · have hne : ((n : Int) != (m : Int)) = true := by simp; omega
    obtain rfl : S = false := by
      rw [← HS.out]
      refine decide_eq_false (fun h => hnm ?_)
      rw [← HL1.out, ← HL2.out, h.1]
    go_enter Tryd.func21, Tryd.ntmps21
    go_wp2_with fail
    go_ret
    exact ⟨rfl, HB0.out⟩

set_option maxRecDepth 100000 in
set_option maxHeartbeats 4000000 in
/-- Same -/
theorem same_any (w : World) (v1 v2 : Value) (l1 l2 : List ByteArray) (b1 b2 : Bool) (hr1 : RdS w v1 l1) (hr2 : RdS w v2 l2) :
    Calls Tryd.prog 46 #[.agg #[v1, .bool b1], .agg #[v2, .bool b2]] w fun e w' => e = .returned (.bool (sameP l1 b1 l2 b2)) ∧ Below w.heap.size w w' := by
  obtain ⟨A, c, rfl, h1, h2, h3⟩ := hr1
  obtain ⟨A', c', rfl, h1', h2', h3'⟩ := hr2
  have HR1 := Lib.hid h3
  have HR2 := Lib.hid h3'
  have hcm : c ≤ 9223372036854775807 := maxLen_eq ▸ h2
  have hcm' : c' ≤ 9223372036854775807 := maxLen_eq ▸ h2'
  obtain ⟨n, hn⟩ : ∃ n, l1.length = n := ⟨_, rfl⟩
  obtain ⟨m, hm⟩ : ∃ m, l2.length = m := ⟨_, rfl⟩
  have HL1 := Lib.hid hn
  have HL2 := Lib.hid hm
  rw [hn] at h1 ⊢
  rw [hm] at h1' ⊢
  obtain ⟨S, hS⟩ : ∃ S, sameP l1 b1 l2 b2 = S := ⟨_, rfl⟩
  have HS := Lib.hid hS
  rw [hS]
  have hb : Below w.heap.size w ((w.alloc (.cells #[.slice A n c, .bool b1] 25)).alloc (.cells #[.slice A' m c', .bool b2] 25)) := ((Below.refl _ _).alloc (Nat.le_refl _) _).alloc (by simp) _
  have HB0 := Lib.hid hb
  clear h2 h2' h3 h3' hn hm hS hb
  by_cases hnm : n = m
  · subst hnm
    by_cases hbb : b1 = b2
    · subst hbb
      have hne : (b1 != b1) = false := by cases b1 <;> rfl
      have HW0 : Hid (SmSt w (.slice A n c) b1 (.slice A' n c') b1 ((w.alloc (.cells #[.slice A n c, .bool b1] 25)).alloc (.cells #[.slice A' n c', .bool b1] 25))) := by
        refine Lib.hid ⟨(Below.heap_alloc _ _ _ (by simp)).trans (heap_alloc_new w _), ?_, HB0.out⟩
        simpa using heap_alloc_new (w.alloc (.cells #[.slice A n c, .bool b1] 25)) (.cells #[.slice A' n c', .bool b1] 25)
      go_enter Tryd.func46, Tryd.ntmps46
      go_wp2_with fail
      go_loopw [5] (fun v5 wr => ∃ k : Nat, k ≤ n ∧ v5 = .int .i64 k ∧ Hid (l1.take k = l2.take k) ∧ Hid (SmSt w (.slice A n c) b1 (.slice A' n c') b1 wr)) (fun v5 _ => n - (intOf v5).toNat)
      case atStart => exact ⟨0, by omega, rfl, Lib.hid (by simp), HW0⟩
      case round =>
        clear HW0
        obtain ⟨k, hk, rfl, HT, HX⟩ := hrel
        have d0 := cell_of_row _ _ 0 _ _ _ HX.out.b1
        have d1 := cell_of_row _ _ 0 _ _ _ HX.out.b2
        simp only [List.getElem?_toArray, List.getElem?_cons_zero] at d0 d1
        have hb1l := heap_lt HX.out.b1
        have hb2l := heap_lt HX.out.b2
        by_cases hlt : k < n
        · obtain ⟨g, off, rfl, hgw, hh⟩ := HR1.out (by rw [HL1.out]; omega)
          obtain ⟨g', off', rfl, hgw', hh'⟩ := HR2.out (by rw [HL2.out]; omega)
          obtain ⟨s, hs⟩ : ∃ s, l1[k]? = some s := ⟨_, List.getElem?_eq_getElem (by rw [HL1.out]; exact hlt)⟩
          obtain ⟨s', hs'⟩ : ∃ s, l2[k]? = some s := ⟨_, List.getElem?_eq_getElem (by rw [HL2.out]; exact hlt)⟩
          have e0 := cell_below HX.out.bel (hh k s hs)
          have e1 := cell_below HX.out.bel (hh' k s' hs')
          have HK1 := Lib.hid hs
          have HK2 := Lib.hid hs'
          have HXD : Hid (SmSt w (.slice (some ⟨g, off, none⟩) n c) b1 (.slice (some ⟨g', off', none⟩) n c') b1 wr.drew) := Lib.hid ⟨HX.out.b1, HX.out.b2, HX.out.bel.drew⟩
          clear hh hh' hs hs' HX
          by_cases hss : s = s'
          · subst hss
            have hq : (s.toList == s.toList) = true := by simp
            go_wp2_with fail
            go_region
            go_wp2_with fail
            go_roundw
            case rel => exact ⟨k + 1, by omega, by go_num, Lib.hid (by rw [List.take_add_one, List.take_add_one, HT.out, HK1.out, HK2.out]), HXD⟩
            case measure => simp [intOf]; omega
          · have hq : (s.toList == s'.toList) = false := by
              rw [beq_eq_false_iff_ne]
              intro e
              rw [toList_bys, toList_bys] at e
              exact hss (bys_inj e)
            obtain rfl : S = false := by
              rw [← HS.out]
              refine decide_eq_false (fun h => ?_)
              have := HK1.out
              rw [h.1, HK2.out] at this
              exact hss (Option.some.inj this).symm
            go_wp2_with fail
            go_region
            go_wp2_with fail
            go_ret
            exact ⟨rfl, HXD.out.bel⟩
        · obtain rfl : k = n := by omega
          obtain rfl : S = true := by
            rw [← HS.out]
            refine decide_eq_true ⟨?_, rfl⟩
            have := HT.out
            rwa [List.take_of_length_le (by rw [HL1.out]; exact Nat.le_refl _), List.take_of_length_le (by rw [HL2.out]; exact Nat.le_refl _)] at this
          go_wp2_with fail
          go_ret
          exact ⟨rfl, HX.out.bel⟩
    · obtain rfl : S = false := by rw [← HS.out]; exact decide_eq_false (fun h => hbb h.2)
      clear HS
      cases b1 <;> cases b2
      · exact absurd rfl hbb
      · clear hbb
        go_enter Tryd.func46, Tryd.ntmps46
        go_wp2_with fail
        go_ret
        exact ⟨rfl, HB0.out⟩
      · clear hbb
        go_enter Tryd.func46, Tryd.ntmps46
        go_wp2_with fail
        go_ret
        exact ⟨rfl, HB0.out⟩
      · exact absurd rfl hbb
  · have hne : ((n : Int) != (m : Int)) = true := by simp; omega
    obtain rfl : S = false := by
      rw [← HS.out]
      refine decide_eq_false (fun h => hnm ?_)
      rw [← HL1.out, ← HL2.out, h.1]
    go_enter Tryd.func46, Tryd.ntmps46
    go_wp2_with fail
    go_ret
    exact ⟨rfl, HB0.out⟩

end Go.Proofs.YtpombeiabgbpiaaDoor
