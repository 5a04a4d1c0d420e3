/-
The document's Resolve and Parent: what the program's answer.
-/
import Derived.Test.YtpombeiabgbpiaaDoorWRefK
namespace Go.Proofs.YtpombeiabgbpiaaDoor
open Go.RowKit

set_option maxRecDepth 100000 in
set_option maxHeartbeats 4000000 in
theorem refResolve_any (w : World) (v : Value) (es : List EdgeV) (hE : RdE w v es) (u : Value) (l : List ByteArray) (b : Bool) (hr : RdS w u l) (hlen : l.length + 1 ≤ 8796093022208) :
    Calls Tryd.prog 56 #[v, .agg #[u, .bool b]] w fun e w' => e = .returned (.tuple #[.int .i64 (resF (lookT es) l b).1, .bool (resF (lookT es) l b).2.1, .int .i64 (resF (lookT es) l b).2.2]) ∧ Below w.heap.size w w' := by
  have hb1 : Below w.heap.size w (w.alloc (.cells #[u, .bool b] 25)) := (Below.refl _ _).alloc (Nat.le_refl _) _
  have HW := Lib.hid (refWalk_any _ v es (hE.below hb1) u l (hr.below hb1) hlen)
  have HB1 := Lib.hid hb1
  have HX1 := Lib.hid (heap_alloc_new w (.cells #[u, .bool b] 25))
  obtain ⟨Q, hQ⟩ : ∃ Q, resF (lookT es) l b = Q := ⟨_, rfl⟩
  have HQ := Lib.hid hQ
  rw [hQ]
  obtain ⟨A, c, rfl, _⟩ := hr
  obtain ⟨Ae, ce, rfl, _⟩ := hE
  clear hQ hb1
  unfold resF at HQ
  obtain ⟨S, hS⟩ : ∃ S, wkF (lookT es) rootW l = S := ⟨_, rfl⟩
  rw [hS] at HQ HW
  obtain ⟨⟨s1, s2⟩, s3⟩ := S
  clear hS
  simp only at HQ
  obtain ⟨n, hn⟩ : ∃ n, l.length = n := ⟨_, rfl⟩
  rw [hn] at HW HB1 HX1 hlen ⊢
  clear hn
  go_enter Tryd.func56, Tryd.ntmps56
  go_wp2_with fail
  refine HW.out.mono ?_
  rintro e w1 ⟨hb, hp⟩
  have hbx := (hb.block _ (by simp)).trans HX1.out
  have d0 := cell_of_row _ _ 0 _ _ _ hbx
  have d1 := cell_of_row _ _ 1 _ _ _ hbx
  simp only [List.getElem?_toArray, List.getElem?_cons_zero, List.getElem?_cons_succ] at d0 d1
  have hlt := heap_lt hbx
  have HB2 := Lib.hid (below_lift HB1.out hb)
  clear HW hb hbx HB1 HX1
  by_cases h3 : s3 = 0
  · subst h3
    rw [if_pos rfl] at hp
    obtain ⟨bx, vI, vS, way, rfl, hW, h0, hwl, hz⟩ := hp
    have HWW := Lib.hid hW
    have HLA := Lib.hid (last_any w1 _ _ _ _ way hW h0 (by omega))
    clear hW
    go_wp2_with fail
    refine HLA.out.mono ?_
    rintro e w2 ⟨rfl, hb2⟩
    have HB3 := Lib.hid (below_lift HB2.out hb2)
    have d0 := (hb2.cell hlt).trans d0
    have d1 := (hb2.cell hlt).trans d1
    have hlt := Nat.lt_of_lt_of_le hlt hb2.size
    have HW2 := Lib.hid (HWW.out.below hb2)
    clear hb2 HLA HWW HB2
    obtain ⟨gI, cI, gS, cS, rfl, rfl, i1, i2, _, _, gl, gl2, cc, dd, _, _⟩ := HW2.out.ends h0
    rw [hz] at cc ⊢
    simp only at cc ⊢
    have k0 := cell_of_row _ _ 0 _ _ _ HW2.out.box
    simp only [List.getElem?_toArray, List.getElem?_cons_zero, List.getElem?_cons_succ] at k0
    have hlb := heap_lt HW2.out.box
    have hl0 : 0 < way.length := List.length_pos_iff.2 h0
    have hw1 : IntKind.i64.wrap ((way.length : Int) - 1) = (way.length : Int) - 1 := IntWalk.i64_in _ (by omega)
    generalize way.length = m at *
    clear HW2 h0 hz dd
    cases b
    · obtain rfl : Q = (s1, s2, 0) := by rw [← HQ.out]; simp
      go_wp2_with fail
      go_quiet (fail)
      go_wp2_with fail
      go_returns
      exact ⟨rfl, Below.drewN HB3.out _⟩
    · cases s2
      · obtain rfl : Q = (0, false, 144) := by rw [← HQ.out]; simp
        go_wp2_with fail
        go_returns
        exact ⟨rfl, HB3.out⟩
      · obtain rfl : Q = (s1, true, 0) := by rw [← HQ.out]; simp
        go_wp2_with fail
        go_quiet (fail)
        go_wp2_with fail
        go_returns
        exact ⟨rfl, Below.drewN HB3.out _⟩
  · rw [if_neg h3] at hp
    subst hp
    obtain rfl : Q = (0, false, s3) := by rw [← HQ.out, if_pos h3]
    have h3' : (s3 != 0) = true := by rw [bne_iff_ne]; exact h3
    go_wp2_with fail
    go_returns
    exact ⟨rfl, HB2.out⟩

set_option maxRecDepth 100000 in
set_option maxHeartbeats 4000000 in
theorem refParent_any (w : World) (v : Value) (es : List EdgeV) (hE : RdE w v es) (u : Value) (l : List ByteArray) (b : Bool) (hr : RdS w u l) (hlen : l.length + 1 ≤ 8796093022208) :
    Calls Tryd.prog 57 #[v, .agg #[u, .bool b]] w fun e w' => e = .returned (.tuple #[.int .i64 (parF (lookT es) l).1, .string (parF (lookT es) l).2.1, .int .i64 (parF (lookT es) l).2.2]) ∧ Below w.heap.size w w' := by
  obtain ⟨Q, hQ⟩ : ∃ Q, parF (lookT es) l = Q := ⟨_, rfl⟩
  have HQ := Lib.hid hQ
  rw [hQ]
  clear hQ
  have hr0 := hr
  obtain ⟨A, c, rfl, h1, h2, h3⟩ := hr
  have hcm : c ≤ 9223372036854775807 := maxLen_eq ▸ h2
  have HE := Lib.hid hE
  obtain ⟨Ae, ce, rfl, _⟩ := hE
  rcases List.eq_nil_or_concat l with rfl | ⟨pre, s, rfl⟩
  · obtain rfl : Q = (0, ByteArray.empty, 145) := by rw [← HQ.out]; rfl
    clear HQ h3 hr0
    go_enter Tryd.func57, Tryd.ntmps57
    go_wp2_with fail
    go_returns
    exact ⟨rfl, (Below.refl _ _).alloc (Nat.le_refl _) _⟩
  · rw [List.concat_eq_append] at *
    obtain ⟨n, hn⟩ : ∃ n, pre.length = n := ⟨_, rfl⟩
    have hl2 : (pre ++ [s]).length = n + 1 := by simp [hn]
    obtain ⟨g, off, rfl, hbw, hh⟩ := h3 (by simp)
    have hb1 : Below w.heap.size w (w.alloc (.cells #[.slice (some ⟨g, off, none⟩) (n + 1) c, .bool b] 25)) := (Below.refl _ _).alloc (Nat.le_refl _) _
    have d0 := cell_below hb1 (hh n s (by rw [← hn]; simp))
    have hgw : g < (w.alloc (.cells #[.slice (some ⟨g, off, none⟩) (n + 1) c, .bool b] 25)).heap.size := by simp; omega
    have hrp : RdS (w.alloc (.cells #[.slice (some ⟨g, off, none⟩) (n + 1) c, .bool b] 25)) (.slice (some ⟨g, off, none⟩) n c) pre := by
      rw [hl2] at hr0
      have := (hr0.below hb1).take n (by rw [← hn]; simp)
      rwa [List.take_left' hn] at this
    rw [hl2] at h1 hlen ⊢
    have HW := Lib.hid (refWalk_any _ _ es (HE.out.below hb1) _ pre hrp (by omega))
    have HB1 := Lib.hid hb1
    have HX1 := Lib.hid (heap_alloc_new w (.cells #[.slice (some ⟨g, off, none⟩) (n + 1) c, .bool b] 25))
    rw [hn] at HW
    clear hb1 hrp hr0 hh h3 hn hl2
    by_cases hs : s = dot1 ∨ s = dot2
    · obtain rfl : Q = (0, ByteArray.empty, 145) := by rw [← HQ.out, parF, endD_snoc, if_pos (by simpa using hs)]
      clear HQ HW
      rcases hs with rfl | rfl
      · unfold dot1 at d0
        go_enter Tryd.func57, Tryd.ntmps57
        go_wp2_with fail
        go_returns
        exact ⟨rfl, HB1.out⟩
      · unfold dot2 at d0
        go_enter Tryd.func57, Tryd.ntmps57
        go_wp2_with fail
        go_returns
        exact ⟨rfl, HB1.out⟩
    · have q1 : (s.toList == [46]) = false := ne_lit (fun e => hs (.inl e))
      have q2 : (s.toList == [46, 46]) = false := ne_lit (fun e => hs (.inr e))
      have HQ2 : Hid ((if (wkF (lookT es) rootW pre).2 ≠ 0 then (0, ByteArray.empty, (wkF (lookT es) rootW pre).2) else if (wkF (lookT es) rootW pre).1.2 = false then (0, ByteArray.empty, 144) else ((wkF (lookT es) rootW pre).1.1, s, 0)) = Q) := by
        have := HQ.out
        rw [parF, endD_snoc, if_neg (by simpa using hs)] at this
        simpa using Lib.hid this
      clear HQ hs
      obtain ⟨S, hS⟩ : ∃ S, wkF (lookT es) rootW pre = S := ⟨_, rfl⟩
      rw [hS] at HQ2 HW
      obtain ⟨⟨s1, s2⟩, s3⟩ := S
      clear hS
      simp only at HQ2
      go_enter Tryd.func57, Tryd.ntmps57
      go_wp2_with fail
      refine HW.out.mono ?_
      rintro e w1 ⟨hb, hp⟩
      have hbx := (hb.block _ (by simp)).trans HX1.out
      have e0 := cell_of_row _ _ 0 _ _ _ hbx
      have e1 := cell_of_row _ _ 1 _ _ _ hbx
      simp only [List.getElem?_toArray, List.getElem?_cons_zero, List.getElem?_cons_succ] at e0 e1
      have hlt := heap_lt hbx
      have d0 := (hb.cell hgw).trans d0
      have hgw := Nat.lt_of_lt_of_le hgw hb.size
      have HB2 := Lib.hid (below_lift HB1.out hb)
      clear HW hb hbx HB1 HX1
      by_cases h3 : s3 = 0
      · subst h3
        rw [if_pos rfl] at hp
        obtain ⟨bx, vI, vS, way, rfl, hW, h0, hwl, hz⟩ := hp
        have HWW := Lib.hid hW
        have HLA := Lib.hid (last_any w1 _ _ _ _ way hW h0 (by omega))
        clear hW
        go_wp2_with fail
        refine HLA.out.mono ?_
        rintro e w2 ⟨rfl, hb2⟩
        have HB3 := Lib.hid (below_lift HB2.out hb2)
        have e0 := (hb2.cell hlt).trans e0
        have e1 := (hb2.cell hlt).trans e1
        have hlt := Nat.lt_of_lt_of_le hlt hb2.size
        have d0 := (hb2.cell hgw).trans d0
        have hgw := Nat.lt_of_lt_of_le hgw hb2.size
        have HW2 := Lib.hid (HWW.out.below hb2)
        clear hb2 HLA HWW HB2
        obtain ⟨gI, cI, gS, cS, rfl, rfl, i1, i2, _, _, gl, gl2, cc, dd, _, _⟩ := HW2.out.ends h0
        rw [hz] at cc ⊢
        simp only at cc ⊢
        have k0 := cell_of_row _ _ 0 _ _ _ HW2.out.box
        simp only [List.getElem?_toArray, List.getElem?_cons_zero, List.getElem?_cons_succ] at k0
        have hlb := heap_lt HW2.out.box
        have hl0 : 0 < way.length := List.length_pos_iff.2 h0
        have hw1 : IntKind.i64.wrap ((way.length : Int) - 1) = (way.length : Int) - 1 := IntWalk.i64_in _ (by omega)
        generalize way.length = m at *
        clear HW2 h0 hz dd
        cases s2
        · obtain rfl : Q = (0, ByteArray.empty, 144) := by rw [← HQ2.out]; simp
          go_wp2_with fail
          go_returns
          exact ⟨rfl, HB3.out⟩
        · obtain rfl : Q = (s1, s, 0) := by rw [← HQ2.out]; simp
          go_wp2_with fail
          go_quiet (fail)
          go_wp2_with fail
          go_returns
          exact ⟨rfl, Below.drewN HB3.out _⟩
      · rw [if_neg h3] at hp
        subst hp
        obtain rfl : Q = (0, ByteArray.empty, s3) := by rw [← HQ2.out, if_pos h3]
        have h3' : (s3 != 0) = true := by rw [bne_iff_ne]; exact h3
        go_wp2_with fail
        go_returns
        exact ⟨rfl, HB2.out⟩

end Go.Proofs.YtpombeiabgbpiaaDoor
