/-
PathParents: where Parent answers, the path is what Look says of the last part there; where it refuses, so does Resolve.
-/
import Derived.Test.YtpombeiabgbpiaaDoorWKit
import Derived.Test.YtpombeiabgbpiaaDoorWOpen
namespace Go.Proofs.YtpombeiabgbpiaaDoor
open Go.RowKit

/-- a table, and a path in a variable -/
structure LwS (t b : Nat) (es : List EdgeV) (u : Value) (l : List ByteArray) (sl : Bool) (W : World) : Prop where
  tab : TabT W t es
  box : W.heap[b]? = some (.cells #[u, .bool sl] 25 (0, 0))
  rd : RdS W u l
theorem LwS.below {t b : Nat} {es : List EdgeV} {u : Value} {l : List ByteArray} {sl : Bool} {W W' : World} (h : LwS t b es u l sl W) (hb : Below W.heap.size W W') : LwS t b es u l sl W' :=
  ⟨h.tab.below hb, (hb.block _ (heap_lt h.box)).trans h.box, h.rd.below hb⟩
theorem LwS.c0 {t b : Nat} {es : List EdgeV} {u : Value} {l : List ByteArray} {sl : Bool} {W : World} (h : LwS t b es u l sl W) : W.cell? ⟨b, 0, none⟩ = some u := by rw [cell_of_row _ _ _ _ _ _ h.box]; rfl
theorem LwS.c1 {t b : Nat} {es : List EdgeV} {u : Value} {l : List ByteArray} {sl : Bool} {W : World} (h : LwS t b es u l sl W) : W.cell? ⟨b, 1, none⟩ = some (.bool sl) := by rw [cell_of_row _ _ _ _ _ _ h.box]; rfl
theorem LwS.resolve {t b : Nat} {es : List EdgeV} {u : Value} {l : List ByteArray} {sl : Bool} {W : World} (h : LwS t b es u l sl W) (ho : ∀ e ∈ es, e.Ok) (hlen : l.length + 1 ≤ 8796093022208) (hnm : ∀ s ∈ l, s.size ≤ maxLen) :
    Calls Tryd.prog 23 #[.iface 36 (.pointer (some ⟨t, 0, none⟩)), .agg #[u, .bool sl]] W fun e W' => e = .returned (.tuple #[.int .i64 (resF (lookT es) l sl).1, .bool (resF (lookT es) l sl).2.1, .int .i64 (resF (lookT es) l sl).2.2]) ∧ LwS t b es u l sl W' ∧ Below W.heap.size W W' := by
  refine (resolve_tab W t es h.tab ho u l sl h.rd hlen hnm).mono ?_
  rintro e W' ⟨rfl, hb⟩
  exact ⟨rfl, h.below hb, hb⟩
theorem LwS.parent {t b : Nat} {es : List EdgeV} {u : Value} {l : List ByteArray} {sl : Bool} {W : World} (h : LwS t b es u l sl W) (ho : ∀ e ∈ es, e.Ok) (hlen : l.length + 1 ≤ 8796093022208) (hnm : ∀ s ∈ l, s.size ≤ maxLen) :
    Calls Tryd.prog 27 #[.iface 36 (.pointer (some ⟨t, 0, none⟩)), .agg #[u, .bool sl]] W fun e W' => e = .returned (.tuple #[.int .i64 (parF (lookT es) l).1, .string (parF (lookT es) l).2.1, .int .i64 (parF (lookT es) l).2.2]) ∧ LwS t b es u l sl W' ∧ Below W.heap.size W W' := by
  refine (parent_tab W t es h.tab ho u l sl h.rd hlen hnm).mono ?_
  rintro e W' ⟨rfl, hb⟩
  exact ⟨rfl, h.below hb, hb⟩

set_option maxRecDepth 100000 in
set_option maxHeartbeats 4000000 in
theorem parents_nil (W : World) (v u : Value) (es : List EdgeV) (sl : Bool) (he : RdE W v es) (hs : StrsV W u []) :
    Calls Tryd.prog 8 #[v, .agg #[u, .bool sl]] W fun e W' => e = .returned (.bool true) ∧ Below W.heap.size W W' := by
  obtain ⟨A, c, rfl, h1, h2, h3⟩ := hs.1
  have hb1 : Below W.heap.size W (W.alloc (.cells #[.slice A 0 c, .bool sl] 25)) := (Below.refl _ _).alloc (Nat.le_refl _) _
  have HN := Lib.hid (newTable_any _ v es (he.below hb1))
  have HB1 := Lib.hid hb1
  have HO := Lib.hid he
  have HS := Lib.hid hs
  clear hb1 he hs h1 h2 h3
  go_enter Tryd.func8, Tryd.ntmps8
  go_wp2_with fail
  refine HN.out.mono ?_
  rintro e w1 ⟨t, rfl, ht, htw, hb1⟩
  obtain ⟨_, _, _, _, _, ho, _⟩ := HO.out
  have hL : LwS t W.heap.size es (.slice A 0 c) [] sl w1 := ⟨ht, (hb1.block _ (by simp)).trans (heap_alloc_new W _), (HS.out.1.below HB1.out).below hb1⟩
  have HL := Lib.hid hL
  have HOK := Lib.hid ho
  have HB := Lib.hid (below_lift HB1.out hb1)
  clear ht hb1 hL htw ho HN HO HS HB1
  go_wp2_with fail
  refine (first_any w1).mono ?_
  rintro e w2 ⟨rfl, hb2⟩
  have HL2 := Lib.hid (HL.out.below hb2)
  have HB2 := Lib.hid (below_lift HB.out hb2)
  have c0 := HL2.out.c0
  have c1 := HL2.out.c1
  clear hb2 HL HB
  go_wp2_with fail
  refine (HL2.out.parent HOK.out (by decide) (by simp)).mono ?_
  rintro e w3 ⟨rfl, hL3, hb3⟩
  have HL3 := Lib.hid hL3
  have HB3 := Lib.hid (below_lift HB2.out hb3)
  have c0 := HL3.out.c0
  have c1 := HL3.out.c1
  clear hL3 hb3 HL2 HB2
  rw [show parF (lookT es) [] = (0, ByteArray.empty, 145) from rfl]
  go_wp2_with fail
  refine (HL3.out.resolve HOK.out (by decide) (by simp)).mono ?_
  rintro e w4 ⟨rfl, hL4, hb4⟩
  have HB4 := Lib.hid (below_lift HB3.out hb4)
  have c0 := hL4.c0
  have c1 := hL4.c1
  clear hL4 hb4 HL3 HB3
  go_wp2_with fail
  go_ret
  exact ⟨rfl, HB4.out⟩

theorem wk_wf (lk : Int → ByteArray → Int × Bool) (hlk : ∀ d s, (Lit.int .i64 (lk d s).1).wf = true) : ∀ (l : List ByteArray) (way : List (Int × Bool)), (∀ x ∈ way, (Lit.int .i64 x.1).wf = true) → (Lit.int .i64 (wkF lk way l).1.1).wf = true
  | [], way, h => by
    rw [wkF]
    rcases List.eq_nil_or_concat way with rfl | ⟨p, z, rfl⟩
    · decide
    · rw [List.concat_eq_append, List.getLastD_concat]; exact h z (by simp)
  | s :: r, way, h => by
    rw [wkF]
    split
    · decide
    · split
      · exact wk_wf lk hlk r way h
      · split
        · exact wk_wf lk hlk r _ (fun x hx => h x (List.mem_of_mem_take hx))
        · split
          · decide
          · refine wk_wf lk hlk r _ (fun x hx => ?_)
            rcases List.mem_append.1 hx with hx | hx
            · exact h x hx
            · rw [List.mem_singleton.1 hx]; exact hlk _ _
theorem res_wf {lk : Int → ByteArray → Int × Bool} (hlk : ∀ d s, (Lit.int .i64 (lk d s).1).wf = true) (l : List ByteArray) (b : Bool) : (Lit.int .i64 (resF lk l b).1).wf = true := by
  unfold resF
  split
  · exact (by decide : (Lit.int .i64 0).wf = true)
  · split
    · exact (by decide : (Lit.int .i64 0).wf = true)
    · exact wk_wf lk hlk l rootW (by simp [rootW]; decide)

/-- what the answers are, by what the last part but one leads to -/
theorem par_cases (lk : Int → ByteArray → Int × Bool) (pre : List ByteArray) (s : ByteArray) (sl : Bool) (h1 : s ≠ dot1) (h2 : s ≠ dot2) :
    (∃ er, (er = 143 ∨ er = 144) ∧ parF lk (pre ++ [s]) = (0, ByteArray.empty, er) ∧ resF lk (pre ++ [s]) sl = (0, false, er)) ∨
    ∃ z, parF lk (pre ++ [s]) = (z, s, 0) ∧ resF lk pre false = (z, true, 0) ∧ resF lk (pre ++ [s]) sl = (if (lk z s).1 < 1 then (0, false, 143) else if sl = true ∧ (lk z s).2 = false then (0, false, 144) else ((lk z s).1, (lk z s).2, 0)) := by
  have hend : endD (pre ++ [s]) = false := by rw [endD_snoc]; simp [h1, h2]
  have hp : parF lk (pre ++ [s]) = if (wkF lk rootW pre).2 ≠ 0 then (0, ByteArray.empty, (wkF lk rootW pre).2) else if (wkF lk rootW pre).1.2 = false then (0, ByteArray.empty, 144) else ((wkF lk rootW pre).1.1, s, 0) := by
    rw [parF, if_neg (by rw [hend]; decide), List.dropLast_concat, List.getLastD_concat]
  rcases wk_root lk pre with ⟨a, b, c, d, _⟩ | ⟨way, a, b, c, _⟩
  · refine .inl ⟨(wkF lk rootW pre).2, d, by rw [hp, if_pos a], ?_⟩
    rw [resF, b, if_pos a]
  · obtain ⟨⟨z1, z2⟩, hz⟩ : ∃ z, way.getLastD (0, false) = z := ⟨_, rfl⟩
    rw [hz] at b
    rw [b] at hp
    have hr : wkF lk rootW (pre ++ [s]) = wkF lk way [s] := c [s]
    rw [wkF, hz] at hr
    cases z2
    · rw [if_pos rfl] at hr
      exact .inl ⟨144, .inr rfl, by rw [hp]; simp, by rw [resF, hr]; simp⟩
    · rw [if_neg (by simp), if_neg h1, if_neg h2] at hr
      refine .inr ⟨z1, by rw [hp]; simp, by rw [resF, b]; simp, ?_⟩
      by_cases hx : (lk z1 s).1 < 1
      · rw [if_pos hx] at hr
        rw [if_pos hx, resF, hr]; simp
      · rw [if_neg hx, wkF, List.getLastD_concat] at hr
        rw [if_neg hx, resF, hr]
        simp

set_option maxRecDepth 100000 in
set_option maxHeartbeats 8000000 in
theorem parents_snoc (W : World) (v u : Value) (es : List EdgeV) (pre : List ByteArray) (s : ByteArray) (sl : Bool) (he : RdE W v es) (hs : StrsV W u (pre ++ [s])) (hnz : Nz u) :
    Calls Tryd.prog 8 #[v, .agg #[u, .bool sl]] W fun e W' => e = .returned (.bool true) ∧ Below W.heap.size W W' := by
  obtain ⟨n, hn⟩ : ∃ n, pre.length = n := ⟨_, rfl⟩
  have hl : (pre ++ [s]).length = n + 1 := by simp [hn]
  obtain ⟨A, c, rfl, h1, h2, h3⟩ := hs.1
  have hlen := hs.2.2
  rw [hl] at h1 hlen hs hnz ⊢
  have hcm : c ≤ 9223372036854775807 := maxLen_eq ▸ h2
  obtain ⟨g, off, rfl, hgw, hh⟩ := h3 (by simp)
  have hcell : ∀ W', Below W.heap.size W W' → W'.cell? ⟨g, off + n, none⟩ = some (.string s) := fun W' hb => cell_below hb (hh n s (by rw [← hn]; simp))
  have hb1 : Below W.heap.size W (W.alloc (.cells #[.slice (some ⟨g, off, none⟩) (n + 1) c, .bool sl] 25)) := (Below.refl _ _).alloc (Nat.le_refl _) _
  have HN := Lib.hid (newTable_any _ v es (he.below hb1))
  have HB1 := Lib.hid hb1
  have HO := Lib.hid he
  have HS := Lib.hid hs
  have HC := Lib.hid hcell
  have HZ := Lib.hid hnz
  have hgl : ∀ W', Below W.heap.size W W' → g < W'.heap.size := fun W' hb => Nat.lt_of_lt_of_le hgw hb.size
  have HG := Lib.hid hgl
  clear hb1 he hs h2 h3 hh hcell hnz hgl hl
  have hl1 : (pre ++ [s]).length + 1 ≤ 8796093022208 := by have := HS.out.2.2; omega
  have HL1 := Lib.hid hl1
  have hl2 : pre.length + 1 ≤ 8796093022208 := by omega
  have HL2 := Lib.hid hl2
  have HN1 := Lib.hid HS.out.2.1.max
  have HN2 : Hid (∀ x ∈ pre, x.size ≤ maxLen) := fun x hx => HN1.out x (by simp [hx])
  clear hl1 hl2
  go_enter Tryd.func8, Tryd.ntmps8
  go_wp2_with fail
  refine HN.out.mono ?_
  rintro e w1 ⟨t, rfl, ht, htw, hb1⟩
  obtain ⟨_, _, _, _, _, ho, _⟩ := HO.out
  have HL := Lib.hid (show LwS t W.heap.size es (.slice (some ⟨g, off, none⟩) (n + 1) c) (pre ++ [s]) sl w1 from ⟨ht, (hb1.block _ (by simp)).trans (heap_alloc_new W _), (HS.out.1.below HB1.out).below hb1⟩)
  have HOK := Lib.hid ho
  have HB := Lib.hid (below_lift HB1.out hb1)
  clear ht hb1 htw ho HN HO HS HB1
  go_wp2_with fail
  refine (first_any w1).mono ?_
  rintro e w2 ⟨rfl, hb2⟩
  have HL2' := Lib.hid (HL.out.below hb2)
  have HB2 := Lib.hid (below_lift HB.out hb2)
  have c0 := HL2'.out.c0
  have c1 := HL2'.out.c1
  clear hb2 HL HB
  go_wp2_with fail
  refine (HL2'.out.parent HOK.out HL1.out HN1.out).mono ?_
  rintro e w3 ⟨rfl, hL3, hb3⟩
  have HL3 := Lib.hid hL3
  have HB3 := Lib.hid (below_lift HB2.out hb3)
  have c0 := HL3.out.c0
  have c1 := HL3.out.c1
  clear hL3 hb3 HL2' HB2
  obtain ⟨P, hP⟩ : ∃ P, parF (lookT es) (pre ++ [s]) = P := ⟨_, rfl⟩
  have HP := Lib.hid hP
  rw [hP]
  clear hP
  obtain ⟨p1, p2, p3⟩ := P
  go_wp2_with fail
  refine (HL3.out.resolve HOK.out HL1.out HN1.out).mono ?_
  rintro e w4 ⟨rfl, hL4, hb4⟩
  have HL4 := Lib.hid hL4
  have HB4 := Lib.hid (below_lift HB3.out hb4)
  have c0 := hL4.c0
  have c1 := hL4.c1
  have d0 := HC.out _ HB4.out
  have hg4 := HG.out _ HB4.out
  clear hL4 hb4 HL3 HB3
  obtain ⟨R, hR⟩ : ∃ R, resF (lookT es) (pre ++ [s]) sl = R := ⟨_, rfl⟩
  have HR := Lib.hid hR
  rw [hR]
  clear hR
  obtain ⟨r1, r2, r3⟩ := R
  simp only
  have hn1 : ((n : Int) + 1 == 0) = false := by rw [beq_eq_false_iff_ne]; omega
  have d1 : w4.cell? ⟨g, off + ((max ((n : Int) + 1) 1).toNat - 1), none⟩ = some (.string s) := by rw [show (max ((n : Int) + 1) 1).toNat - 1 = n by omega]; exact d0
  by_cases hd1 : s = dot1
  · subst hd1
    have h := HP.out
    rw [parF, if_pos (by rw [endD_snoc]; simp)] at h
    injection h with h1 h
    injection h with h2 h3
    subst h1 h2 h3
    unfold dot1 at d0 d1
    go_wp2_with fail
    go_ret
    exact ⟨rfl, HB4.out⟩
  · by_cases hd2 : s = dot2
    · subst hd2
      have h := HP.out
      rw [parF, if_pos (by rw [endD_snoc]; simp)] at h
      injection h with h1 h
      injection h with h2 h3
      subst h1 h2 h3
      unfold dot2 at d0 d1
      go_wp2_with fail
      go_ret
      exact ⟨rfl, HB4.out⟩
    · have e1 : (s.toList == [46]) = false := ne_lit hd1
      have e2 : (s.toList == [46, 46]) = false := ne_lit hd2
      rcases par_cases (lookT es) pre s sl hd1 hd2 with ⟨er, her, hp, hr⟩ | ⟨z, hp, hstep, hr⟩
      · have h := hp.symm.trans HP.out
        injection h with h1 h
        injection h with h2 h3
        have h' := hr.symm.trans HR.out
        injection h' with k1 h'
        injection h' with k2 k3
        subst h1 h2 h3 k1 k2 k3
        clear hp hr
        rcases her with rfl | rfl
        · go_wp2_with fail
          go_ret
          exact ⟨rfl, HB4.out⟩
        · go_wp2_with fail
          go_ret
          exact ⟨rfl, HB4.out⟩
      · have h := hp.symm.trans HP.out
        injection h with h1 h
        injection h with h2 h3
        subst h1 h2 h3
        have HR2 := Lib.hid (hr.symm.trans HR.out)
        have HST := Lib.hid hstep
        clear hp hr hstep HP HR
        have hS := step_any w4 (some ⟨g, off, none⟩) (n + 1) c n (pre ++ [s]) sl HL4.out.rd HZ.out (by rw [← hn]; simp) (by omega)
        rw [List.take_left' hn] at hS
        have HS := Lib.hid hS
        clear hS
        have hzw := res_wf (lookT_wf HOK.out) pre false
        rw [HST.out] at hzw
        have HZW := Lib.hid hzw
        have hsz := HN1.out s (by simp)
        clear hzw
        go_wp2_with fail
        refine HS.out.mono ?_
        rintro e w5 ⟨v5, rfl, ho5, hb5⟩
        have HL5 := Lib.hid (HL4.out.below hb5)
        have HB5 := Lib.hid (below_lift HB4.out hb5)
        have hr5 : RdS w5 v5 pre := RdS.of_own (by rw [hn]; exact ho5)
        have hrs := resolve_tab w5 t es HL5.out.tab HOK.out v5 pre false hr5 HL2.out HN2.out
        rw [HST.out] at hrs
        have HRS := Lib.hid hrs
        clear ho5 hb5 hr5 hrs HL4 HB4 c0 c1 d0 d1
        go_wp2_with fail
        refine HRS.out.mono ?_
        rintro e w6 ⟨rfl, hb6⟩
        have HL6 := Lib.hid (HL5.out.below hb6)
        have HB6 := Lib.hid (below_lift HB5.out hb6)
        clear hb6 HL5 HB5
        have c0 := HL6.out.c0
        have c1 := HL6.out.c1
        go_wp2_with fail
        refine (look_any w6 t es HL6.out.tab z s HZW.out hsz).mono ?_
        rintro e w7 ⟨rfl, hb7⟩
        have HL7 := Lib.hid (HL6.out.below hb7)
        have HB7 := Lib.hid (below_lift HB6.out hb7)
        clear hb7 HL6 HB6
        have c0 := HL7.out.c0
        have c1 := HL7.out.c1
        obtain ⟨X, hX⟩ : ∃ X, lookT es z s = X := ⟨_, rfl⟩
        rw [hX] at HR2 ⊢
        clear hX
        obtain ⟨x1, x2⟩ := X
        have hR := HR2.out
        clear HR2
        simp only at hR ⊢
        by_cases hx : x1 < 1
        · rw [if_pos hx] at hR
          injection hR with k1 hR
          injection hR with k2 k3
          subst k1 k2 k3
          go_wp2_with fail
          go_ret
          exact ⟨rfl, HB7.out⟩
        · rw [if_neg hx] at hR
          cases sl
          · rw [if_neg (by simp)] at hR
            injection hR with k1 hR
            injection hR with k2 k3
            subst k1 k2 k3
            go_wp2_with fail
            go_ret
            exact ⟨by simp, HB7.out⟩
          · cases x2
            · rw [if_pos (by simp)] at hR
              injection hR with k1 hR
              injection hR with k2 k3
              subst k1 k2 k3
              go_wp2_with fail
              go_ret
              exact ⟨rfl, HB7.out⟩
            · rw [if_neg (by simp)] at hR
              injection hR with k1 hR
              injection hR with k2 k3
              subst k1 k2 k3
              go_wp2_with fail
              go_ret
              exact ⟨by simp, HB7.out⟩

theorem PathParents.walk (W : World) (v : Value) (ho : EdgesV W v) (u : Value) (hp : PathV W u) : Calls Tryd.prog 8 #[v, u] W fun e W' => e = .returned (.bool true) ∧ Below W.heap.size W W' := by
  obtain ⟨es, he, _⟩ := ho
  obtain ⟨u, l, b, rfl, hs, hz⟩ := hp
  rcases List.eq_nil_or_concat l with rfl | ⟨pre, s, rfl⟩
  · exact parents_nil W v u es b he hs
  · rw [List.concat_eq_append] at hs
    exact parents_snoc W v u es pre s b he hs hz

end Go.Proofs.YtpombeiabgbpiaaDoor
