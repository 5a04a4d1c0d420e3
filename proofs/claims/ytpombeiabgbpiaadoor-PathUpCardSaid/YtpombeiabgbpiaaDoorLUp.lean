/-
PathUp: a name and ".." behind it lead back to where the path led, if the name is a directory's.
-/
import Derived.Test.YtpombeiabgbpiaaDoorLParents
namespace Go.Proofs.YtpombeiabgbpiaaDoor
open Go.RowKit

theorem up_root (lk : Int → ByteArray → Int × Bool) : resF lk [dot2] true = (1, true, 0) := by
  have : ¬ dot2 = dot1 := by decide
  simp [resF, wkF, rootW, this]
theorem up_cases (lk : Int → ByteArray → Int × Bool) (l : List ByteArray) (s : ByteArray) (n : Int) (sub : Bool) (h1 : s ≠ dot1) (h2 : s ≠ dot2) (h : resF lk l false = (n, sub, 0)) :
    (∃ er, (er = 143 ∨ er = 144) ∧ resF lk (l ++ [s]) false = (0, false, er) ∧ resF lk (l ++ [s] ++ [dot2]) false = (0, false, er)) ∨
    (∃ x, 1 ≤ x ∧ resF lk (l ++ [s]) false = (x, false, 0) ∧ resF lk (l ++ [s] ++ [dot2]) false = (0, false, 144)) ∨
    ∃ x, resF lk (l ++ [s]) false = (x, true, 0) ∧ resF lk (l ++ [s] ++ [dot2]) false = (n, sub, 0) := by
  rcases wk_root lk l with ⟨a, b, c, d, _⟩ | ⟨way, a, b, c, _⟩
  · rw [resF, if_pos a] at h
    injection h with _ h
    injection h with _ h
    exact absurd h a
  · obtain ⟨⟨z1, z2⟩, hz⟩ : ∃ z, way.getLastD (0, false) = z := ⟨_, rfl⟩
    rw [hz] at b
    have hn : n = z1 ∧ sub = z2 := by
      rw [resF, b] at h
      simp at h
      exact ⟨h.1.symm, h.2.symm⟩
    obtain ⟨rfl, rfl⟩ := hn
    have hr : wkF lk rootW (l ++ [s]) = wkF lk way [s] := c [s]
    have hr2 : wkF lk rootW (l ++ [s] ++ [dot2]) = wkF lk way [s, dot2] := by rw [List.append_assoc]; exact c [s, dot2]
    rw [wkF, hz] at hr hr2
    cases sub
    · rw [if_pos rfl] at hr hr2
      exact .inl ⟨144, .inr rfl, by rw [resF, hr]; simp, by rw [resF, hr2]; simp⟩
    · rw [if_neg (by simp), if_neg h1, if_neg h2] at hr hr2
      by_cases hx : (lk n s).1 < 1
      · rw [if_pos hx] at hr hr2
        exact .inl ⟨143, .inl rfl, by rw [resF, hr]; simp, by rw [resF, hr2]; simp⟩
      · have w1 : ∀ w, wkF lk w [] = (w.getLastD (0, false), 0) := fun _ => rfl
        rw [if_neg hx, w1, List.getLastD_concat] at hr
        rw [if_neg hx, wkF, List.getLastD_concat] at hr2
        cases hx2 : (lk n s).2
        · refine .inr (.inl ⟨(lk n s).1, by omega, by rw [resF, hr]; simp [hx2], ?_⟩)
          rw [if_pos hx2] at hr2
          rw [resF, hr2]; simp
        · refine .inr (.inr ⟨(lk n s).1, by rw [resF, hr]; simp [hx2], ?_⟩)
          have hd : ¬ dot2 = dot1 := by decide
          rw [if_neg (by rw [hx2]; simp), if_neg hd, if_pos rfl, w1] at hr2
          have ht : (way ++ [lk n s]).take (max 1 ((way ++ [lk n s]).length - 1)) = way := by
            have hl := List.length_pos_iff.2 a
            rw [List.length_append, List.length_singleton, Nat.add_sub_cancel, Nat.max_eq_right hl]
            exact List.take_left' rfl
          rw [ht, hz] at hr2
          rw [resF, hr2]; simp

/-- a path in a variable, whose parts are the call's own, behind an append that is stored there -/
theorem app_box {wa w' : World} {b B k : Nat} {va v' : Value} {l : List ByteArray} {s : ByteArray} {sl : Bool} {o : Obj} (hb : wa.heap[b]? = some (.cells #[va, .bool sl] 25 (0, 0))) (hne : ∀ g, va.ownBlock = some g → g ≠ b)
    (hown : w'.ownsRow B 9 1 v' (k + 1) (l.map vS ++ [.string s])) (hg : (wa.alloc o).grownBy w' va.ownBlock) (hloc : v'.ownBlock = va.ownBlock ∨ v'.ownBlock = some (wa.alloc o).heap.size) :
    w'.heap[b]? = some (.cells #[va, .bool sl] 25 (0, 0)) ∧ (w'.setCell ⟨b, 0, none⟩ v').heap[b]? = some (.cells #[v', .bool sl] 25 (0, 0)) ∧ (w'.setCell ⟨b, 0, none⟩ v').ownsRow B 9 1 v' (k + 1) ((l ++ [s]).map vS) ∧
      (∀ g, v'.ownBlock = some g → g ≠ b) ∧ Chg (fun x => x = b ∨ va.ownBlock = some x) wa (w'.setCell ⟨b, 0, none⟩ v') := by
  have hlt := heap_lt hb
  have hch : Chg (fun x => va.ownBlock = some x) wa w' := ((Chg.refl (fun x => va.ownBlock = some x) wa).alloc o).grown hg (fun k e _ => e)
  have hb' : w'.heap[b]? = some (.cells #[va, .bool sl] 25 (0, 0)) := hch.heap hb (fun e => hne b e rfl)
  have hnb : ∀ g, v'.ownBlock = some g → g ≠ b := fun g e => by
    rcases hloc with h | h
    · exact hne g (h ▸ e)
    · rw [h] at e
      have := Option.some.inj e
      simp at this
      omega
  refine ⟨hb', heap_setCell_same _ _ 0 _ _ v' hb', ?_, hnb, (hch.mono (fun _ _ e => .inr e)).setCell (p := ⟨b, 0, none⟩) (fun _ => .inl rfl) _⟩
  rw [List.map_append]
  exact own_chg hown ((Chg.refl (fun x => x = b) w').setCell (p := ⟨b, 0, none⟩) (fun _ => rfl) _) (fun g e h => hnb g e h)

set_option maxRecDepth 100000 in
set_option maxHeartbeats 8000000 in
theorem up_any (W : World) (v : Value) (es : List EdgeV) (A : Option Addr) (n c : Nat) (l : List ByteArray) (sl : Bool) (s : ByteArray) (he : RdE W v es) (hs : StrsV W (.slice A n c) l) (hnz : Nz (.slice A n c)) (hsz : s.size ≤ 140737488351232) :
    Calls Tryd.prog 7 #[v, .agg #[.slice A n c, .bool sl], .string s] W fun e W' => e = .returned (.bool true) ∧ Below W.heap.size W W' := by
  obtain ⟨i0, hi, hz0, hz1, hz2⟩ := info_parts info9
  have hn : n = l.length := by obtain ⟨_, _, e, _⟩ := hs.1; injection e
  subst hn
  have hlen := hs.2.2
  have hcm : c ≤ 9223372036854775807 ∧ l.length ≤ c := by
    obtain ⟨_, _, e, k1, k2, _⟩ := hs.1
    injection e with _ _ e
    subst e
    exact ⟨maxLen_eq ▸ k2, k1⟩
  obtain ⟨hcm, hlc⟩ := hcm
  have hb1 : Below W.heap.size W (W.alloc (.cells #[.slice A l.length c, .bool sl] 25)) := (Below.refl _ _).alloc (Nat.le_refl _) _
  have HN := Lib.hid (newTable_any _ v es (he.below hb1))
  have HB1 := Lib.hid hb1
  have HO := Lib.hid he
  have HS := Lib.hid hs
  have HZ := Lib.hid hnz
  have HL1 : Hid (l.length + 1 ≤ 8796093022208) := Lib.hid (by omega)
  have HN1 := Lib.hid hs.2.1.max
  have HSZ := Lib.hid hsz
  clear hb1 he hs hnz hsz
  go_enter Tryd.func7, Tryd.ntmps7
  go_wp2_with fail
  refine HN.out.mono ?_
  rintro e w1 ⟨t, rfl, ht, htw, hb1⟩
  obtain ⟨_, _, _, _, _, ho, _⟩ := HO.out
  have HL := Lib.hid (show LwS t W.heap.size es (.slice A l.length c) l sl w1 from ⟨ht, (hb1.block _ (by simp)).trans (heap_alloc_new W _), (HS.out.1.below HB1.out).below hb1⟩)
  have HOK := Lib.hid ho
  have HB := Lib.hid (below_lift HB1.out hb1)
  clear ht hb1 htw ho HN HO HS HB1
  go_wp2_with fail
  refine (first_any w1).mono ?_
  rintro e w2 ⟨rfl, hb2⟩
  have HL2 := Lib.hid (HL.out.below hb2)
  have HB2 := Lib.hid (below_lift HB.out hb2)
  clear hb2 HL HB
  go_wp2_with (at_builtin; refine wpList_append_own_at _ rfl _ _ 23 rfl w2.heap.size 9 i0 (.string ByteArray.empty) 1 16 Tryd.underlying23 hi hz0 hz1 hz2 rfl (by decide) (.slice none 0 0) 0 [] rfl (World.ownsRow_nil _ _ _ _) ⟨w2.heap.size, 0, none⟩ 1 1 [.string ⟨#[46, 46]⟩] rfl rfl (World.news_of_block (cs := #[.string ⟨#[46, 46]⟩]) (t := 9) (fr := (0, 0)) (heap_alloc_new w2 _)) (by simp [Value.oneCell']) (by rw [maxLen_eq]; omega) (by omega) (by simp) ?_; intro v3 w3 hown3 hg3 _ _; rw [Nat.zero_add, List.nil_append] at hown3; obtain ⟨A3, c3, rfl⟩ := own_form hown3)
  have hb3 : Below w2.heap.size w2 w3 := ((Below.refl _ _).alloc (Nat.le_refl _) _).grown hg3 (by simp) (fun k e => by cases e)
  have HL3 := Lib.hid (HL2.out.below hb3)
  have HB3 := Lib.hid (below_lift HB2.out hb3)
  have hr3 : RdS w3 (.slice A3 1 c3) [dot2] := RdS.of_own (B := w2.heap.size) (l := [dot2]) hown3
  have hrs := resolve_tab w3 t es HL3.out.tab HOK.out (.slice A3 1 c3) [dot2] true hr3 (by decide) (by intro x hx; simp at hx; subst hx; rw [maxLen_eq]; decide +kernel)
  rw [up_root] at hrs
  have HRS := Lib.hid hrs
  clear hb3 hr3 hrs hown3 hg3 HL2 HB2
  go_wp2_with fail
  refine HRS.out.mono ?_
  rintro e w4 ⟨rfl, hb4⟩
  have HL4 := Lib.hid (HL3.out.below hb4)
  have HB4 := Lib.hid (below_lift HB3.out hb4)
  have c0 := HL4.out.c0
  have c1 := HL4.out.c1
  have hlt := heap_lt HL4.out.box
  have HRQ := Lib.hid (fun o => resolve_tab (w4.alloc o) t es (HL4.out.tab.below ((Below.refl _ _).alloc (Nat.le_refl _) o)) HOK.out (.slice A l.length c) l false (HL4.out.rd.below ((Below.refl _ _).alloc (Nat.le_refl _) o)) HL1.out HN1.out)
  clear hb4 HL3 HB3 HRS
  obtain ⟨R, hR⟩ : ∃ R, resF (lookT es) l false = R := ⟨_, rfl⟩
  have HR := Lib.hid hR
  rw [hR] at HRQ
  clear hR
  obtain ⟨r1, r2, r3⟩ := R
  go_wp2_with fail
  refine (HRQ.out _).mono ?_
  rintro e w5 ⟨rfl, hb5⟩
  have hb5' := below_lift ((Below.refl w4.heap.size w4).alloc (Nat.le_refl _) _) hb5
  have HL5 := Lib.hid (HL4.out.below hb5')
  have HB5 := Lib.hid (below_lift HB4.out hb5')
  clear hb5 hb5' HL4 HB4 HRQ c0 c1
  have c0 := HL5.out.c0
  have c1 := HL5.out.c1
  by_cases hr3 : r3 = 0
  · subst hr3
    by_cases hd1 : s = dot1
    · subst hd1
      unfold dot1
      go_wp2_with fail
      go_ret
      exact ⟨rfl, HB5.out⟩
    · by_cases hd2 : s = dot2
      · subst hd2
        unfold dot2
        go_wp2_with fail
        go_ret
        exact ⟨rfl, HB5.out⟩
      · have e1 : (s.toList == [46]) = false := ne_lit hd1
        have e2 : (s.toList == [46, 46]) = false := ne_lit hd2
        have HUC := Lib.hid (up_cases (lookT es) l s r1 r2 hd1 hd2 HR.out)
        have HST := Lib.hid (step_any w5 A l.length c l.length l sl HL5.out.rd HZ.out (Nat.le_refl _) (by omega))
        clear hd1 hd2
        go_wp2_with fail
        refine HST.out.mono ?_
        rintro e w6 ⟨v6, rfl, ho6, hb6⟩
        rw [List.take_length] at ho6
        obtain ⟨A6, c6, rfl⟩ := own_form ho6
        have HL6 := Lib.hid (HL5.out.below hb6)
        have HB6 := Lib.hid (below_lift HB5.out hb6)
        have hlt6 := ho6.lt
        have HBX := Lib.hid (show (w6.alloc (.cells #[.slice A6 l.length c6, .bool false] 25)).heap[w6.heap.size]? = some (.cells #[.slice A6 l.length c6, .bool false] 25 (0, 0)) from heap_alloc_new w6 _)
        have HO6 := Lib.hid (ho6.alloc (.cells #[.slice A6 l.length c6, .bool false] 25))
        have HNE : Hid (∀ g, (Value.slice A6 l.length c6).ownBlock = some g → g ≠ w6.heap.size) := Lib.hid (fun g e => by have := (hlt6 g e).2; omega)
        have HBW := Lib.hid (hb6.alloc hb6.size (.cells #[.slice A6 l.length c6, .bool false] 25))
        have hsz6 : w5.heap.size + 1 + 1 ≤ w6.heap.size + 1 + 1 := by have := hb6.size; omega
        clear hb6 ho6 HST c0 c1 hlt6
        go_wp2_with (at_builtin; refine wpList_append_own_at _ rfl _ _ 23 rfl (w5.heap.size + 1 + 1) 9 i0 (.string ByteArray.empty) 1 16 Tryd.underlying23 hi hz0 hz1 hz2 rfl (by decide) _ l.length _ rfl (HO6.out.alloc _) ⟨w6.heap.size + 1, 0, none⟩ 1 1 [.string s] rfl rfl (World.news_of_block (cs := #[.string s]) (t := 9) (fr := (0, 0)) (by simpa using heap_alloc_new (w6.alloc (.cells #[.slice A6 l.length c6, .bool false] 25)) (.cells #[.string s] 9))) (by simp [Value.oneCell']) (by rw [maxLen_eq]; omega) (by omega) (by simpa using hsz6) ?_; intro v7 w7 hown7 hg7 _ hloc7; obtain ⟨A7, c7, rfl⟩ := own_form hown7; obtain ⟨hbx7, hbx8, hown8, hne8, hch8⟩ := app_box HBX.out HNE.out hown7 hg7 hloc7; have HX8 := Lib.hid (And.intro hbx8 (And.intro hown8 (And.intro hne8 hch8))); have d0 := cell_of_row _ _ 0 _ _ _ hbx7; have f0 := frozen_of_row _ _ 0 _ _ hbx7; have d1 := cell_of_row _ _ 1 _ _ _ hbx7; simp only [List.getElem?_toArray, List.getElem?_cons_zero, List.getElem?_cons_succ] at d0 d1; clear hbx7 hbx8 hown8 hne8 hch8 hown7 hg7 hloc7)
        obtain ⟨w8, hw8⟩ : ∃ x, w7.setCell ⟨w6.heap.size, 0, none⟩ (.slice A7 (l.length + 1) c7) = x := ⟨_, rfl⟩
        rw [hw8] at HX8 ⊢
        clear hw8
        have hb8 : Below w5.heap.size w5 w8 := HBW.out.trans (HX8.out.2.2.2.below _ HBW.out.size (fun b hb h => by
          rcases h with rfl | h
          · omega
          · have := (HO6.out.lt _ h).1; omega))
        have HB58 := Lib.hid hb8
        have HL8 := Lib.hid (HL5.out.below hb8)
        have HB8 := Lib.hid (below_lift HB5.out hb8)
        have hln : (l ++ [s]).length = l.length + 1 := by simp
        have hr8 : RdS w8 (.slice A7 (l.length + 1) c7) (l ++ [s]) := RdS.of_own (by rw [hln]; exact HX8.out.2.1)
        have hrs8 := resolve_tab w8 t es HL8.out.tab HOK.out _ (l ++ [s]) false hr8 (by omega) (fun x hx => by
          rcases List.mem_append.1 hx with h | h
          · exact HN1.out x h
          · rw [List.mem_singleton.1 h, maxLen_eq]; have := HSZ.out; omega)
        have HRS8 := Lib.hid hrs8
        clear hrs8 hr8 hln hb8 d0 d1 f0
        obtain ⟨F, hF⟩ : ∃ F, resF (lookT es) (l ++ [s]) false = F := ⟨_, rfl⟩
        obtain ⟨G, hG⟩ : ∃ G, resF (lookT es) (l ++ [s] ++ [dot2]) false = G := ⟨_, rfl⟩
        rw [hF] at HRS8 HUC
        rw [hG] at HUC
        have HG := Lib.hid hG
        clear hF hG
        obtain ⟨F1, F2, F3⟩ := F
        obtain ⟨G1, G2, G3⟩ := G
        refine HRS8.out.mono ?_
        rintro e w9 ⟨rfl, hb9⟩
        have HB59 := Lib.hid (below_lift HB58.out hb9)
        have HBX9 := Lib.hid ((hb9.block _ (heap_lt HX8.out.1)).trans HX8.out.1)
        have HO9 := Lib.hid (own_chg HX8.out.2.1 (Chg.of_below (fun _ => False) hb9) (fun _ _ h => h))
        have HNE9 := Lib.hid HX8.out.2.2.1
        have hsz9 : w5.heap.size + 1 + 1 ≤ w9.heap.size + 1 := by have := heap_lt HX8.out.1; have := hb9.size; omega
        have hlt9 := heap_lt HBX9.out
        have d0 := cell_of_row _ _ 0 _ _ _ HBX9.out
        have d1 := cell_of_row _ _ 1 _ _ _ HBX9.out
        simp only [List.getElem?_toArray, List.getElem?_cons_zero, List.getElem?_cons_succ] at d0 d1
        clear hb9 HL8 HB8 HRS8 HX8 HB58
        go_wp2_with (at_builtin; refine wpList_append_own_at _ rfl _ _ 23 rfl (w5.heap.size + 1 + 1) 9 i0 (.string ByteArray.empty) 1 16 Tryd.underlying23 hi hz0 hz1 hz2 rfl (by decide) _ (l.length + 1) _ rfl (HO9.out.alloc _) ⟨w9.heap.size, 0, none⟩ 1 1 [.string ⟨#[46, 46]⟩] rfl rfl (World.news_of_block (cs := #[.string ⟨#[46, 46]⟩]) (t := 9) (fr := (0, 0)) (heap_alloc_new w9 _)) (by simp [Value.oneCell']) (by rw [maxLen_eq]; omega) (by omega) (by simpa using hsz9) ?_; intro v10 w10 hown10 hg10 _ hloc10; obtain ⟨A10, c10, rfl⟩ := own_form hown10; obtain ⟨hbx10, hbx11, hown11, hne11, hch11⟩ := app_box (l := l ++ [s]) (s := dot2) HBX9.out HNE9.out hown10 hg10 hloc10; have HX11 := Lib.hid (And.intro hbx11 (And.intro hown11 (And.intro hne11 hch11))); have d0 := cell_of_row _ _ 0 _ _ _ hbx10; have f0 := frozen_of_row _ _ 0 _ _ hbx10; have d1 := cell_of_row _ _ 1 _ _ _ hbx10; simp only [List.getElem?_toArray, List.getElem?_cons_zero, List.getElem?_cons_succ] at d0 d1; clear hbx10 hbx11 hown11 hne11 hch11 hown10 hg10 hloc10)
        obtain ⟨w11, hw11⟩ : ∃ x, w10.setCell ⟨w6.heap.size, 0, none⟩ (.slice A10 (l.length + 1 + 1) c10) = x := ⟨_, rfl⟩
        rw [hw11] at HX11 ⊢
        clear hw11
        have hb11 : Below w5.heap.size w9 w11 := HX11.out.2.2.2.below _ (by omega) (fun b hb h => by
          rcases h with rfl | h
          · have := HBW.out.size; simp at this; omega
          · have := (HO9.out.lt _ h).1; omega)
        have hb511 := HB59.out.trans hb11
        have HL11 := Lib.hid (HL5.out.below hb511)
        have HB11 := Lib.hid (below_lift HB5.out hb511)
        have hln : (l ++ [s] ++ [dot2]).length = l.length + 1 + 1 := by simp
        have hr11 : RdS w11 (.slice A10 (l.length + 1 + 1) c10) (l ++ [s] ++ [dot2]) := RdS.of_own (by rw [hln]; exact HX11.out.2.1)
        have hrs11 := resolve_tab w11 t es HL11.out.tab HOK.out _ (l ++ [s] ++ [dot2]) false hr11 (by omega) (fun x hx => by
          rcases List.mem_append.1 hx with h | h
          · rcases List.mem_append.1 h with h | h
            · exact HN1.out x h
            · rw [List.mem_singleton.1 h, maxLen_eq]; have := HSZ.out; omega
          · rw [List.mem_singleton.1 h, maxLen_eq]; decide +kernel)
        rw [HG.out] at hrs11
        have HRS11 := Lib.hid hrs11
        clear hrs11 hr11 hln hb11 hb511 d0 d1 f0 HB59 HX11 HBX9 HO9 HNE9
        refine HRS11.out.mono ?_
        rintro e w12 ⟨rfl, hb12⟩
        have HB12 := Lib.hid (below_lift HB11.out hb12)
        clear hb12 HRS11
        rcases HUC.out with ⟨er, her, h1, h2⟩ | ⟨x, _, h1, h2⟩ | ⟨x, h1, h2⟩
        · injection h1 with k1 h1
          injection h1 with k2 k3
          injection h2 with k4 h2
          injection h2 with k5 k6
          subst k1 k2 k3 k4 k5 k6
          rcases her with rfl | rfl
          · go_wp2_with fail
            go_ret
            exact ⟨rfl, HB12.out⟩
          · go_wp2_with fail
            go_ret
            exact ⟨rfl, HB12.out⟩
        · injection h1 with k1 h1
          injection h1 with k2 k3
          injection h2 with k4 h2
          injection h2 with k5 k6
          subst k1 k2 k3 k4 k5 k6
          go_wp2_with fail
          go_ret
          exact ⟨by simp, HB12.out⟩
        · injection h1 with k1 h1
          injection h1 with k2 k3
          injection h2 with k4 h2
          injection h2 with k5 k6
          subst k1 k2 k3 k4 k5 k6
          go_wp2_with fail
          go_ret
          exact ⟨by simp, HB12.out⟩
  · go_wp2_with fail
    go_ret
    exact ⟨rfl, HB5.out⟩

theorem PathUp.walk (W : World) (v : Value) (ho : EdgesV W v) (u : Value) (hp : PathV W u) (s : ByteArray) (hs : s.size ≤ 140737488351232) : Calls Tryd.prog 7 #[v, u, .string s] W fun e W' => e = .returned (.bool true) ∧ Below W.heap.size W W' := by
  obtain ⟨es, he, _⟩ := ho
  obtain ⟨u, l, b, rfl, hl, hz⟩ := hp
  obtain ⟨A, c, rfl, _⟩ := hl.1
  exact up_any W v es A _ c l b s he hl hz hs

end Go.Proofs.YtpombeiabgbpiaaDoor
