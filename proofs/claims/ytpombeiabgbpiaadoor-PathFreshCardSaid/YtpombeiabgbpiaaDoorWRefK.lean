/-
The document's walk: where it leads, the program's walk leads.
-/
import Derived.Test.YtpombeiabgbpiaaDoorWRefW
namespace Go.Proofs.YtpombeiabgbpiaaDoor
open Go.RowKit

/-- behind i parts -/
def RkS (w : World) (lk : Int → ByteArray → Int × Bool) (R : (Int × Bool) × Int) (i : Nat) (rest : List ByteArray) (W : World) : Prop :=
  ∃ (vI vS : Value) (way : List (Int × Bool)), WayG w.heap.size (w.heap.size + 1 + 1) vI vS (way.map (·.1)) (way.map (·.2)) W ∧ way ≠ [] ∧ way.length ≤ i + 1 ∧ wkF lk way rest = R ∧ Below w.heap.size w W
/-- what walk answers -/
def RkPost (w : World) (R : (Int × Bool) × Int) (n : Nat) (e : Ending) (w' : World) : Prop :=
  Below w.heap.size w w' ∧ if R.2 = 0 then ∃ (bx : Nat) (vI vS : Value) (way : List (Int × Bool)), e = .returned (.tuple #[.pointer (some ⟨bx, 0, none⟩), .int .i64 0]) ∧ WayG w.heap.size bx vI vS (way.map (·.1)) (way.map (·.2)) w' ∧ way ≠ [] ∧ way.length ≤ n + 1 ∧ way.getLastD (0, false) = R.1
    else e = .returned (.tuple #[.pointer none, .int .i64 R.2])

theorem rk_low {w : World} {g n c b : Nat} (h : b = w.heap.size + 1 + 1 ∨ (Value.slice (some ⟨g, 0, none⟩) n c).ownBlock = some b) (hg : w.heap.size ≤ g) : w.heap.size ≤ b := by
  rcases h with rfl | h
  · omega
  · have := Option.some.inj h
    simp at this
    omega

set_option maxRecDepth 100000 in
set_option maxHeartbeats 8000000 in
theorem refWalk_any (w : World) (v : Value) (es : List EdgeV) (hE : RdE w v es) (u : Value) (l : List ByteArray) (hr : RdS w u l) (hlen : l.length + 1 ≤ 8796093022208) :
    Calls Tryd.prog 63 #[v, u] w (RkPost w (wkF (lookT es) rootW l) l.length) := by
  obtain ⟨i3, hi3, hz30, hz31, hz32⟩ := info_parts info3
  obtain ⟨i4, hi4, hz40, hz41, hz42⟩ := info_parts info4
  obtain ⟨A, c, rfl, h1, h2, h3⟩ := hr
  have hcm : c ≤ 9223372036854775807 := maxLen_eq ▸ h2
  have HR := Lib.hid h3
  have HE := Lib.hid hE
  obtain ⟨Ae, ce, rfl, _⟩ := hE
  obtain ⟨n, hn⟩ : ∃ n, l.length = n := ⟨_, rfl⟩
  have HL := Lib.hid hn
  rw [hn] at h1 hlen ⊢
  obtain ⟨⟨⟨r1, r2⟩, r3⟩, hRR⟩ : ∃ R, wkF (lookT es) rootW l = R := ⟨_, rfl⟩
  have HRR := Lib.hid hRR
  rw [hRR]
  clear h2 h3 hn hRR
  go_enter Tryd.func63, Tryd.ntmps63
  go_wp2_with fail
  have HS0 : Hid (RkS w (lookT es) ((r1, r2), r3) 0 l (((w.alloc (.cells #[.int .i64 1] 3)).alloc (.cells #[.bool true] 4)).alloc (.cells #[.slice (some ⟨w.heap.size, 0, none⟩) 1 1, .slice (some ⟨w.heap.size + 1, 0, none⟩) 1 1] 112))) := by
    refine Lib.hid ⟨.slice (some ⟨w.heap.size, 0, none⟩) 1 1, .slice (some ⟨w.heap.size + 1, 0, none⟩) 1 1, rootW, ⟨?_, ?_, ?_, ?_, ?_, ?_⟩, by simp [rootW], by simp [rootW], HRR.out, (((Below.refl _ _).alloc (Nat.le_refl _) _).alloc (by simp) _).alloc (by simp; omega) _⟩
    · simpa using heap_alloc_new ((w.alloc (.cells #[.int .i64 1] 3)).alloc (.cells #[.bool true] 4)) (.cells #[.slice (some ⟨w.heap.size, 0, none⟩) 1 1, .slice (some ⟨w.heap.size + 1, 0, none⟩) 1 1] 112)
    · refine ⟨rfl, .inr ⟨w.heap.size, 1, #[.int .i64 1], rfl, Nat.le_refl _, ?_, Nat.le_refl _, by simp [maxLen], rfl, rfl⟩⟩
      exact (Below.heap_alloc _ _ _ (by simp; omega)).trans ((Below.heap_alloc _ _ _ (by simp)).trans (heap_alloc_new w _))
    · refine ⟨rfl, .inr ⟨w.heap.size + 1, 1, #[.bool true], rfl, by omega, ?_, Nat.le_refl _, by simp [maxLen], rfl, rfl⟩⟩
      refine (Below.heap_alloc _ _ _ (by simp)).trans ?_
      simpa using heap_alloc_new (w.alloc (.cells #[.int .i64 1] 3)) (.cells #[.bool true] 4)
    · intro g e; have := Option.some.inj e; simp at this; omega
    · intro g e; have := Option.some.inj e; simp at this; omega
    · intro g e k; have := Option.some.inj e; have := Option.some.inj k; simp at *; omega
  go_loopw [7] (fun v7 wr => ∃ i : Nat, i ≤ n ∧ v7 = .int .i64 i ∧ Hid (RkS w (lookT es) ((r1, r2), r3) i (l.drop i) wr)) (fun v7 _ => n - (intOf v7).toNat)
  case atStart => exact ⟨0, by omega, rfl, HS0⟩
  case round =>
    clear HS0
    obtain ⟨i, hi, rfl, HX⟩ := hrel
    obtain ⟨vI, vS, way, hW, h0, hwl, hwk, hbel⟩ := HX.out
    clear HX
    by_cases hil : i < n
    · obtain ⟨g, off, rfl, hgw, hh⟩ := HR.out (by rw [HL.out]; omega)
      obtain ⟨s, hs⟩ : ∃ s, l[i]? = some s := ⟨_, List.getElem?_eq_getElem (by rw [HL.out]; exact hil)⟩
      have hdr : l.drop i = s :: l.drop (i + 1) := by
        have := List.getElem?_eq_some_iff.1 hs
        rw [List.drop_eq_getElem_cons this.1, this.2]
      rw [hdr, wkF] at hwk
      have e0 := cell_below hbel (hh i s hs)
      have hge := Nat.lt_of_lt_of_le hgw hbel.size
      have HW := Lib.hid hW
      have HBEL := Lib.hid hbel
      have HWK := Lib.hid hwk
      have HLA := Lib.hid (last_any wr _ _ _ _ way hW h0 (by omega))
      clear hh hs hdr hW hbel hwk
      go_wp2_with fail
      refine HLA.out.mono ?_
      rintro e w2 ⟨rfl, hb2⟩
      have e0 := (hb2.cell hge).trans e0
      have hge := Nat.lt_of_lt_of_le hge hb2.size
      have HW2 := Lib.hid (HW.out.below hb2)
      have HB2 := Lib.hid (below_lift HBEL.out hb2)
      clear HLA HW HBEL hb2
      obtain ⟨gI, cI, gS, cS, rfl, rfl, i1, i2, s1, s2, gl, gl2, cc, dd, bI, bS⟩ := HW2.out.ends h0
      obtain ⟨⟨z1, z2⟩, hz⟩ : ∃ z, way.getLastD (0, false) = z := ⟨_, rfl⟩
      have hwk := HWK.out
      rw [hz] at hwk cc dd ⊢
      simp only at hwk cc dd
      have d0 := cell_of_row _ _ 0 _ _ _ HW2.out.box
      have d1 := cell_of_row _ _ 1 _ _ _ HW2.out.box
      have f0 := frozen_of_row _ _ 0 _ _ HW2.out.box
      have f1 := frozen_of_row _ _ 1 _ _ HW2.out.box
      simp only [List.getElem?_toArray, List.getElem?_cons_zero, List.getElem?_cons_succ] at d0 d1
      have hlb := heap_lt HW2.out.box
      have hw0 : 0 < way.length := List.length_pos_iff.2 h0
      clear HWK hz
      cases z2
      · rw [if_pos rfl] at hwk
        injection hwk with k1 k2
        subst k2
        clear k1
        go_wp2_with fail
        go_returns
        exact ⟨HB2.out, by rw [if_neg (show ¬ (144 : Int) = 0 by decide)]; rfl⟩
      · rw [if_neg (by simp)] at hwk
        by_cases hs1 : s = dot1
        · subst hs1
          rw [if_pos rfl] at hwk
          have HX := Lib.hid (show RkS w (lookT es) ((r1, r2), r3) (i + 1) (l.drop (i + 1)) w2 from ⟨_, _, way, HW2.out, h0, by omega, hwk, HB2.out⟩)
          unfold dot1 at e0
          clear hwk HW2 HB2 cc dd
          go_wp2_with fail
          all_goals exact ⟨⟨i + 1, by omega, by go_num, HX⟩, by simp [intOf]; omega⟩
        · rw [if_neg hs1] at hwk
          by_cases hs2 : s = dot2
          · subst hs2
            rw [if_pos rfl] at hwk
            unfold dot2 at e0
            rcases Nat.lt_or_ge 1 way.length with h1w | h1w
            · obtain ⟨m, hm⟩ : ∃ m, way.length = m + 1 + 1 := ⟨way.length - 2, by omega⟩
              have hmI : (way.map (·.1)).length = m + 1 + 1 := by rw [List.length_map, hm]
              have hmS : (way.map (·.2)).length = m + 1 + 1 := by rw [List.length_map, hm]
              have hW2 := HW2.out
              rw [hm] at hW2
              have hW3 := (hW2.popI hmI).popS hmS
              rw [← List.map_dropLast, ← List.map_dropLast] at hW3
              have hdl : way.take (max 1 (way.length - 1)) = way.dropLast := by rw [List.dropLast_eq_take, Nat.max_eq_right (by omega)]
              rw [hdl] at hwk
              have HX := Lib.hid (show RkS w (lookT es) ((r1, r2), r3) (i + 1) (l.drop (i + 1)) _ from ⟨_, _, way.dropLast, hW3, fun e => by have := congrArg List.length e; simp [hm] at this, by rw [List.length_dropLast]; omega, hwk, (HB2.out.setCell (p := ⟨w.heap.size + 1 + 1, 0, none⟩) (by show w.heap.size ≤ w.heap.size + 1 + 1; omega) _).setCell (p := ⟨w.heap.size + 1 + 1, 1, none⟩) (by show w.heap.size ≤ w.heap.size + 1 + 1; omega) _⟩)
              rw [hm] at d0 d1 i1 s1 hwl
              clear hwk HW2 HB2 cc dd hW2 hW3 hmI hmS hdl h1w hw0
              go_wp2_with fail
              all_goals exact ⟨⟨i + 1, by omega, by go_num, HX⟩, by simp [intOf]; omega⟩
            · have hm : way.length = 1 := by omega
              have hX := show RkS w (lookT es) ((r1, r2), r3) (i + 1) (l.drop (i + 1)) w2 from ⟨_, _, way, HW2.out, h0, by omega, by rw [hm, List.take_of_length_le (by rw [hm]; decide)] at hwk; exact hwk, HB2.out⟩
              have HX := Lib.hid hX
              rw [hm] at *
              clear hX hwk HW2 HB2 cc dd
              go_wp2_with fail
              all_goals exact ⟨⟨i + 1, by omega, by go_num, HX⟩, by simp [intOf]; omega⟩
          · rw [if_neg hs2] at hwk
            have q1 : (s.toList == [46]) = false := ne_lit hs1
            have q2 : (s.toList == [46, 46]) = false := ne_lit hs2
            have HWK := Lib.hid hwk
            have hw1 : IntKind.i64.wrap ((way.length : Int) - 1) = (way.length : Int) - 1 := IntWalk.i64_in _ (by omega)
            clear hwk hs1 hs2 dd
            go_wp2_with fail
            have HB3 := Lib.hid HB2.out.drew
            have HW3 := Lib.hid (HW2.out.below (Below.refl _ _).drew)
            have d0 : w2.drew.cell? ⟨w.heap.size + 1 + 1, 0, none⟩ = some (.slice (some ⟨gI, 0, none⟩) way.length cI) := d0
            have cc : w2.drew.cell? ⟨gI, way.length - 1, none⟩ = some (.int .i64 z1) := cc
            have e0 : w2.drew.cell? ⟨g, off + i, none⟩ = some (.string s) := e0
            have hlb : w.heap.size + 1 + 1 < w2.drew.heap.size := hlb
            have gl : gI < w2.drew.heap.size := gl
            have hge : g < w2.drew.heap.size := hge
            clear HB2 HW2 d1 f0 f1
            first
              | go_region_held (fun W' => W'.cell? ⟨w.heap.size + 1 + 1, 0, none⟩ = some (.slice (some ⟨gI, 0, none⟩) way.length cI) ∧ W'.cell? ⟨gI, way.length - 1, none⟩ = some (.int .i64 z1) ∧ W'.cell? ⟨g, off + i, none⟩ = some (.string s)) (exact ⟨d0, cc, e0⟩)
                  (first
                    | (go_at_call 49; refine (refLook_any _ _ es (HE.out.below HB3.out) z1 s).mono ?_; rintro e w3 ⟨rfl, hb3⟩; have d0 := (hb3.cell hlb).trans d0; have cc := (hb3.cell gl).trans cc; have e0 := (hb3.cell hge).trans e0))
              | fail
            have HW4 := Lib.hid (HW3.out.below hb3)
            have HB4 := Lib.hid (below_lift HB3.out hb3)
            clear hb3 HW3 HB3 cc e0 gl hge hw1
            obtain ⟨⟨x1, x2⟩, hX⟩ : ∃ X, lookT es z1 s = X := ⟨_, rfl⟩
            have hwk := HWK.out
            rw [hX] at hwk ⊢
            simp only at hwk ⊢
            clear hX HWK
            by_cases hx : x1 < 1
            · rw [if_pos hx] at hwk
              injection hwk with k1 k2
              subst k2
              clear k1
              go_wp2_with fail
              go_returns
              exact ⟨HB4.out, by rw [if_neg (show ¬ (143 : Int) = 0 by decide)]; rfl⟩
            · rw [if_neg hx] at hwk
              have HWK := Lib.hid hwk
              have hlb := heap_lt HW4.out.box
              have d0 := cell_of_row _ _ 0 _ _ _ HW4.out.box
              have d1 := cell_of_row _ _ 1 _ _ _ HW4.out.box
              have f0 := frozen_of_row _ _ 0 _ _ HW4.out.box
              have f1 := frozen_of_row _ _ 1 _ _ HW4.out.box
              simp only [List.getElem?_toArray, List.getElem?_cons_zero, List.getElem?_cons_succ] at d0 d1
              have hrI := HW4.out.rI
              rw [List.length_map] at hrI
              have HRI := Lib.hid hrI
              have hsz4 := HB4.out.size
              clear hwk hrI
              go_wp2_with (first | (at_builtin; refine wpList_append_own_at _ rfl _ _ 109 rfl w.heap.size 3 i3 (.int .i64 0) 1 8 Tryd.underlying109 hi3 hz30 hz31 hz32 rfl (by decide) _ way.length _ rfl (HRI.out.alloc _) ⟨w3.heap.size, 0, none⟩ 1 1 [.int .i64 x1] rfl rfl (World.news_of_block (cs := #[.int .i64 x1]) (t := 3) (fr := (0, 0)) (heap_alloc_new w3 _)) (by simp [Value.oneCell']) (by rw [maxLen_eq]; omega) (by omega) (by simp; omega) ?_; intro v5 w5 hown5 hg5 _ hloc5; obtain ⟨A5, c5, rfl⟩ := own_form hown5; obtain ⟨hbx5, hW6, hch6⟩ := HW4.out.pushI (by rw [List.length_map]; exact hown5) hg5 hloc5; have H6 := Lib.hid (And.intro hW6 (hch6.below _ hsz4 (fun b hb h => by have := rk_low h bI; omega))); have hrS := hW6.rS; rw [List.length_map] at hrS; have HRS := Lib.hid hrS; have hsz6 := (H6.out.2).size; have d0 := cell_of_row _ _ 0 _ _ _ hbx5; have d1 := cell_of_row _ _ 1 _ _ _ hbx5; have f0 := frozen_of_row _ _ 0 _ _ hbx5; have f1 := frozen_of_row _ _ 1 _ _ hbx5; have hlb5 := heap_lt hbx5; simp only [List.getElem?_toArray, List.getElem?_cons_zero, List.getElem?_cons_succ] at d0 d1; clear hown5 hg5 hloc5 hbx5 hW6 hch6 hrS) | (at_builtin; refine wpList_append_own_at _ rfl _ _ 110 rfl w.heap.size 4 i4 (.bool false) 1 1 Tryd.underlying110 hi4 hz40 hz41 hz42 rfl (by decide) _ way.length _ rfl (HRS.out.alloc _) ⟨w5.heap.size, 0, none⟩ 1 1 [.bool x2] rfl rfl (World.news_of_block (cs := #[.bool x2]) (t := 4) (fr := (0, 0)) (by simpa using heap_alloc_new (w5.setCell ⟨w.heap.size + 1 + 1, 0, none⟩ (.slice A5 (way.length + 1) c5)) (.cells #[.bool x2] 4))) (by simp [Value.oneCell']) (by rw [maxLen_eq]; omega) (by omega) (by simp at hsz6 ⊢; omega) ?_; intro v7 w7 hown7 hg7 _ hloc7; obtain ⟨A7, c7, rfl⟩ := own_form hown7; obtain ⟨hbx7, hW8, hch8⟩ := H6.out.1.pushS (by rw [List.length_map]; exact hown7) hg7 hloc7; have H8 := Lib.hid (And.intro hW8 (hch8.below _ (Nat.le_trans hsz4 hsz6) (fun b hb h => by have := rk_low h bS; omega))); have d0 := cell_of_row _ _ 0 _ _ _ hbx7; have d1 := cell_of_row _ _ 1 _ _ _ hbx7; have f0 := frozen_of_row _ _ 0 _ _ hbx7; have f1 := frozen_of_row _ _ 1 _ _ hbx7; have hlb7 := heap_lt hbx7; simp only [List.getElem?_toArray, List.getElem?_cons_zero, List.getElem?_cons_succ] at d0 d1; clear hown7 hg7 hloc7 hbx7 hW8 hch8))
              have hW8 := H8.out.1
              rw [show way.map (·.1) ++ [x1] = (way ++ [(x1, x2)]).map (·.1) by simp, show way.map (·.2) ++ [x2] = (way ++ [(x1, x2)]).map (·.2) by simp] at hW8
              have HX := Lib.hid (show RkS w (lookT es) ((r1, r2), r3) (i + 1) (l.drop (i + 1)) _ from ⟨_, _, way ++ [(x1, x2)], hW8, by simp, by simp; omega, HWK.out, (HB4.out.trans H6.out.2).trans H8.out.2⟩)
              all_goals exact ⟨⟨i + 1, by omega, by go_num, HX⟩, by simp [intOf]; omega⟩
    · obtain rfl : i = n := by omega
      rw [List.drop_eq_nil_of_le (by rw [HL.out]; exact Nat.le_refl _), wkF] at hwk
      injection hwk with k1 k2
      subst k2
      have HW := Lib.hid hW
      have HB := Lib.hid hbel
      clear hW hbel
      go_wp2_with fail
      go_returns
      exact ⟨HB.out, by rw [if_pos rfl]; exact ⟨_, _, _, way, rfl, HW.out, h0, hwl, k1⟩⟩

end Go.Proofs.YtpombeiabgbpiaaDoor
