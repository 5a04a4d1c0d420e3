/-
makes: Load, Copy, New.
-/
import Derived.Test.YtfljnfmocmhhdaaWBegin
namespace Go.Proofs.Ytfljnfmocmhhdaa
open Go.RowKit Go.Shelf

theorem setRun_in64 {f : Nat → Int} (h : In64 f) (o : Nat) (p : Int) : ∀ k, In64 (setRun f o p k)
  | 0 => h
  | k + 1 => fun i hi => by
    simp only [setRun, upd]
    split
    · exact wrap64_range _
    · exact setRun_in64 h o p k i hi
theorem loadUp_in64 : ∀ (l : List Run) (f g : Nat → Int), In64 f → loadUp l f = some g → In64 g
  | [], f, g, h, e => by simp only [loadUp, Option.some.injEq] at e; subst e; exact h
  | x :: l, f, g, h, e => by
    rw [loadUp] at e
    by_cases hb : bad x
    · rw [if_pos hb] at e; cases e
    · rw [if_neg hb] at e
      exact loadUp_in64 l _ g (setRun_in64 h _ _ _) e
theorem zero_in64 : In64 (fun _ => 0) := fun i _ => by
  show (-9223372036854775808 : Int) ≤ 0 ∧ (0 : Int) ≤ 9223372036854775807
  omega

section
variable {w W Wk : World} {g : Nat} {r q : Nat → Nat} {f : Nat → Nat → Int} {lb : Nat → Nat → Nat}
theorem St.stored (h : St w 3 g r q f lb W) {d r' q' : Nat} {f' : Nat → Int} {lb' : Nat → Nat} (hd : d < 3) (hb : Below W.heap.size W Wk) (ht : TreeI Wk r' f' lb') (hr : RefT Wk q' f') (h64 : In64 f')
    (hl : ∀ b, lb' b ≠ 0 → W.heap.size ≤ b ∧ b ≠ q') (hq : W.heap.size ≤ q') :
    St w 3 g (upd r d r') (upd q d q') (upd f d f') (upd lb d lb') ((Wk.setCell ⟨g, d, none⟩ (.pointer (some ⟨r', 0, none⟩))).setCell ⟨g, 3 + d, none⟩ (.pointer (some ⟨q', 0, none⟩))) := by
  have hg := heap_lt h.blk
  have hk := h.below hb
  have hc : Chg (fun b => b = g) Wk ((Wk.setCell ⟨g, d, none⟩ (.pointer (some ⟨r', 0, none⟩))).setCell ⟨g, 3 + d, none⟩ (.pointer (some ⟨q', 0, none⟩))) :=
    ((Chg.refl (fun b => b = g) Wk).setCell (p := ⟨g, d, none⟩) (fun _ => rfl) _).setCell (p := ⟨g, 3 + d, none⟩) (fun _ => rfl) _
  refine h.put (fun i hi _ => hi) ((Chg.of_below (fun b => b = g) hb).trans hc (fun _ _ e => e)) ?_ (ht.chg hc ?_) (hr.chg hc (by omega)) h64 hl hq
  · rw [heap_setCell_same _ g (3 + d) _ _ _ (heap_setCell_same Wk g d _ _ _ hk.blk), ← opt_some, ← opt_some, bothC_setp _ _ d hd, bothC_setq _ _ d hd]
    rw [bothC_congr (fun i hi => some3_upd3 r d _ hd i hi) (fun i hi => some3_upd3 q d _ hd i hi)]
  · intro b hb' e
    have := hl b hb'
    omega
theorem St.stored_q (h : St w 3 g r q f lb W) {d : Nat} (hd : d < 3) (v : Value) : (W.setCell ⟨g, d, none⟩ v).cell? ⟨g, 3 + d, none⟩ = some (.pointer (some ⟨q d, 0, none⟩)) := by
  rw [World.cell?_setCell_other _ _ _ _ (by intro e; injection e with _ e; omega)]
  exact h.cell_q d hd
theorem St.stored_f (h : St w 3 g r q f lb W) (d o : Nat) (v : Value) : (W.setCell ⟨g, d, none⟩ v).frozen? ⟨g, o, none⟩ = false :=
  frozen_of_row _ g o _ _ (heap_setCell_same W g d _ _ _ h.blk)
end

theorem below_lift {a b c : World} (h : Below a.heap.size a b) (k : Below b.heap.size b c) : Below a.heap.size a c :=
  h.trans ⟨k.os, k.tape, k.output, k.size, fun x hx => k.block x (Nat.lt_of_lt_of_le hx h.size)⟩
theorem cell_below {w w' : World} {b o : Nat} {v : Value} (hb : Below w.heap.size w w') (h : w.cell? ⟨b, o, none⟩ = some v) : w'.cell? ⟨b, o, none⟩ = some v := cell_chg (Chg.of_below (fun _ => False) hb) h (fun e => e)
theorem cellsR_one (l : List Run) : ∀ u ∈ cellsR l, u.oneCell' = true := by
  intro u hu
  simp only [cellsR, List.mem_flatMap] at hu
  obtain ⟨x, _, hx⟩ := hu
  simp only [List.mem_cons, List.not_mem_nil, or_false] at hx
  rcases hx with rfl | rfl | rfl <;> rfl

set_option maxRecDepth 100000 in
set_option maxHeartbeats 4000000 in
theorem makes_any (w W : World) (g : Nat) (r q : Nat → Nat) (f : Nat → Nat → Int) (lb : Nat → Nat → Nat) (h : St w 3 g r q f lb W) (K D O V : Int) (A : Option Addr) (n c : Nat) (l : List Run) (hl : RdR W A n c l) :
    Calls Try.prog 62 #[.pointer (some ⟨g, 0, none⟩), .agg #[.int .i64 K, .int .i64 D, .int .i64 O, .int .i64 V, .slice A n c]] W fun e W' => e = .returned (.bool true) ∧ ∃ r' q' f' lb', St w 3 g r' q' f' lb' W' := by
  obtain ⟨i0, hi, hz0, hz1, hz2⟩ := info_parts info66
  have H := Lib.hid h
  have HL := Lib.hid hl
  have hn := hl.2.2.2.1
  have hln := hl.1
  clear h hl
  go_enter Try.func62, Try.ntmps62
  obtain ⟨W1, hW1⟩ : ∃ X, W.alloc (.cells #[.int .i64 K, .int .i64 D, .int .i64 O, .int .i64 V, .slice A n c] 78) = X := ⟨_, rfl⟩
  obtain ⟨hb, b0, b1, b2, b3, b4, hs⟩ := box5 _ _ _ _ _ _ _ _ hW1
  have hd := plc_lt D
  have HP := Lib.hid (place_any D)
  have HB1 := Lib.hid hb
  have hs1 : W.heap.size < W1.heap.size := by omega
  go_wp2_with (rw [hW1])
  refine (HP.out _).mono ?_
  rintro e w' ⟨rfl, rfl⟩
  generalize plc D = d at *
  clear hW1 hb b1 b2 hs HP
  go_wp2_with fail
  refine (new_tree W1).mono ?_
  rintro e W2 ⟨rfl, ht2, hb2, hs2⟩
  go_wp2_with fail
  refine (ref_new_tree W2).mono ?_
  rintro e W3 ⟨rfl, hr3, hb3, hs3⟩
  replace b0 := cell_below hb3 (cell_below hb2 b0)
  replace b3 := cell_below hb3 (cell_below hb2 b3)
  replace b4 := cell_below hb3 (cell_below hb2 b4)
  have HT3 := Lib.hid (ht2.below hb3)
  have HR3 := Lib.hid hr3
  have HB3 := Lib.hid (below_lift HB1.out (below_lift hb2 hb3))
  have hy2 : W1.heap.size + 2 ≤ W2.heap.size := by omega
  have hy3 : W2.heap.size < W3.heap.size := by omega
  clear ht2 hr3 hb2 hb3 hs2 hs3
  have hk : K = 6 ∨ K = 7 ∨ (K ≠ 6 ∧ K ≠ 7) := by omega
  rcases hk with rfl | rfl | ⟨h1, h2⟩
  · have HS3 := Lib.hid (H.out.below HB3.out)
    have HX3 := Lib.hid (HL.out.below HB3.out)
    rcases A with _ | ad
    · obtain ⟨hc0, hn0⟩ : c = 0 ∧ n = 0 := by
        obtain ⟨_, h1, _, _, h0 | ⟨_, _, h0, _⟩⟩ := HL.out
        · exact ⟨h0, by omega⟩
        · cases h0
      subst hc0
      subst hn0
      go_wp2_with fail
      have HX4 := HX3
      have HI4 := HX3
      have HB4 := HB3
      clear HX3 HB3 HT3 HR3 HS3
      refine (load_any l _ 0 _ _ HI4.out).mono ?_
      rintro e W5 ⟨hb5, hlo⟩
      have HB5 := Lib.hid (below_lift HB4.out hb5)
      have HI5 := Lib.hid (HI4.out.below hb5)
      have HX5 := Lib.hid (HX4.out.below hb5)
      have hz5 := HB4.out.size
      replace b4 := cell_below hb5 b4
      clear HB4 HI4 HX4 hb5
      rcases hlo with ⟨hno, rfl⟩ | ⟨f5, r5, lb5, hso, rfl, ht5, hl5⟩
      · go_wp2_with fail
        refine (ref_load l _ 0 _ _ HX5.out).mono ?_
        rintro e W6 ⟨hb6, hlo2⟩
        have HB6 := Lib.hid (below_lift HB5.out hb6)
        have HSR := Lib.hid (sameRuns_yes l _ _ 0 _ _ W6 (HI5.out.below hb6) (HX5.out.below hb6))
        replace b4 := cell_below hb6 b4
        obtain ⟨_, rfl⟩ | ⟨f6, q6, hso, _⟩ := hlo2
        · clear hb6 HB5 HI5 HX5
          go_wp2_with fail
          refine HSR.out.mono ?_
          rintro e W7 ⟨rfl, hb7⟩
          have HZ := Lib.hid (H.out.below (below_lift HB6.out hb7))
          clear hb7
          go_wp2_with fail
          go_ret
          exact ⟨rfl, _, _, _, _, HZ.out⟩
        · rw [hno] at hso
          cases hso
      · have HT5 := Lib.hid ht5
        have HL5 := Lib.hid hl5
        have HSO := Lib.hid hso
        clear ht5 hl5 hso
        go_wp2_with fail
        refine (ref_load l _ 0 _ _ HX5.out).mono ?_
        rintro e W6 ⟨hb6, hlo2⟩
        have HB6 := Lib.hid (below_lift HB5.out hb6)
        have HSR := Lib.hid (sameRuns_yes l _ _ 0 _ _ W6 (HI5.out.below hb6) (HX5.out.below hb6))
        have HT6 := Lib.hid (HT5.out.below hb6)
        replace b4 := cell_below hb6 b4
        obtain ⟨hno, _⟩ | ⟨f6, q6, hso, rfl, hr6, hq6⟩ := hlo2
        · rw [HSO.out] at hno
          cases hno
        · obtain rfl : f5 = f6 := by
            have := HSO.out.symm.trans hso
            simpa using this
          have HR6 := Lib.hid hr6
          have H64 := Lib.hid (loadUp_in64 _ _ _ zero_in64 hso)
          have HLB : Hid (∀ b, lb5 b ≠ 0 → W.heap.size ≤ b ∧ b ≠ q6) := fun b hb => by
            have h1 := HL5.out b hb
            have h2 := HT5.out.dom b hb
            omega
          have hq : W.heap.size ≤ q6 := by
            have := HB5.out.size
            omega
          clear hb6 HB5 HI5 HX5 hr6 HL5 HT5 HSO hso
          go_wp2_with fail
          refine HSR.out.mono ?_
          rintro e W7 ⟨rfl, hb7⟩
          have HB7 := Lib.hid (below_lift HB6.out hb7)
          have HT7 := Lib.hid (HT6.out.below hb7)
          have HR7 := Lib.hid (HR6.out.below hb7)
          clear hb7 HB6 HT6 HR6
          have HE := Lib.hid (H.out.stored hd HB7.out HT7.out HR7.out H64.out HLB.out hq)
          have HS4 := Lib.hid (H.out.below HB7.out)
          have p0 := HS4.out.cell_p d hd
          have f0 := HS4.out.free d
          have p1 := HS4.out.stored_q hd (.pointer (some ⟨r5, 0, none⟩))
          have f1 := HS4.out.stored_f d (3 + d) (.pointer (some ⟨r5, 0, none⟩))
          go_wp2_with fail
          go_ret
          exact ⟨rfl, _, _, _, _, HE.out⟩
    · obtain ⟨_, hnc, _, _, _⟩ := HL.out
      have HNEWS : Hid (∀ j u, (cellsR l)[j]? = some u → W3.cell? (ad.add j) = some u) := fun j u hj => by
        obtain ⟨_, _, _, _, h0 | ⟨b, off, e, hh⟩⟩ := HX3.out
        · have hl0 := cellsR_len l
          have hj2 := (List.getElem?_eq_some_iff.1 hj).1
          omega
        · injection e with e
          subst e
          rw [Go.WideShapes.add_plain]
          exact hh j u hj
      have HOWN : Hid (∀ v4 W4, W4.ownsRow W3.heap.size 66 3 v4 (0 + n) ([] ++ cellsR l) → ∃ A4 c4, v4 = .slice A4 n c4 ∧ RdR W4 A4 n c4 l) := fun v4 W4 ho => by
        rw [Nat.zero_add, List.nil_append, ← hln] at ho
        obtain ⟨A4, c4, e, hr, _⟩ := RdR.own ho (by omega)
        rw [hln] at e hr
        exact ⟨A4, c4, e, hr⟩
      have HGR : Hid (∀ W4, W3.grownBy W4 (Value.slice none 0 0).ownBlock → Below W3.heap.size W3 W4) := fun W4 hg => by
        refine ((Chg.refl (fun _ => False) W3).grown hg (fun k e _ => ?_)).below _ (Nat.le_refl _) (fun _ _ e => e)
        cases e
      go_wp2_with (at_builtin; refine wpList_append_own _ rfl _ _ 63 rfl W3.heap.size 66 i0 (.agg #[.int .i64 0, .int .i64 0, .int .i64 0]) 3 24 Try.underlying63 hi hz0 hz1 hz2 rfl (by decide) (.slice none 0 0) 0 [] rfl (World.ownsRow_nil _ _ _ _) ad n c (cellsR l) rfl (by rw [cellsR_len, hln]) HNEWS.out (cellsR_one l) (by simp only [maxLen]; omega) (by omega) (Nat.le_refl _) ?_; intro v4 W4 hown hgr _; obtain ⟨A4, c4, rfl, hi4⟩ := HOWN.out v4 W4 hown)
      have hb4 := HGR.out _ hgr
      have HI4 := Lib.hid hi4
      have HX4 := Lib.hid (HX3.out.below hb4)
      have HB4 := Lib.hid (below_lift HB3.out hb4)
      replace b4 := cell_below hb4 b4
      clear hown hgr hi4 hb4 HX3 HB3 HT3 HR3 HS3 HNEWS HOWN HGR
      go_wp2_with fail
      refine (load_any l _ n _ _ HI4.out).mono ?_
      rintro e W5 ⟨hb5, hlo⟩
      have HB5 := Lib.hid (below_lift HB4.out hb5)
      have HI5 := Lib.hid (HI4.out.below hb5)
      have HX5 := Lib.hid (HX4.out.below hb5)
      have hz5 := HB4.out.size
      replace b4 := cell_below hb5 b4
      clear HB4 HI4 HX4 hb5
      rcases hlo with ⟨hno, rfl⟩ | ⟨f5, r5, lb5, hso, rfl, ht5, hl5⟩
      · go_wp2_with fail
        refine (ref_load l _ n _ _ HX5.out).mono ?_
        rintro e W6 ⟨hb6, hlo2⟩
        have HB6 := Lib.hid (below_lift HB5.out hb6)
        have HSR := Lib.hid (sameRuns_yes l _ _ n _ _ W6 (HI5.out.below hb6) (HX5.out.below hb6))
        replace b4 := cell_below hb6 b4
        obtain ⟨_, rfl⟩ | ⟨f6, q6, hso, _⟩ := hlo2
        · clear hb6 HB5 HI5 HX5
          go_wp2_with fail
          refine HSR.out.mono ?_
          rintro e W7 ⟨rfl, hb7⟩
          have HZ := Lib.hid (H.out.below (below_lift HB6.out hb7))
          clear hb7
          go_wp2_with fail
          go_ret
          exact ⟨rfl, _, _, _, _, HZ.out⟩
        · rw [hno] at hso
          cases hso
      · have HT5 := Lib.hid ht5
        have HL5 := Lib.hid hl5
        have HSO := Lib.hid hso
        clear ht5 hl5 hso
        go_wp2_with fail
        refine (ref_load l _ n _ _ HX5.out).mono ?_
        rintro e W6 ⟨hb6, hlo2⟩
        have HB6 := Lib.hid (below_lift HB5.out hb6)
        have HSR := Lib.hid (sameRuns_yes l _ _ n _ _ W6 (HI5.out.below hb6) (HX5.out.below hb6))
        have HT6 := Lib.hid (HT5.out.below hb6)
        replace b4 := cell_below hb6 b4
        obtain ⟨hno, _⟩ | ⟨f6, q6, hso, rfl, hr6, hq6⟩ := hlo2
        · rw [HSO.out] at hno
          cases hno
        · obtain rfl : f5 = f6 := by
            have := HSO.out.symm.trans hso
            simpa using this
          have HR6 := Lib.hid hr6
          have H64 := Lib.hid (loadUp_in64 _ _ _ zero_in64 hso)
          have HLB : Hid (∀ b, lb5 b ≠ 0 → W.heap.size ≤ b ∧ b ≠ q6) := fun b hb => by
            have h1 := HL5.out b hb
            have h2 := HT5.out.dom b hb
            omega
          have hq : W.heap.size ≤ q6 := by
            have := HB5.out.size
            omega
          clear hb6 HB5 HI5 HX5 hr6 HL5 HT5 HSO hso
          go_wp2_with fail
          refine HSR.out.mono ?_
          rintro e W7 ⟨rfl, hb7⟩
          have HB7 := Lib.hid (below_lift HB6.out hb7)
          have HT7 := Lib.hid (HT6.out.below hb7)
          have HR7 := Lib.hid (HR6.out.below hb7)
          clear hb7 HB6 HT6 HR6
          have HE := Lib.hid (H.out.stored hd HB7.out HT7.out HR7.out H64.out HLB.out hq)
          have HS4 := Lib.hid (H.out.below HB7.out)
          have p0 := HS4.out.cell_p d hd
          have f0 := HS4.out.free d
          have p1 := HS4.out.stored_q hd (.pointer (some ⟨r5, 0, none⟩))
          have f1 := HS4.out.stored_f d (3 + d) (.pointer (some ⟨r5, 0, none⟩))
          go_wp2_with fail
          go_ret
          exact ⟨rfl, _, _, _, _, HE.out⟩
  · have hdv := plc_lt V
    have HPV := Lib.hid (place_any V)
    have HCP := Lib.hid (fun (X : World) (hX : St w 3 g r q f lb X) => copy_calls X (r (plc V)) (f (plc V)) (lb (plc V)) (hX.tree _ hdv))
    have HRC := Lib.hid (fun (X : World) (hX : St w 3 g r q f lb X) => ref_copy X (q (plc V)) (f (plc V)) (hX.ref _ hdv))
    have HS3 := Lib.hid (H.out.below HB3.out)
    have v0 := HS3.out.cell_p (plc V) hdv
    have H64 := Lib.hid (H.out.in64 (plc V) hdv)
    generalize plc V = dv at *
    go_wp2_with fail
    go_region_with (first | (go_at_call 43; refine (HPV.out _).mono ?_; rintro e X ⟨rfl, rfl⟩) | (go_at_call 47; refine (HCP.out _ (HS3.out.below ((Below.refl W3.heap.size W3).drew))).mono ?_; rintro e W4 ⟨r4, lb4, rfl, ht4, hl4, hb4⟩))
    have hb4' : Below W3.heap.size W3 W4 := (Below.refl W3.heap.size W3).drew.trans hb4
    have hl4' : ∀ b, lb4 b ≠ 0 → W3.heap.size ≤ b := hl4
    have HT4 := Lib.hid ht4
    have HS4 := Lib.hid (HS3.out.below hb4')
    have HB4 := Lib.hid (below_lift HB3.out hb4')
    have HL4 := Lib.hid hl4'
    have v1 := HS4.out.cell_q dv hdv
    have hz4 := hb4'.size
    replace b3 := cell_below hb4' b3
    clear ht4 hl4 hb4 hb4' hl4' v0 HCP
    go_wp2_with fail
    go_region_with (first | (go_at_call 43; refine (HPV.out _).mono ?_; rintro e X ⟨rfl, rfl⟩) | (go_at_call 75; refine (HRC.out _ (HS4.out.below ((Below.refl W4.heap.size W4).drew))).mono ?_; rintro e W5 ⟨rfl, hr5, hb5⟩))
    have hb5' : Below W4.heap.size W4 W5 := (Below.refl W4.heap.size W4).drew.trans hb5
    have hr5' : RefT W5 W4.heap.size (f dv) := hr5
    have HR5 := Lib.hid hr5'
    have HT5 := Lib.hid (HT4.out.below hb5')
    have HB5 := Lib.hid (below_lift HB4.out hb5')
    have HLB : Hid (∀ b, lb4 b ≠ 0 → W.heap.size ≤ b ∧ b ≠ W4.heap.size) := fun b hb => by
      have h1 := HL4.out b hb
      have h2 := HT4.out.dom b hb
      omega
    clear hr5 hr5' hb5 hb5' v1 HS4
    have HE := Lib.hid (H.out.stored hd HB5.out HT5.out HR5.out H64.out HLB.out (by omega))
    have HS4 := Lib.hid (H.out.below HB5.out)
    have p0 := HS4.out.cell_p d hd
    have f0 := HS4.out.free d
    have p1 := HS4.out.stored_q hd (.pointer (some ⟨r4, 0, none⟩))
    have f1 := HS4.out.stored_f d (3 + d) (.pointer (some ⟨r4, 0, none⟩))
    go_wp2_with fail
    go_ret
    exact ⟨rfl, _, _, _, _, HE.out⟩
  · have HLB : Hid (∀ b, lbNew W1.heap.size b ≠ 0 → W.heap.size ≤ b ∧ b ≠ W2.heap.size) := fun b hb => by
      have := lbNew_ge hb
      omega
    have HE := Lib.hid (H.out.stored hd HB3.out HT3.out HR3.out zero_in64 HLB.out (by omega))
    have HS4 := Lib.hid (H.out.below HB3.out)
    have p0 := HS4.out.cell_p d hd
    have f0 := HS4.out.free d
    have p1 := HS4.out.stored_q hd (.pointer (some ⟨W1.heap.size + 1, 0, none⟩))
    have f1 := HS4.out.stored_f d (3 + d) (.pointer (some ⟨W1.heap.size + 1, 0, none⟩))
    go_wp2_with fail
    go_ret
    exact ⟨rfl, _, _, _, _, HE.out⟩

end Go.Proofs.Ytfljnfmocmhhdaa
