/-
What the statement RadixRound computes of any script: true.
-/
import Derived.Test.YtfljnfmocmhhdaaWApp
import Derived.Test.YtfljnfmocmhhdaaOpen2
import Derived.Deep.AppendLies
import Derived.Deep.DeepCutAuto
import Derived.Deep.CutBlock
namespace Go.Proofs.Ytfljnfmocmhhdaa
open Go.RowKit

theorem own_form {w : World} {B n : Nat} {e : TypeId} {s : Nat} {v : Value} {xs : List Value} (h : w.ownsRow B e s v n xs) : (v = .slice none 0 0 ∧ n = 0) ∨ ∃ g cap, v = .slice (some ⟨g, 0, none⟩) n cap := by
  rcases h.2 with ⟨rfl, h1⟩ | ⟨g, cap, cur, rfl, _⟩
  · exact .inl ⟨rfl, h1⟩
  · exact .inr ⟨g, cap, rfl⟩
theorem cellsR_take (L : List Run) (y j : Nat) (u : Value) (h : (cellsR (L.take y))[j]? = some u) : (cellsR L)[j]? = some u := by
  have e : cellsR L = cellsR (L.take y) ++ cellsR (L.drop y) := by rw [← cellsR_append, List.take_append_drop]
  rw [e, List.getElem?_append_left (List.getElem?_eq_some_iff.1 h).1]
  exact h
theorem cellsR_drop (L : List Run) (y j : Nat) (u : Value) (hy : y ≤ L.length) (h : (cellsR (L.drop y))[j]? = some u) : (cellsR L)[y * 3 + j]? = some u := by
  have e : cellsR L = cellsR (L.take y) ++ cellsR (L.drop y) := by rw [← cellsR_append, List.take_append_drop]
  have hl : (cellsR (L.take y)).length = y * 3 := by rw [cellsR_len, List.length_take, Nat.min_eq_left hy]
  rw [e, List.getElem?_append_right (by omega), hl, Nat.add_sub_cancel_left]
  exact h

theorem below_grown {B : Nat} {W W3 : World} {v : Value} {n s : Nat} {e : TypeId} {xs : List Value} {o : Obj} (ho : W.ownsRow B e s v n xs) (hB : B ≤ W.heap.size) (hg : (W.alloc o).grownBy W3 v.ownBlock) : Below B W W3 :=
  (((Chg.refl (fun b => v.ownBlock = some b) W).alloc o).grown hg (fun k e _ => e)).below _ hB (fun b hb e => by have := (ho.lt _ e).1; omega)
theorem below_grown0 {B : Nat} {W W3 : World} {v : Value} {n s : Nat} {e : TypeId} {xs : List Value} (ho : W.ownsRow B e s v n xs) (hB : B ≤ W.heap.size) (hg : W.grownBy W3 v.ownBlock) : Below B W W3 :=
  ((Chg.refl (fun b => v.ownBlock = some b) W).grown hg (fun k e _ => e)).below _ hB (fun b hb e => by have := (ho.lt _ e).1; omega)

theorem RdR.takeS {w : World} {A : Option Addr} {n c y : Nat} {L : List Run} (h : RdR w A n c L) (hA : A = none → c = 0) (hy : y ≤ n) : SrcV w A y c 3 (cellsR (L.take y)) := by
  obtain ⟨h1, h2, h3, h4, h5⟩ := h
  refine ⟨by rw [cellsR_len, List.length_take, h1, Nat.min_eq_left hy], fun e => ⟨by have := hA e; omega, hA e⟩, fun ad e j u hj => ?_⟩
  rcases h5 with h0 | ⟨b, off, e', hh⟩
  · have := (List.getElem?_eq_some_iff.1 hj).1
    rw [cellsR_len, List.length_take] at this
    omega
  · rw [e'] at e
    injection e with e
    subst e
    rw [Go.WideShapes.add_plain]
    exact hh j u (cellsR_take L y j u hj)
theorem RdR.dropS {w : World} {b off n c y : Nat} {L : List Run} (h : RdR w (some ⟨b, off, none⟩) n c L) (hy : y ≤ n) : SrcV w (some ⟨b, off + y * 3, none⟩) (n - y) (c - y) 3 (cellsR (L.drop y)) := by
  obtain ⟨h1, h2, h3, h4, h5⟩ := h
  refine ⟨by rw [cellsR_len, List.length_drop, h1], (fun e => by cases e), fun ad e j u hj => ?_⟩
  injection e with e
  subst e
  have hjl := (List.getElem?_eq_some_iff.1 hj).1
  rw [cellsR_len, List.length_drop] at hjl
  rcases h5 with h0 | ⟨b', off', e', hh⟩
  · omega
  · injection e' with e'
    injection e' with e1 e2
    subst e1 e2
    rw [Go.WideShapes.add_plain]
    have := hh (y * 3 + j) u (cellsR_drop L y j u (by omega) hj)
    rwa [← Nat.add_assoc] at this
theorem srcEnd (w : World) (A : Option Addr) (c n : Nat) (L : List Run) (h : L.length = n) (hA : A = none → c = 0) : SrcV w A 0 c 3 (cellsR (L.drop n)) := by
  rw [List.drop_of_length_le (by omega)]
  exact ⟨rfl, fun e => ⟨rfl, hA e⟩, fun _ _ j u hj => by cases hj⟩
/-- the list with a bad run in it -/
theorem round_list {W4 : World} {B q m : Nat} {L : List Run} {x y z : Int} {v6 : Value} (hy : q ≤ m) (hm : L.length = m) (hm5 : m ≤ 512)
    (ho4 : W4.ownsRow B 66 3 v6 (q + 1 + (m - q)) ((cellsR (L.take q) ++ [.int .i64 x, .int .i64 y, .int .i64 z]) ++ cellsR (L.drop q))) :
    ∃ A6 c6, v6 = .slice A6 (m + 1) c6 ∧ RdR W4 A6 (m + 1) c6 (L.take q ++ (x, y, z) :: L.drop q) := by
  have hll : (L.take q ++ (x, y, z) :: L.drop q).length = m + 1 := by simp; omega
  have hcc : (cellsR (L.take q) ++ [.int .i64 x, .int .i64 y, .int .i64 z]) ++ cellsR (L.drop q) = cellsR (L.take q ++ (x, y, z) :: L.drop q) := by rw [cellsR_append, List.append_assoc]; rfl
  rw [hcc, show q + 1 + (m - q) = m + 1 by omega, ← hll] at ho4
  obtain ⟨A6, c6, e, hr6, _⟩ := RdR.own ho4 (by omega)
  rw [hll] at e hr6
  exact ⟨A6, c6, e, hr6⟩

/-- the list in hand, while bad lists are tried -/
structure RnI (w : World) (A : Option Addr) (m c : Nat) (L : List Run) (W : World) : Prop where
  row : RdR W A m c L
  bel : Below w.heap.size w W
theorem RnI.below {w : World} {A : Option Addr} {m c : Nat} {L : List Run} {W W' : World} (h : RnI w A m c L W) (hb : Below W.heap.size W W') : RnI w A m c L W' :=
  ⟨h.row.below hb, h.bel.trans ⟨hb.os, hb.tape, hb.output, hb.size, fun x hx => hb.block x (Nat.lt_of_lt_of_le hx h.bel.size)⟩⟩

set_option maxRecDepth 100000 in
set_option maxHeartbeats 8000000 in
theorem radixRound_any (w : World) (A : Option Addr) (n c : Nat) (l : List PutV) (hr : RdT w A n c l) (at_ : Int) : Calls Try.prog 9 #[.slice A n c, .int .i64 at_] w fun e w' => e = .returned (.bool true) ∧ Below w.heap.size w w' := by
  obtain ⟨i0, hi, hz0, hz1, hz2⟩ := info_parts info66
  have HGD := Lib.hid (good_any w A n c l hr)
  have hn24 := hr.2.2.1
  have HOK := Lib.hid hr.2.2.2.1
  clear hr
  go_enter Try.func9, Try.ntmps9
  go_wp2_with fail
  refine HGD.out.mono ?_
  rintro e w1 ⟨v1, l', rfl, ho, hl', hlk, hb1⟩
  have hvals : ∀ p ∈ l', (-9223372036854775808 ≤ p.2.1 ∧ -9223372036854775808 ≤ p.2.2 ∧ p.2.2 ≤ 9223372036854775807) ∧ 0 ≤ p.2.2 ∧ p.2.2 < 1000000 := fun p hp => by
    obtain ⟨i, hi⟩ := List.getElem?_of_mem hp
    obtain ⟨q, hq, _, h2, h3, h4⟩ := hlk i p hi
    have := HOK.out q (List.mem_of_getElem? hq)
    omega
  obtain ⟨A1, c1, rfl, hr1⟩ := RdT.own ho hl' hn24 (fun p hp => (hvals p hp).1)
  have HLA := Lib.hid (fun (X : World) (hX : Below w1.heap.size w1 X) => last_any X A1 n c1 l' (hr1.below hX))
  have HGR := Lib.hid (grown_any w1 A1 n c1 l' hr1)
  have HRL := Lib.hid (fun i (hi : i < 512) => run_last (l'.take 400) i hi)
  have HRG := Lib.hid (runP_range (l'.take 400) (fun p hp => (hvals p (List.mem_of_mem_take hp)).2))
  have HB1 := Lib.hid hb1
  clear ho hb1 hr1 hlk hvals HGD HOK
  go_wp2_with fail
  refine HGR.out.mono ?_
  rintro e w2 ⟨rfl, hg⟩
  obtain ⟨lb, ht, _⟩ := hg.tree
  have HT := Lib.hid ht
  have HB2 := Lib.hid hg.bel
  clear hg ht HGR
  generalize hf : runP (l'.take 400) = f at *
  generalize hla : lastP (l'.take 400) = la at *
  clear hf hla
  go_wp2_with fail
  refine (runs_calls w2 _ f lb HT.out).mono ?_
  rintro e w3 ⟨v3, rfl, ho3, hb3⟩
  have hrl := runs_len f
  have HLR := Lib.hid (load_runs f HRG.out 512 (Nat.le_refl _))
  have HRU := Lib.hid (fun (X : World) (q : Nat) (lq : Nat → Nat) (hq : TreeI X q f lq) => runs_calls X q f lq hq)
  generalize runsOf (items f 0 0 512) = L at *
  have hform := own_form ho3
  obtain ⟨A2, c2, rfl, hr3, _⟩ := RdR.own ho3 (by omega)
  have hA2 : (A2 = none ∧ c2 = 0) ∨ ∃ g, A2 = some ⟨g, 0, none⟩ := by
    rcases hform with ⟨h, _⟩ | ⟨g, cap, h⟩
    · injection h with h1 h2 h3; exact .inl ⟨h1, h3⟩
    · injection h with h1 h2 h3; exact .inr ⟨g, h1⟩
  clear hform
  have hcap := hr3.2.1
  have hcap2 := hr3.2.2.1
  obtain ⟨m, hm⟩ : ∃ m, L.length = m := ⟨_, rfl⟩
  rw [hm] at hr3 hcap hrl ⊢
  have HB3 := Lib.hid (HB2.out.trans ⟨hb3.os, hb3.tape, hb3.output, hb3.size, fun x hx => hb3.block x (Nat.lt_of_lt_of_le hx HB2.out.size)⟩)
  have HT3 := Lib.hid (HT.out.below hb3)
  have HR3 := Lib.hid hr3
  clear ho3 hb3 hr3 HT HB2
  go_wp2_with fail
  refine (load_any L A2 m c2 w3 HR3.out).mono ?_
  rintro e w4 ⟨hb4, hlo⟩
  obtain ⟨g, hg1, hg2, _⟩ := HLR.out
  rcases hlo with ⟨h1, _⟩ | ⟨f5, r5, lb5, hso, rfl, ht5, _⟩
  · rw [hg1] at h1
    cases h1
  · obtain rfl : g = f5 := by
      have := hg1.symm.trans hso
      simpa using this
    have HT5 := Lib.hid (ht5.congr hg2)
    have HT4 := Lib.hid (HT3.out.below hb4)
    have HB4 := Lib.hid (below_lift HB3.out hb4)
    have HR4 := Lib.hid (HR3.out.below hb4)
    have HLN := Lib.hid (len_any w4 _ f _ HT5.out)
    have HLM := Lib.hid (len_any w4 _ f _ HT4.out)
    generalize cntI f = cn at *
    clear hb4 ht5 hg1 hg2 hso HLR HT3 HB3 HR3
    go_wp2_with fail
    refine HLN.out.mono ?_
    rintro e X ⟨rfl, rfl⟩
    go_wp2_with fail
    refine HLM.out.mono ?_
    rintro e X ⟨rfl, rfl⟩
    go_wp2_with fail
    refine (HRU.out w4 _ _ HT5.out).mono ?_
    rintro e w5 ⟨v5, rfl, ho5, hb5⟩
    rw [hm] at ho5
    rw [← hm] at ho5
    obtain ⟨A5, c5, rfl, hr5, _⟩ := RdR.own ho5 (by omega)
    rw [hm] at hr5 ⊢
    have HSR := Lib.hid (sameRuns_yes L A5 A2 m c5 c2 w5 hr5 (HR4.out.below hb5))
    have HT6 := Lib.hid (HT5.out.below hb5)
    have HI6 : Hid (RnI w1 A2 m c2 L w5) := ⟨HR4.out.below hb5, below_lift HB4.out hb5⟩
    clear ho5 hb5 hr5 HLN HLM HT5 HT4 HR4 HB4 HRU
    go_wp2_with fail
    refine HSR.out.mono ?_
    rintro e w6 ⟨rfl, hb6⟩
    have HT7 := Lib.hid (HT6.out.below hb6)
    have HI7 := Lib.hid (HI6.out.below hb6)
    clear hb6 HT6 HI6 HSR
    go_wp2_with fail
    go_loopw [10] (fun v10 wr => ∃ k : Nat, k ≤ 512 ∧ v10 = .int .i64 k ∧ wr = w6) (fun v10 _ => 512 - (intOf v10).toNat)
    case atStart => exact ⟨0, by omega, rfl, rfl⟩
    case round =>
      obtain ⟨k, hk, rfl, rfl⟩ := hrel
      by_cases hlt : k < 512
      · have hfl := HRL.out k hlt
        have HLK := Lib.hid (HLA.out wr HI7.out.bel k)
        have HGT := Lib.hid (get_any wr _ f _ HT7.out k hlt)
        rw [hfl] at HGT
        generalize la k = lk at *
        clear hfl
        go_wp2_with fail
        refine HGT.out.mono ?_
        rintro e X ⟨rfl, rfl⟩
        go_wp2_with fail
        refine HLK.out.mono ?_
        rintro e X ⟨rfl, rfl⟩
        go_wp2_with fail
        go_roundw
        case rel => exact ⟨k + 1, by omega, by go_num, trivial⟩
        case measure => simp [intOf]; omega
      · clear HLA HRL HT7
        go_wp2_with fail
        refine (placeM_any at_ ((m : Int) + 1) (by omega) (by omega) wr).mono ?_
        rintro e X ⟨⟨y, rfl, y0, y1⟩, rfl⟩
        obtain ⟨yn, rfl⟩ := Int.eq_ofNat_of_zero_le y0
        obtain ⟨w7, hw7⟩ : ∃ w7, wr = w7 := ⟨_, rfl⟩
        rw [hw7] at HI7 ⊢
        clear hw7
        go_wp2_with fail
        go_loopw [11] (fun v11 wr => ∃ k : Nat, k ≤ 5 ∧ v11 = .int .i64 k ∧ Hid (RnI w1 A2 m c2 L wr)) (fun v11 _ => 5 - (intOf v11).toNat)
        case atStart => exact ⟨0, by omega, rfl, HI7⟩
        case round =>
          clear HI7
          obtain ⟨k, hk, rfl, HI⟩ := hrel
          by_cases hlt5 : k < 5
          · have hyn : yn ≤ m := by omega
            have hk5 : k = 0 ∨ k = 1 ∨ k = 2 ∨ k = 3 ∨ k = 4 := by omega
            go_upto_block 4 with fail
            go_cut [74, 77, 80, 83] from 68 to 110 (fun _ _ _ _ wx => ∃ x y z : Int, Hid (bad (x, y, z)) ∧ wx = wr.alloc (.cells #[.int .i64 x, .int .i64 y, .int .i64 z] 66))
            case first =>
              rcases hk5 with e | e | e | e | e
              · have f1 : ((k : Int) == 1) = false := by rw [e]; rfl
                have f2 : ((k : Int) == 2) = false := by rw [e]; rfl
                have f3 : ((k : Int) == 3) = false := by rw [e]; rfl
                have f4 : ((k : Int) == 4) = false := by rw [e]; rfl
                clear e
                go_wp2_with fail
                go_meet
                exact ⟨510, 1, 3, Lib.hid (by simp [bad]), rfl⟩
              · have f1 : ((k : Int) == 1) = true := by rw [e]; rfl
                have f2 : ((k : Int) == 2) = false := by rw [e]; rfl
                have f3 : ((k : Int) == 3) = false := by rw [e]; rfl
                have f4 : ((k : Int) == 4) = false := by rw [e]; rfl
                clear e
                go_wp2_with fail
                go_meet
                exact ⟨5, 0, 1, Lib.hid (by simp [bad]), rfl⟩
              · have f1 : ((k : Int) == 1) = false := by rw [e]; rfl
                have f2 : ((k : Int) == 2) = true := by rw [e]; rfl
                have f3 : ((k : Int) == 3) = false := by rw [e]; rfl
                have f4 : ((k : Int) == 4) = false := by rw [e]; rfl
                clear e
                go_wp2_with fail
                go_meet
                exact ⟨5, 1, 0, Lib.hid (by simp [bad]), rfl⟩
              · have f1 : ((k : Int) == 1) = false := by rw [e]; rfl
                have f2 : ((k : Int) == 2) = false := by rw [e]; rfl
                have f3 : ((k : Int) == 3) = true := by rw [e]; rfl
                have f4 : ((k : Int) == 4) = false := by rw [e]; rfl
                clear e
                go_wp2_with fail
                go_meet
                exact ⟨-1, 1, 1, Lib.hid (by simp [bad]), rfl⟩
              · have f1 : ((k : Int) == 1) = false := by rw [e]; rfl
                have f2 : ((k : Int) == 2) = false := by rw [e]; rfl
                have f3 : ((k : Int) == 3) = false := by rw [e]; rfl
                have f4 : ((k : Int) == 4) = true := by rw [e]; rfl
                clear e
                go_wp2_with fail
                go_meet
                exact ⟨1, 1, 9223372036854775807, Lib.hid (by simp [bad]), rfl⟩
            case rest =>
              obtain ⟨x, y, z, HBAD, rfl⟩ := hcut
              obtain ⟨W1, hW1⟩ : ∃ X, wr.alloc (.cells #[.int .i64 x, .int .i64 y, .int .i64 z] 66) = X := ⟨_, rfl⟩
              obtain ⟨hb1, b0, b1, b2⟩ := box3g _ _ _ _ _ _ hW1
              have HI1 := Lib.hid (HI.out.below hb1)
              rw [hW1]
              obtain ⟨gB, hgB⟩ : ∃ gB, wr.heap.size = gB := ⟨_, rfl⟩
              have hsz1 : gB ≤ W1.heap.size := by rw [← hgB]; exact hb1.size
              rw [hgB] at b0 b1 b2 ⊢
              clear hgB hW1 hb1 HI
              rcases hA2 with ⟨rfl, rfl⟩ | ⟨gg, rfl⟩
              · obtain rfl : m = 0 := by omega
                obtain rfl : yn = 0 := by omega
                have HSA : Hid (SrcV W1 none 0 0 3 (cellsR (L.take 0))) := HI1.out.row.takeS (fun _ => rfl) (Nat.le_refl _)
                have HSB : Hid (∀ W3, Below W1.heap.size W1 W3 → SrcV W3 none (0 - 0) (0 - 0) 3 (cellsR (L.drop 0))) := fun W3 hb3 => srcEnd _ _ _ _ _ hm (fun _ => rfl)
                have HF1 : Hid (∀ v4 W2, W2.ownsRow W1.heap.size 66 3 v4 (0 + 0) ([] ++ cellsR (L.take 0)) → W1.grownBy W2 (Value.slice none 0 0).ownBlock → Hid (W2.ownsRow W1.heap.size 66 3 v4 0 (cellsR (L.take 0))) ∧ W2.cell? ⟨gB, 0, none⟩ = some (.int .i64 x) ∧ W2.cell? ⟨gB, 1, none⟩ = some (.int .i64 y) ∧ W2.cell? ⟨gB, 2, none⟩ = some (.int .i64 z) ∧ Below W1.heap.size W1 W2) := fun v4 W2 ho hg => by
                  have hb : Below W1.heap.size W1 W2 := by
                    refine ((Chg.refl (fun _ => False) W1).grown hg (fun k e _ => ?_)).below _ (Nat.le_refl _) (fun _ _ e => e)
                    cases e
                  rw [Nat.zero_add, List.nil_append] at ho
                  exact ⟨ho, cell_below hb b0, cell_below hb b1, cell_below hb b2, hb⟩
                have HF2 : Hid (∀ v4 W2, W2.ownsRow W1.heap.size 66 3 v4 0 (cellsR (L.take 0)) → Below W1.heap.size W1 W2 → ∀ v5 W3, W3.ownsRow W1.heap.size 66 3 v5 (0 + 1) (cellsR (L.take 0) ++ [.int .i64 x, .int .i64 y, .int .i64 z]) → (W2.alloc (.cells #[.int .i64 x, .int .i64 y, .int .i64 z] 66)).grownBy W3 v4.ownBlock →
                    Hid (W3.ownsRow W1.heap.size 66 3 v5 (0 + 1) (cellsR (L.take 0) ++ [.int .i64 x, .int .i64 y, .int .i64 z])) ∧ Hid (Below W1.heap.size W1 W3)) := fun v4 W2 ho2 hb2 v5 W3 ho3 hg3 => ⟨ho3, hb2.trans (below_grown ho2 hb2.size hg3)⟩
                have HF3 : Hid (∀ v5 W3 v6 W4, W3.ownsRow W1.heap.size 66 3 v5 (0 + 1) (cellsR (L.take 0) ++ [.int .i64 x, .int .i64 y, .int .i64 z]) → Below W1.heap.size W1 W3 → W4.ownsRow W1.heap.size 66 3 v6 (0 + 1 + (0 - 0)) ((cellsR (L.take 0) ++ [.int .i64 x, .int .i64 y, .int .i64 z]) ++ cellsR (L.drop 0)) → W3.grownBy W4 v5.ownBlock →
                    ∃ A6 c6, v6 = .slice A6 (0 + 1) c6 ∧ Hid (RdR W4 A6 (0 + 1) c6 (L.take 0 ++ (x, y, z) :: L.drop 0)) ∧ Hid (RnI w1 none 0 0 L W4)) := fun v5 W3 v6 W4 ho3 hb3 ho4 hg4 => by
                  have hb4 : Below W1.heap.size W1 W4 := hb3.trans (below_grown0 ho3 hb3.size hg4)
                  obtain ⟨A6, c6, e, hr6⟩ := round_list (q := 0) (by omega) hm hrl (by first | exact ho4 | (rw [Nat.sub_self]; exact ho4))
                  exact ⟨A6, c6, e, hr6, HI1.out.below hb4⟩
                go_wp2_with (first | (at_builtin; (refine wpList_append_src _ rfl _ _ 63 rfl W1.heap.size 66 i0 (.agg #[.int .i64 0, .int .i64 0, .int .i64 0]) 3 24 Try.underlying63 hi hz0 hz1 hz2 rfl (by decide) (.slice none 0 0) 0 [] rfl (World.ownsRow_nil _ _ _ _) none 0 0 (cellsR (L.take 0)) rfl HSA.out (cellsR_one _) (by simp only [maxLen]; omega) (by omega) (Nat.le_refl _) ?_); intro v4 W2 hown2 hgr2; obtain ⟨HO2, e0, e1, e2, HBW2⟩ := HF1.out v4 W2 hown2 hgr2; clear hown2 hgr2; have hs2 := HBW2.size) | (at_builtin; (refine wpList_append_own _ rfl _ _ 63 rfl W1.heap.size 66 i0 (.agg #[.int .i64 0, .int .i64 0, .int .i64 0]) 3 24 Try.underlying63 hi hz0 hz1 hz2 rfl (by decide) v4 0 (cellsR (L.take 0)) rfl (HO2.out.alloc _) ⟨W2.heap.size, 0, none⟩ 1 1 [.int .i64 x, .int .i64 y, .int .i64 z] rfl rfl (World.news_of_block (cs := #[.int .i64 x, .int .i64 y, .int .i64 z]) (t := 66) (fr := (0, 0)) (heap_alloc_new W2 _)) (by simp [Value.oneCell']) (by simp only [maxLen]; omega) (by omega) (by simp; omega) ?_); intro v5 W3 hown3 hgr3 _; obtain ⟨HO3, HB3'⟩ := HF2.out v4 W2 HO2.out HBW2 v5 W3 hown3 hgr3; clear hown3 hgr3) | (at_builtin; (refine wpList_append_src _ rfl _ _ 63 rfl W1.heap.size 66 i0 (.agg #[.int .i64 0, .int .i64 0, .int .i64 0]) 3 24 Try.underlying63 hi hz0 hz1 hz2 rfl (by decide) v5 (0 + 1) (cellsR (L.take 0) ++ [.int .i64 x, .int .i64 y, .int .i64 z]) rfl HO3.out none (0 - 0) (0 - 0) (cellsR (L.drop 0)) (by first | rfl | (simp only [Nat.sub_self]; rfl)) (HSB.out W3 HB3'.out) (cellsR_one _) (by simp only [maxLen]; omega) (by omega) (HB3'.out.size) ?_); intro v6 W4 hown4 hgr4; obtain ⟨A6, c6, rfl, HR6, HI4⟩ := HF3.out v5 W3 v6 W4 HO3.out HB3'.out hown4 hgr4; clear hown4 hgr4))
                all_goals
                  refine (load_any _ A6 (0 + 1) c6 W4 HR6.out).mono ?_
                  rintro e W5 ⟨hb5, hlo⟩
                  have HE : Hid (RnI w1 none 0 0 L W5) := HI4.out.below hb5
                  rcases hlo with ⟨_, rfl⟩ | ⟨_, _, _, h1, _⟩
                  · clear hb5
                    go_wp2_with fail
                    go_roundw
                    all_goals first
                      | exact ⟨k + 1, by omega, by go_num, HE⟩
                      | exact ⟨_, k + 1, by omega, by go_num, HE⟩
                      | (simp [intOf]; omega)
                      | ((repeat apply Exists.intro); exact ⟨⟨k + 1, by omega, by go_num, HE⟩, rfl⟩)
                  · rw [load_bad _ _ _ HBAD.out] at h1
                    cases h1
              · by_cases hc : c2 = yn
                · obtain rfl : m = yn := by omega
                  obtain rfl : m = c2 := by omega
                  have HSA : Hid (SrcV W1 (some ⟨gg, 0, none⟩) m m 3 (cellsR (L.take m))) := HI1.out.row.takeS (fun e => by cases e) (Nat.le_refl _)
                  have HSB : Hid (∀ W3, Below W1.heap.size W1 W3 → SrcV W3 (some ⟨gg, 0, none⟩) (0) (0) 3 (cellsR (L.drop m))) := fun W3 hb3 => srcEnd _ _ _ _ _ hm (fun e => by cases e)
                  have HF1 : Hid (∀ v4 W2, W2.ownsRow W1.heap.size 66 3 v4 (0 + m) ([] ++ cellsR (L.take m)) → W1.grownBy W2 (Value.slice none 0 0).ownBlock → Hid (W2.ownsRow W1.heap.size 66 3 v4 m (cellsR (L.take m))) ∧ W2.cell? ⟨gB, 0, none⟩ = some (.int .i64 x) ∧ W2.cell? ⟨gB, 1, none⟩ = some (.int .i64 y) ∧ W2.cell? ⟨gB, 2, none⟩ = some (.int .i64 z) ∧ Below W1.heap.size W1 W2) := fun v4 W2 ho hg => by
                    have hb : Below W1.heap.size W1 W2 := by
                      refine ((Chg.refl (fun _ => False) W1).grown hg (fun k e _ => ?_)).below _ (Nat.le_refl _) (fun _ _ e => e)
                      cases e
                    rw [Nat.zero_add, List.nil_append] at ho
                    exact ⟨ho, cell_below hb b0, cell_below hb b1, cell_below hb b2, hb⟩
                  have HF2 : Hid (∀ v4 W2, W2.ownsRow W1.heap.size 66 3 v4 m (cellsR (L.take m)) → Below W1.heap.size W1 W2 → ∀ v5 W3, W3.ownsRow W1.heap.size 66 3 v5 (m + 1) (cellsR (L.take m) ++ [.int .i64 x, .int .i64 y, .int .i64 z]) → (W2.alloc (.cells #[.int .i64 x, .int .i64 y, .int .i64 z] 66)).grownBy W3 v4.ownBlock →
                      Hid (W3.ownsRow W1.heap.size 66 3 v5 (m + 1) (cellsR (L.take m) ++ [.int .i64 x, .int .i64 y, .int .i64 z])) ∧ Hid (Below W1.heap.size W1 W3)) := fun v4 W2 ho2 hb2 v5 W3 ho3 hg3 => ⟨ho3, hb2.trans (below_grown ho2 hb2.size hg3)⟩
                  have HF3 : Hid (∀ v5 W3 v6 W4, W3.ownsRow W1.heap.size 66 3 v5 (m + 1) (cellsR (L.take m) ++ [.int .i64 x, .int .i64 y, .int .i64 z]) → Below W1.heap.size W1 W3 → W4.ownsRow W1.heap.size 66 3 v6 (m + 1 + 0) ((cellsR (L.take m) ++ [.int .i64 x, .int .i64 y, .int .i64 z]) ++ cellsR (L.drop m)) → W3.grownBy W4 v5.ownBlock →
                      ∃ A6 c6, v6 = .slice A6 (m + 1) c6 ∧ Hid (RdR W4 A6 (m + 1) c6 (L.take m ++ (x, y, z) :: L.drop m)) ∧ Hid (RnI w1 (some ⟨gg, 0, none⟩) m m L W4)) := fun v5 W3 v6 W4 ho3 hb3 ho4 hg4 => by
                    have hb4 : Below W1.heap.size W1 W4 := hb3.trans (below_grown0 ho3 hb3.size hg4)
                    obtain ⟨A6, c6, e, hr6⟩ := round_list (q := m) (by omega) hm hrl (by first | exact ho4 | (rw [Nat.sub_self]; exact ho4))
                    exact ⟨A6, c6, e, hr6, HI1.out.below hb4⟩
                  go_wp2_with (first | (at_builtin; (refine wpList_append_src _ rfl _ _ 63 rfl W1.heap.size 66 i0 (.agg #[.int .i64 0, .int .i64 0, .int .i64 0]) 3 24 Try.underlying63 hi hz0 hz1 hz2 rfl (by decide) (.slice none 0 0) 0 [] rfl (World.ownsRow_nil _ _ _ _) (some ⟨gg, 0, none⟩) m m (cellsR (L.take m)) rfl HSA.out (cellsR_one _) (by simp only [maxLen]; omega) (by omega) (Nat.le_refl _) ?_); intro v4 W2 hown2 hgr2; obtain ⟨HO2, e0, e1, e2, HBW2⟩ := HF1.out v4 W2 hown2 hgr2; clear hown2 hgr2; have hs2 := HBW2.size) | (at_builtin; (refine wpList_append_own _ rfl _ _ 63 rfl W1.heap.size 66 i0 (.agg #[.int .i64 0, .int .i64 0, .int .i64 0]) 3 24 Try.underlying63 hi hz0 hz1 hz2 rfl (by decide) v4 m (cellsR (L.take m)) rfl (HO2.out.alloc _) ⟨W2.heap.size, 0, none⟩ 1 1 [.int .i64 x, .int .i64 y, .int .i64 z] rfl rfl (World.news_of_block (cs := #[.int .i64 x, .int .i64 y, .int .i64 z]) (t := 66) (fr := (0, 0)) (heap_alloc_new W2 _)) (by simp [Value.oneCell']) (by simp only [maxLen]; omega) (by omega) (by simp; omega) ?_); intro v5 W3 hown3 hgr3 _; obtain ⟨HO3, HB3'⟩ := HF2.out v4 W2 HO2.out HBW2 v5 W3 hown3 hgr3; clear hown3 hgr3) | (at_builtin; (refine wpList_append_src _ rfl _ _ 63 rfl W1.heap.size 66 i0 (.agg #[.int .i64 0, .int .i64 0, .int .i64 0]) 3 24 Try.underlying63 hi hz0 hz1 hz2 rfl (by decide) v5 (m + 1) (cellsR (L.take m) ++ [.int .i64 x, .int .i64 y, .int .i64 z]) rfl HO3.out (some ⟨gg, 0, none⟩) 0 (0) (cellsR (L.drop m)) (by first | rfl | (simp only [Nat.sub_self]; rfl)) (HSB.out W3 HB3'.out) (cellsR_one _) (by simp only [maxLen]; omega) (by omega) (HB3'.out.size) ?_); intro v6 W4 hown4 hgr4; obtain ⟨A6, c6, rfl, HR6, HI4⟩ := HF3.out v5 W3 v6 W4 HO3.out HB3'.out hown4 hgr4; clear hown4 hgr4))
                  all_goals
                    refine (load_any _ A6 (m + 1) c6 W4 HR6.out).mono ?_
                    rintro e W5 ⟨hb5, hlo⟩
                    have HE : Hid (RnI w1 (some ⟨gg, 0, none⟩) m m L W5) := HI4.out.below hb5
                    rcases hlo with ⟨_, rfl⟩ | ⟨_, _, _, h1, _⟩
                    · clear hb5
                      go_wp2_with fail
                      go_roundw
                      all_goals first
                        | exact ⟨k + 1, by omega, by go_num, HE⟩
                        | exact ⟨_, k + 1, by omega, by go_num, HE⟩
                        | (simp [intOf]; omega)
                        | ((repeat apply Exists.intro); exact ⟨⟨k + 1, by omega, by go_num, HE⟩, rfl⟩)
                    · rw [load_bad _ _ _ HBAD.out] at h1
                      cases h1
                · skip
                  have HSA : Hid (SrcV W1 (some ⟨gg, 0, none⟩) yn c2 3 (cellsR (L.take yn))) := HI1.out.row.takeS (fun e => by cases e) hyn
                  have HSB : Hid (∀ W3, Below W1.heap.size W1 W3 → SrcV W3 (some ⟨gg, yn * 3, none⟩) (m - yn) (c2 - yn) 3 (cellsR (L.drop yn))) := fun W3 hb3 => by have := (HI1.out.row.below hb3).dropS hyn; rwa [Nat.zero_add] at this
                  have HF1 : Hid (∀ v4 W2, W2.ownsRow W1.heap.size 66 3 v4 (0 + yn) ([] ++ cellsR (L.take yn)) → W1.grownBy W2 (Value.slice none 0 0).ownBlock → Hid (W2.ownsRow W1.heap.size 66 3 v4 yn (cellsR (L.take yn))) ∧ W2.cell? ⟨gB, 0, none⟩ = some (.int .i64 x) ∧ W2.cell? ⟨gB, 1, none⟩ = some (.int .i64 y) ∧ W2.cell? ⟨gB, 2, none⟩ = some (.int .i64 z) ∧ Below W1.heap.size W1 W2) := fun v4 W2 ho hg => by
                    have hb : Below W1.heap.size W1 W2 := by
                      refine ((Chg.refl (fun _ => False) W1).grown hg (fun k e _ => ?_)).below _ (Nat.le_refl _) (fun _ _ e => e)
                      cases e
                    rw [Nat.zero_add, List.nil_append] at ho
                    exact ⟨ho, cell_below hb b0, cell_below hb b1, cell_below hb b2, hb⟩
                  have HF2 : Hid (∀ v4 W2, W2.ownsRow W1.heap.size 66 3 v4 yn (cellsR (L.take yn)) → Below W1.heap.size W1 W2 → ∀ v5 W3, W3.ownsRow W1.heap.size 66 3 v5 (yn + 1) (cellsR (L.take yn) ++ [.int .i64 x, .int .i64 y, .int .i64 z]) → (W2.alloc (.cells #[.int .i64 x, .int .i64 y, .int .i64 z] 66)).grownBy W3 v4.ownBlock →
                      Hid (W3.ownsRow W1.heap.size 66 3 v5 (yn + 1) (cellsR (L.take yn) ++ [.int .i64 x, .int .i64 y, .int .i64 z])) ∧ Hid (Below W1.heap.size W1 W3)) := fun v4 W2 ho2 hb2 v5 W3 ho3 hg3 => ⟨ho3, hb2.trans (below_grown ho2 hb2.size hg3)⟩
                  have HF3 : Hid (∀ v5 W3 v6 W4, W3.ownsRow W1.heap.size 66 3 v5 (yn + 1) (cellsR (L.take yn) ++ [.int .i64 x, .int .i64 y, .int .i64 z]) → Below W1.heap.size W1 W3 → W4.ownsRow W1.heap.size 66 3 v6 (yn + 1 + (m - yn)) ((cellsR (L.take yn) ++ [.int .i64 x, .int .i64 y, .int .i64 z]) ++ cellsR (L.drop yn)) → W3.grownBy W4 v5.ownBlock →
                      ∃ A6 c6, v6 = .slice A6 (m + 1) c6 ∧ Hid (RdR W4 A6 (m + 1) c6 (L.take yn ++ (x, y, z) :: L.drop yn)) ∧ Hid (RnI w1 (some ⟨gg, 0, none⟩) m c2 L W4)) := fun v5 W3 v6 W4 ho3 hb3 ho4 hg4 => by
                    have hb4 : Below W1.heap.size W1 W4 := hb3.trans (below_grown0 ho3 hb3.size hg4)
                    obtain ⟨A6, c6, e, hr6⟩ := round_list (q := yn) (by omega) hm hrl (by first | exact ho4 | (rw [Nat.sub_self]; exact ho4))
                    exact ⟨A6, c6, e, hr6, HI1.out.below hb4⟩
                  go_wp2_with (first | (at_builtin; (refine wpList_append_src _ rfl _ _ 63 rfl W1.heap.size 66 i0 (.agg #[.int .i64 0, .int .i64 0, .int .i64 0]) 3 24 Try.underlying63 hi hz0 hz1 hz2 rfl (by decide) (.slice none 0 0) 0 [] rfl (World.ownsRow_nil _ _ _ _) (some ⟨gg, 0, none⟩) yn c2 (cellsR (L.take yn)) rfl HSA.out (cellsR_one _) (by simp only [maxLen]; omega) (by omega) (Nat.le_refl _) ?_); intro v4 W2 hown2 hgr2; obtain ⟨HO2, e0, e1, e2, HBW2⟩ := HF1.out v4 W2 hown2 hgr2; clear hown2 hgr2; have hs2 := HBW2.size) | (at_builtin; (refine wpList_append_own _ rfl _ _ 63 rfl W1.heap.size 66 i0 (.agg #[.int .i64 0, .int .i64 0, .int .i64 0]) 3 24 Try.underlying63 hi hz0 hz1 hz2 rfl (by decide) v4 yn (cellsR (L.take yn)) rfl (HO2.out.alloc _) ⟨W2.heap.size, 0, none⟩ 1 1 [.int .i64 x, .int .i64 y, .int .i64 z] rfl rfl (World.news_of_block (cs := #[.int .i64 x, .int .i64 y, .int .i64 z]) (t := 66) (fr := (0, 0)) (heap_alloc_new W2 _)) (by simp [Value.oneCell']) (by simp only [maxLen]; omega) (by omega) (by simp; omega) ?_); intro v5 W3 hown3 hgr3 _; obtain ⟨HO3, HB3'⟩ := HF2.out v4 W2 HO2.out HBW2 v5 W3 hown3 hgr3; clear hown3 hgr3) | (at_builtin; (refine wpList_append_src _ rfl _ _ 63 rfl W1.heap.size 66 i0 (.agg #[.int .i64 0, .int .i64 0, .int .i64 0]) 3 24 Try.underlying63 hi hz0 hz1 hz2 rfl (by decide) v5 (yn + 1) (cellsR (L.take yn) ++ [.int .i64 x, .int .i64 y, .int .i64 z]) rfl HO3.out (some ⟨gg, yn * 3, none⟩) (m - yn) (c2 - yn) (cellsR (L.drop yn)) (by first | rfl | (simp only [Nat.sub_self]; rfl)) (HSB.out W3 HB3'.out) (cellsR_one _) (by simp only [maxLen]; omega) (by omega) (HB3'.out.size) ?_); intro v6 W4 hown4 hgr4; obtain ⟨A6, c6, rfl, HR6, HI4⟩ := HF3.out v5 W3 v6 W4 HO3.out HB3'.out hown4 hgr4; clear hown4 hgr4))
                  all_goals
                    refine (load_any _ A6 (m + 1) c6 W4 HR6.out).mono ?_
                    rintro e W5 ⟨hb5, hlo⟩
                    have HE : Hid (RnI w1 (some ⟨gg, 0, none⟩) m c2 L W5) := HI4.out.below hb5
                    rcases hlo with ⟨_, rfl⟩ | ⟨_, _, _, h1, _⟩
                    · clear hb5
                      go_wp2_with fail
                      go_roundw
                      all_goals first
                        | exact ⟨k + 1, by omega, by go_num, HE⟩
                        | exact ⟨_, k + 1, by omega, by go_num, HE⟩
                        | (simp [intOf]; omega)
                        | ((repeat apply Exists.intro); exact ⟨⟨k + 1, by omega, by go_num, HE⟩, rfl⟩)
                    · rw [load_bad _ _ _ HBAD.out] at h1
                      cases h1
          · go_wp2_with fail
            go_ret
            exact ⟨rfl, HB1.out.trans (HI.out.bel.mono HB1.out.size)⟩

theorem RadixRound.walk (W : World) (v0 : Value) (o0 : Puts W v0) (O : Int) (_wO : (Lit.int .i64 O).wf = true) : Calls Try.prog 9 #[v0, .int .i64 O] W fun e w' => e = .returned (.bool true) ∧ Below W.heap.size W w' := by
  obtain ⟨A, n, c, l, rfl, hr⟩ := o0
  exact radixRound_any W A n c l hr O

end Go.Proofs.Ytfljnfmocmhhdaa
