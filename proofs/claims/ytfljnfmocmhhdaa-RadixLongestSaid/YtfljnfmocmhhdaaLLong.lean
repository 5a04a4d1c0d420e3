/-
What the statement RadixLongest computes of any script: true.
-/
import Derived.Test.YtfljnfmocmhhdaaRunsGood
import Derived.Test.YtfljnfmocmhhdaaOpen2
namespace Go.Proofs.Ytfljnfmocmhhdaa
open Go.RowKit

theorem sumC_take (f : Nat → Int) (K : Nat) : ∀ (L : List Run), (∀ x ∈ L, GoodR f K x) → ∀ i, 0 ≤ sumC (L.take i) ∧ sumC (L.take i) ≤ sumC L
  | [], _, i => by simp [sumC]
  | x :: L, h, 0 => by
    have := (sumC_take f K L (fun y hy => h y (by simp [hy])) 0).2
    obtain ⟨o, c, _, h2, _, _, _⟩ := (h x (by simp)).nat
    simp [sumC] at this ⊢
    omega
  | x :: L, h, i + 1 => by
    obtain ⟨h1, h2⟩ := sumC_take f K L (fun y hy => h y (by simp [hy])) i
    obtain ⟨o, c, _, h3, _, _, _⟩ := (h x (by simp)).nat
    simp only [List.take_succ_cons, sumC]
    omega

/-- behind i runs -/
structure LgI (w : World) (r : Nat) (f : Nat → Int) (lb : Nat → Nat) (A : Option Addr) (m c : Nat) (L : List Run) (W : World) : Prop where
  tree : TreeI W r f lb
  row : RdR W A m c L
  bel : Below w.heap.size w W
theorem LgI.below {w : World} {r : Nat} {f : Nat → Int} {lb : Nat → Nat} {A : Option Addr} {m c : Nat} {L : List Run} {W W' : World} (h : LgI w r f lb A m c L W) (hb : Below W.heap.size W W') : LgI w r f lb A m c L W' :=
  ⟨h.tree.below hb, h.row.below hb, h.bel.trans ⟨hb.os, hb.tape, hb.output, hb.size, fun x hx => hb.block x (Nat.lt_of_lt_of_le hx h.bel.size)⟩⟩

theorem box3 (w : World) (v0 v1 v2 : Value) (t : TypeId) (W : World) (hW : w.alloc (.cells #[v0, v1, v2] t) = W) :
    Below w.heap.size w W ∧ W.cell? ⟨w.heap.size, 0, none⟩ = some v0 ∧ W.cell? ⟨w.heap.size, 1, none⟩ = some v1 ∧ W.cell? ⟨w.heap.size, 2, none⟩ = some v2 := by
  subst hW
  have h := heap_alloc_new w (.cells #[v0, v1, v2] t)
  refine ⟨(Below.refl _ _).alloc (Nat.le_refl _) _, ?_, ?_, ?_⟩ <;> rw [cell_of_row _ _ _ _ _ _ h] <;> rfl

theorem RdR.at3 {w : World} {b off n c : Nat} {l : List Run} (h : RdR w (some ⟨b, off, none⟩) n c l) (hp : 0 < n) {i : Nat} {x : Run} (hi : l[i]? = some x) :
    w.cell? ⟨b, off + i * 3, none⟩ = some (.int .i64 x.1) ∧ w.cell? ⟨b, off + i * 3 + 1, none⟩ = some (.int .i64 x.2.1) ∧ w.cell? ⟨b, off + i * 3 + 2, none⟩ = some (.int .i64 x.2.2) := by
  obtain ⟨b', off', e, hh⟩ := h.at_ hp
  injection e with e
  injection e with e1 e2
  subst e1 e2
  exact hh i x hi

set_option maxRecDepth 100000 in
set_option maxHeartbeats 8000000 in
theorem radixLongest_any (w : World) (A : Option Addr) (n c : Nat) (l : List PutV) (hr : RdT w A n c l) : Calls Try.prog 8 #[.slice A n c] w fun e w' => e = .returned (.bool true) ∧ Below w.heap.size w w' := by
  have HLA := Lib.hid (fun (X : World) (hX : Below w.heap.size w X) => last_any X A n c l (hr.below hX))
  have HGR := Lib.hid (grown_any w A n c l hr)
  have HRL := Lib.hid (fun i (hi : i < 512) => run_last (l.take 400) i hi)
  have H64 := Lib.hid (runP_in64 (l.take 400) (fun p hp => (hr.2.2.2.1 p (List.mem_of_mem_take hp)).2))
  clear hr
  go_enter Try.func8, Try.ntmps8
  go_wp2_with fail
  refine HGR.out.mono ?_
  rintro e w1 ⟨rfl, hg⟩
  obtain ⟨lb, ht, hl⟩ := hg.tree
  have HB := Lib.hid hg.bel
  have HT := Lib.hid ht
  clear hg ht hl HGR
  generalize hf : runP (l.take 400) = f at *
  generalize hla : lastP (l.take 400) = la at *
  clear hf hla
  go_wp2_with fail
  refine (runs_calls w1 _ f lb HT.out).mono ?_
  rintro e w2 ⟨v1, rfl, ho1, hb1⟩
  have hrl := runs_len f
  have HG := Lib.hid (runs_good f H64.out 512 (Nat.le_refl _))
  generalize runsOf (items f 0 0 512) = L at *
  obtain ⟨A1, c1, rfl, hr1, _⟩ := RdR.own ho1 (by omega)
  have hcap := hr1.2.1
  have hcap2 := hr1.2.2.1
  have HS0 : Hid (LgI w (w.heap.size + 1) f lb A1 L.length c1 L w2) := ⟨HT.out.below hb1, hr1, HB.out.trans ⟨hb1.os, hb1.tape, hb1.output, hb1.size, fun x hx => hb1.block x (Nat.lt_of_lt_of_le hx HB.out.size)⟩⟩
  have hsum := HG.out.sum
  have hcn : cntN f 512 ≤ 512 := cntI_le f
  clear ho1 hb1 hr1 HT HB
  obtain ⟨m, hm⟩ : ∃ m, L.length = m := ⟨_, rfl⟩
  rw [hm] at HS0 hcap hrl ⊢
  go_wp2_with fail
  go_loopw [6, 7] (fun v6 v7 wr => ∃ i : Nat, i ≤ m ∧ v7 = .int .i64 i ∧ v6 = .int .i64 (sumC (L.take i)) ∧ Hid (LgI w (w.heap.size + 1) f lb A1 m c1 L wr)) (fun _ v7 _ => m - (intOf v7).toNat)
  case atStart => exact ⟨0, by omega, rfl, rfl, HS0⟩
  case round =>
    clear HS0
    obtain ⟨i, hi, rfl, rfl, HS⟩ := hrel
    by_cases hlt : i < m
    · obtain ⟨x, hx⟩ : ∃ x, L[i]? = some x := ⟨_, List.getElem?_eq_getElem (by omega)⟩
      obtain ⟨b, off, rfl, hcl⟩ := HS.out.row.at_ (by omega)
      obtain ⟨d0, d1, d2⟩ := hcl i x hx
      have hts := take_succ_get L i x hx
      have hsn := sumC_snoc (L.take i) x
      rw [← hts] at hsn
      have hs1 := sumC_take f 512 L HG.out.each i
      have hs2 := sumC_take f 512 L HG.out.each (i + 1)
      obtain ⟨on, cn, e1, e2, g1, g2, g3⟩ := (HG.out.each x (List.mem_of_getElem? hx)).nat
      have hnext : 0 < i → ∃ y, L[i - 1]? = some y ∧ Apart2 y x ∧ GoodR f 512 y := fun h0 => by
        obtain ⟨y, hy⟩ : ∃ y, L[i - 1]? = some y := ⟨_, List.getElem?_eq_getElem (by omega)⟩
        exact ⟨y, hy, HG.out.next (i - 1) y x hy (by rw [show i - 1 + 1 = i by omega]; exact hx), HG.out.each y (List.mem_of_getElem? hy)⟩
      obtain ⟨o, p, q⟩ := x
      simp only at d0 d1 d2 e1 e2 g3 hsn
      subst e1
      subst e2
      have HSN := Lib.hid hsn
      have hsb : 0 ≤ sumC (L.take i) ∧ sumC (L.take i) + (cn : Int) ≤ 512 := by omega
      have HNX := Lib.hid hnext
      have HG3 := Lib.hid g3
      have HCL := Lib.hid hcl
      clear hsn hs1 hs2 hts hx hnext g3 hcl
      generalize sumC (L.take i) = s at *
      generalize hs3 : sumC (L.take (i + 1)) = s3 at *
      have HS3 := Lib.hid hs3
      clear hs3
      obtain ⟨W1, hW1⟩ : ∃ X, wr.alloc (.cells #[.int .i64 (on : Int), .int .i64 p, .int .i64 (cn : Int)] 66) = X := ⟨_, rfl⟩
      obtain ⟨hb1, b0, b1, b2⟩ := box3 _ _ _ _ _ _ hW1
      have HS1 := Lib.hid (HS.out.below hb1)
      go_wp2_with (rw [hW1])
      clear hW1 hb1 d0 d1 d2 HS
      obtain ⟨gB, hgB⟩ : ∃ gB, wr.heap.size = gB := ⟨_, rfl⟩
      rw [hgB] at b0 b1 b2 ⊢
      clear hgB
      have HJ0 : Hid (LgI w (w.heap.size + 1) f lb (some ⟨b, off, none⟩) m c1 L W1 ∧ W1.cell? ⟨gB, 0, none⟩ = some (.int .i64 (on : Int)) ∧ W1.cell? ⟨gB, 1, none⟩ = some (.int .i64 p) ∧ W1.cell? ⟨gB, 2, none⟩ = some (.int .i64 (cn : Int))) := ⟨HS1.out, b0, b1, b2⟩
      clear b0 b1 b2 HS1
      clear HCL
      go_loopw [9] (fun v9 wr => ∃ j : Nat, j ≤ cn ∧ v9 = .int .i64 j ∧ Hid (LgI w (w.heap.size + 1) f lb (some ⟨b, off, none⟩) m c1 L wr ∧ wr.cell? ⟨gB, 0, none⟩ = some (.int .i64 (on : Int)) ∧ wr.cell? ⟨gB, 1, none⟩ = some (.int .i64 p) ∧ wr.cell? ⟨gB, 2, none⟩ = some (.int .i64 (cn : Int)))) (fun v9 _ => cn - (intOf v9).toNat)
      case atStart => exact ⟨0, by omega, rfl, HJ0⟩
      case round =>
        clear HJ0
        obtain ⟨j, hj, rfl, HJ⟩ := hrel
        obtain ⟨hjI, b0, b1, b2⟩ := HJ.out
        by_cases hjl : j < cn
        · have h3 := HG3.out j hjl
          have hgv : getV f ((on : Int) + (j : Int)) = wrap64 (p + (j : Int)) := by
            unfold getV
            rw [if_pos (show inO ((on : Int) + (j : Int)) from ⟨by omega, by omega⟩), show ((on : Int) + (j : Int)).toNat = on + j by omega]
            exact h3.1
          have HGT : Hid (∀ nq, Calls Try.prog 23 #[.pointer (some ⟨w.heap.size + 1, 0, none⟩), .int .i64 ((on : Int) + (j : Int))] (wr.drewN nq) fun e w'' => e = .returned (.int .i64 (wrap64 (p + (j : Int)))) ∧ ∃ m, w'' = wr.drewN m) := fun nq => by
            have := get_q wr _ f lb hjI.tree ((on : Int) + (j : Int)) nq
            rwa [hgv] at this
          have e2 : (wrap64 (p + (j : Int)) == 0) = false := by
            have := h3.2
            rw [h3.1] at this
            simpa using this
          have HE : Hid (∀ nq, LgI w (w.heap.size + 1) f lb (some ⟨b, off, none⟩) m c1 L (wr.drewN nq) ∧ (wr.drewN nq).cell? ⟨gB, 0, none⟩ = some (.int .i64 (on : Int)) ∧ (wr.drewN nq).cell? ⟨gB, 1, none⟩ = some (.int .i64 p) ∧ (wr.drewN nq).cell? ⟨gB, 2, none⟩ = some (.int .i64 (cn : Int))) := fun nq => ⟨hjI.below (drewN_below wr nq), b0, b1, b2⟩
          clear hjI HJ h3 hgv
          go_wp2_with fail
          go_quiet (exact HGT.out _)
          go_wp2_with fail
          go_roundw
          case rel => exact ⟨j + 1, by omega, by go_num, HE.out _⟩
          case measure => simp [intOf]; omega
        · obtain rfl : j = cn := by omega
          have HI := Lib.hid hjI
          have HE : Hid (sumC (L.take (i + 1)) = s + (j : Int)) := Lib.hid (by rw [HS3.out, HSN.out])
          clear HS3 HSN HG3 HJ
          by_cases h0 : 0 < i
          · obtain ⟨y, hy, hap, hgy⟩ := HNX.out h0
            obtain ⟨d0, d1, d2⟩ := hjI.row.at3 (by omega) hy
            obtain ⟨on2, cn2, q1, q2, q3, q4, _⟩ := hgy.nat
            obtain ⟨o2, p2, c2⟩ := y
            simp only at d0 d1 d2 q1 q2
            subst q1
            subst q2
            obtain ⟨r1, r2⟩ := hap
            simp only at r1 r2
            obtain ⟨W3, hW3⟩ : ∃ X, wr.alloc (.cells #[.int .i64 (on2 : Int), .int .i64 p2, .int .i64 (cn2 : Int)] 66) = X := ⟨_, rfl⟩
            obtain ⟨hb3, k0, k1, k2⟩ := box3 _ _ _ _ _ _ hW3
            have b0' := cell_below hb3 b0
            have b1' := cell_below hb3 b1
            have HI3 := Lib.hid (hjI.below hb3)
            have hcc : (on2 : Int) + (cn2 : Int) < (on : Int) ∨ ((on2 : Int) + (cn2 : Int) = (on : Int) ∧ wrap64 (p2 + (cn2 : Int)) ≠ p) := by
              rcases Int.lt_or_eq_of_le r1 with h | h
              · exact .inl h
              · exact .inr ⟨h, fun e => r2 ⟨h, e⟩⟩
            clear hjI hb3 HI HNX hy r1 r2 hgy
            rcases hcc with h4 | ⟨h4, h5⟩
            · have e3 : ((on2 : Int) + (cn2 : Int) == (on : Int)) = false := by simp; omega
              go_wp2_with (rw [hW3])
              go_roundw
              case rel => exact ⟨i + 1, by omega, by go_num, by rw [HE.out], HI3⟩
              case measure => simp [intOf]; omega
            · have e3 : ((on2 : Int) + (cn2 : Int) == (on : Int)) = true := by simp; omega
              have e4 : (wrap64 (p2 + (cn2 : Int)) == p) = false := by simpa using h5
              have h6 : ¬ (on : Int) < (on2 : Int) + (cn2 : Int) := by omega
              have H4 := Lib.hid h4
              clear h4 h5
              go_wp2_with (rw [hW3])
              go_roundw
              case rel => exact ⟨i + 1, by omega, by go_num, by rw [HE.out], HI3⟩
              case measure => simp [intOf]; omega
          · clear HNX hjI
            go_wp2_with fail
            go_roundw
            case rel => exact ⟨i + 1, by omega, by go_num, by rw [HE.out], HI⟩
            case measure => simp [intOf]; omega
    · obtain rfl : m = i := by omega
      have hst : sumC (L.take m) = (cntN f 512 : Nat) := by rw [List.take_of_length_le (by omega), hsum]
      have HLI := Lib.hid HS.out
      have HLE := Lib.hid (len_any wr _ f lb HS.out.tree)
      change Hid (Calls Try.prog 24 _ wr fun e w' => e = .returned (.int .i64 (cntN f 512 : Nat)) ∧ wr = w') at HLE
      rw [hst]
      clear hst HS hsum HG
      go_wp2_with fail
      obtain ⟨w5, hw5⟩ : ∃ w5, wr = w5 := ⟨_, rfl⟩
      rw [hw5] at HLI HLE ⊢
      clear hw5
      go_loopw [11, 12] (fun v11 v12 wr => ∃ k : Nat, k ≤ 512 ∧ v12 = .int .i64 k ∧ v11 = .int .i64 (cntN f k) ∧ wr = w5) (fun _ v12 _ => 512 - (intOf v12).toNat)
      case atStart => exact ⟨0, by omega, rfl, rfl, rfl⟩
      case round =>
        obtain ⟨k, hk, rfl, rfl, rfl⟩ := hrel
        have hcl : cntN f k ≤ k := by
          clear HLA HRL H64 HLI HLE hcn
          induction k with
          | zero => exact Nat.le_refl _
          | succ k ih => rw [cntN_succ]; have := ih (by omega); split <;> omega
        by_cases hlt2 : k < 512
        · have hfl := HRL.out k hlt2
          have hsc := cntN_succ f k
          rw [hfl] at hsc
          have HLK := Lib.hid (HLA.out wr HLI.out.bel k)
          clear hfl
          generalize cntN f k = cn at *
          generalize hc2 : cntN f (k + 1) = cn2 at *
          have HC2 := Lib.hid hc2
          clear hc2
          generalize la k = lk at *
          by_cases hz : lk = 0
          · subst hz
            have HSC := Lib.hid hsc
            clear hsc
            go_wp2_with fail
            refine HLK.out.mono ?_
            rintro e X ⟨rfl, rfl⟩
            go_wp2_with fail
            go_roundw
            case rel => exact ⟨k + 1, by omega, by go_num, by rw [HC2.out, HSC.out]; simp, trivial⟩
            case measure => simp [intOf]; omega
          · have hz1 : (lk != 0) = true := by simpa using hz
            rw [if_neg hz] at hsc
            have HSC := Lib.hid hsc
            clear hsc
            go_wp2_with fail
            refine HLK.out.mono ?_
            rintro e X ⟨rfl, rfl⟩
            go_wp2_with fail
            go_roundw
            case rel => exact ⟨k + 1, by omega, by go_num, by rw [HC2.out, HSC.out]; simp, trivial⟩
            case measure => simp [intOf]; omega
        · obtain rfl : 512 = k := by omega
          generalize cntN f 512 = cn at *
          go_wp2_with fail
          refine HLE.out.mono ?_
          rintro e X ⟨rfl, rfl⟩
          go_wp2_with fail
          go_ret
          exact ⟨rfl, HLI.out.bel⟩

theorem RadixLongest.walk (W : World) (v0 : Value) (o0 : Puts W v0) : Calls Try.prog 8 #[v0] W fun e w' => e = .returned (.bool true) ∧ Below W.heap.size W w' := by
  obtain ⟨A, n, c, l, rfl, hr⟩ := o0
  exact radixLongest_any W A n c l hr

end Go.Proofs.Ytfljnfmocmhhdaa
