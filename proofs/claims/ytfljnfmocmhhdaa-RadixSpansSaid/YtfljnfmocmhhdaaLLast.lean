/-
What the statement RadixLast computes of any script: true.
-/
import Derived.Test.YtfljnfmocmhhdaaOpen2
namespace Go.Proofs.Ytfljnfmocmhhdaa
open Go.RowKit

def plc5 (x : Int) : Nat := (x % 512).toNat
theorem plc5_lt (x : Int) : plc5 x < 512 := by unfold plc5; omega
theorem tmod5 (x : Int) : x.tmod 512 = if x < 0 ∧ x % 512 ≠ 0 then x % 512 - 512 else x % 512 := by
  rcases Int.lt_or_le x 0 with h | h
  · have e := Int.neg_tmod (-x) 512
    rw [Int.neg_neg] at e
    rw [e, Int.tmod_eq_emod_of_nonneg (by omega)]
    split <;> omega
  · rw [Int.tmod_eq_emod_of_nonneg h]
    split <;> omega
theorem place5_any (x : Int) (w : World) : Calls Try.prog 22 #[.int .i64 x, .int .i64 512] w fun e w' => e = .returned (.int .i64 (plc5 x : Nat)) ∧ w = w' := by
  have ht := tmod5 x
  have hp : ((plc5 x : Nat) : Int) = x % 512 := by unfold plc5; omega
  by_cases h : x.tmod 512 < 0
  · have hy : x.tmod 512 + 512 = (plc5 x : Nat) := by rw [hp]; split at ht <;> omega
    have hr : -512 ≤ x.tmod 512 := by split at ht <;> omega
    rw [← hy]
    clear ht hp hy
    go_enter Try.func22, Try.ntmps22
    go_wp2_with fail
    go_ret
    exact ⟨rfl, rfl⟩
  · have hy : x.tmod 512 = (plc5 x : Nat) := by rw [hp]; split at ht <;> omega
    have hr : 0 ≤ x.tmod 512 := by omega
    rw [← hy]
    clear ht hp hy h
    go_enter Try.func22, Try.ntmps22
    go_wp2_with fail
    go_ret
    exact ⟨rfl, rfl⟩

set_option maxRecDepth 100000 in
set_option maxHeartbeats 8000000 in
theorem radixLast_any (w : World) (A : Option Addr) (n c : Nat) (l : List PutV) (hr : RdT w A n c l) (O V : Int) : Calls Try.prog 5 #[.slice A n c, .int .i64 O, .int .i64 V] w fun e w' => e = .returned (.bool true) ∧ Below w.heap.size w w' := by
  have HR := Lib.hid hr
  have HLA := Lib.hid (fun (X : World) (hX : Below w.heap.size w X) => last_any X A n c l (hr.below hX))
  have HGR := Lib.hid (grown_any w A n c l hr)
  have HRL := Lib.hid (fun i (hi : i < 512) => run_last (l.take 400) i hi)
  clear hr
  go_enter Try.func5, Try.ntmps5
  go_wp2_with fail
  refine HGR.out.mono ?_
  rintro e w1 ⟨rfl, hg⟩
  obtain ⟨lb, ht, hl⟩ := hg.tree
  have HB := Lib.hid hg.bel
  have HT := Lib.hid ht
  have HL := Lib.hid hl
  clear hg ht hl HGR HR
  generalize hf : runP (l.take 400) = f at *
  generalize hla : lastP (l.take 400) = la at *
  clear hf hla
  go_wp2_with fail
  go_loopw [9, 10] (fun v9 v10 wr => ∃ k : Nat, k ≤ 512 ∧ v10 = .int .i64 k ∧ v9 = .int .i64 (cntN f k) ∧ wr = w1) (fun _ v10 _ => 512 - (intOf v10).toNat)
  case atStart => exact ⟨0, by omega, rfl, rfl, rfl⟩
  case round =>
    obtain ⟨k, hk, rfl, rfl, rfl⟩ := hrel
    have hcl : cntN f k ≤ k := by
      clear HLA HRL HB HT HL
      induction k with
      | zero => exact Nat.le_refl _
      | succ k ih => rw [cntN_succ]; have := ih (by omega); split <;> omega
    by_cases hlt : k < 512
    · have hfl := HRL.out k hlt
      have hsc := cntN_succ f k
      generalize cntN f k = cn at *
      generalize hc2 : cntN f (k + 1) = cn2 at *
      have HC2 := Lib.hid hc2
      clear hc2
      have HLK := Lib.hid (HLA.out wr HB.out k)
      have HGT := Lib.hid (get_any wr _ f lb HT.out k hlt)
      rw [hfl] at HGT hsc
      generalize la k = lk at *
      clear hfl
      by_cases hz : lk = 0
      · subst hz
        have HSC := Lib.hid hsc
        clear hsc
        go_wp2_with fail
        refine HLK.out.mono ?_
        rintro e X ⟨rfl, rfl⟩
        go_wp2_with fail
        refine HGT.out.mono ?_
        rintro e X ⟨rfl, rfl⟩
        go_wp2_with fail
        go_roundw
        case rel => exact ⟨k + 1, by omega, by go_num, by rw [HC2.out, HSC.out]; simp, trivial⟩
        case measure => simp [intOf]; omega
      · have hz1 : (lk != 0) = true := by simpa using hz
        rw [if_neg hz] at hsc
        have HSC := Lib.hid hsc
        clear hsc
        go_wp2_with fail
        refine HLK.out.mono ?_
        rintro e X ⟨rfl, rfl⟩
        go_wp2_with fail
        refine HGT.out.mono ?_
        rintro e X ⟨rfl, rfl⟩
        go_wp2_with fail
        go_roundw
        case rel => exact ⟨k + 1, by omega, by go_num, by rw [HC2.out, HSC.out]; simp, trivial⟩
        case measure => simp [intOf]; omega
    · obtain rfl : 512 = k := by omega
      have HLE := Lib.hid (len_any wr _ f lb HT.out)
      have HG1 := Lib.hid (get_out wr (w.heap.size + 1) (-1) (.inl (by omega)))
      have HG2 := Lib.hid (get_out wr (w.heap.size + 1) 512 (.inr (by omega)))
      have HPL := Lib.hid (place5_any O wr)
      have hd := plc5_lt O
      generalize plc5 O = d at *
      have HSE := Lib.hid (set_any wr _ f lb HT.out d hd V)
      have hfl := HRL.out d hd
      have HLD := Lib.hid (fun (X : World) (hX : Below w.heap.size w X) => HLA.out X hX d)
      change Hid (Calls Try.prog 24 _ wr fun e w' => e = .returned (.int .i64 (cntN f 512 : Nat)) ∧ wr = w') at HLE
      generalize cntN f 512 = cn at *
      rw [hfl] at HSE
      generalize la d = ld at *
      clear hfl HRL HLA
      go_wp2_with fail
      refine HLE.out.mono ?_
      rintro e X ⟨rfl, rfl⟩
      go_wp2_with fail
      refine HG1.out.mono ?_
      rintro e X ⟨rfl, rfl⟩
      go_wp2_with fail
      refine HG2.out.mono ?_
      rintro e X ⟨rfl, rfl⟩
      go_wp2_with fail
      refine HPL.out.mono ?_
      rintro e X ⟨rfl, rfl⟩
      go_wp2_with fail
      refine HSE.out.mono ?_
      rintro e X ⟨rfl, lb2, ht2, hx2, hc2⟩
      have HB2 : Hid (Below w.heap.size w X) := HB.out.trans (hc2.below _ HB.out.size (fun b hb e => by have := HL.out b e; omega))
      have HG3 := get_any X _ _ lb2 ht2 d hd
      rw [upd_same] at HG3
      have HG4 := Lib.hid HG3
      clear HG3 ht2 hx2 hc2
      go_wp2_with fail
      refine (HLD.out X HB2.out).mono ?_
      rintro e Y ⟨rfl, rfl⟩
      go_wp2_with fail
      refine HG4.out.mono ?_
      rintro e Y ⟨rfl, rfl⟩
      go_wp2_with fail
      go_ret
      exact ⟨rfl, HB2.out⟩

theorem RadixLast.walk (W : World) (v0 : Value) (o0 : Puts W v0) (O : Int) (_wO : (Lit.int .i64 O).wf = true) (V : Int) (_wV : (Lit.int .i64 V).wf = true) : Calls Try.prog 5 #[v0, .int .i64 O, .int .i64 V] W fun e w' => e = .returned (.bool true) ∧ Below W.heap.size W w' := by
  obtain ⟨A, n, c, l, rfl, hr⟩ := o0
  exact radixLast_any W A n c l hr O V

end Go.Proofs.Ytfljnfmocmhhdaa
