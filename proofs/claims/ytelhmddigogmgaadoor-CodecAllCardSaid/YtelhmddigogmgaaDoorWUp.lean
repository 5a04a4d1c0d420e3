/-
What upTo of the statements answers: true, where each call of its kinds is answered as the document says.
-/
import Derived.Test.YtelhmddigogmgaaDoorWOp
namespace Go.Proofs.YtelhmddigogmgaaDoor
open Go.RowKit

/-- a script: records in a row, each well formed -/
def Script (w : World) (A : Option Addr) (n c : Nat) (os : List OpV) : Prop :=
  os.length = n ∧ n ≤ c ∧ n ≤ 140737488355328 ∧ (∀ o ∈ os, o.Ok ∧ o.In w) ∧ (0 < n → ∃ b off, A = some ⟨b, off, none⟩ ∧ ∀ j (h : j < os.length), w.rangeAt b (off + j * 70) os[j].cells)
theorem Script.below {w w' : World} {A : Option Addr} {n c : Nat} {os : List OpV} (h : Script w A n c os) (hb : Below w.heap.size w w') : Script w' A n c os :=
  ⟨h.1, h.2.1, h.2.2.1, fun o ho => ⟨(h.2.2.2.1 o ho).1, (h.2.2.2.1 o ho).2.below hb⟩, fun hn => by
    obtain ⟨b, off, e, hc⟩ := h.2.2.2.2 hn
    exact ⟨b, off, e, fun j hj => rangeAt_below (hc j hj) hb⟩⟩

/-- what plays answers for each call of the kinds from lo to hi -/
def Plays (lo hi : Int) : Prop := ∀ (o : OpV), o.Ok → lo ≤ o.k → o.k ≤ hi → ∀ w : World, o.In w → Tab w → Calls Tryd.prog 46 #[.agg o.cells.toArray] w fun e w' => e = .returned (.bool true) ∧ Below w.heap.size w w'

set_option maxRecDepth 100000 in
set_option maxHeartbeats 4000000 in
theorem upTo_any (lo hi : Int) (hp : Plays lo hi) (A : Option Addr) (n c : Nat) (os : List OpV) (w : World) (hs : Script w A n c os) (ht : Tab w) :
    Calls Tryd.prog 41 #[.slice A n c, .int .i64 lo, .int .i64 hi] w fun e w' => e = .returned (.bool true) ∧ Below w.heap.size w w' := by
  have hn := hs.2.2.1
  have HS := Lib.hid hs
  have HP := Lib.hid hp
  have HF := Lib.hid (fixed_any w ht)
  have HT := Lib.hid ht
  clear hs hp ht
  go_enter Tryd.func41, Tryd.ntmps41
  go_wp2_with fail
  refine HF.out.mono ?_
  rintro e w1 ⟨rfl, hb1⟩
  have HB1 := Lib.hid hb1
  clear hb1 HF
  go_wp2_with fail
  go_loopw [7, 8] (fun v7 _ wr => ∃ k : Nat, k ≤ n ∧ v7 = .int .i64 k ∧ Hid (Below w.heap.size w wr)) (fun v7 _ _ => n - (intOf v7).toNat)
  case atStart => exact ⟨0, by omega, rfl, HB1⟩
  case round =>
    clear HB1
    obtain ⟨k, hk, rfl, HB⟩ := hrel
    by_cases hlt : k < n
    · have S := HS.out.below HB.out
      have hl := S.1
      obtain ⟨b, off, rfl, hc⟩ := S.2.2.2.2 (by omega)
      have hr := hc k (by omega)
      obtain ⟨hok, hin⟩ := S.2.2.2.1 _ (List.getElem_mem (by omega : k < os.length))
      generalize os[k]'(by omega) = o at *
      have c0 : wr.cell? ⟨b, off + k * 70, none⟩ = some (.int .i64 o.k) := by
        have := hr 0 _ rfl
        simpa using this
      have hsz : (Tryd.prog.info? 73).map (·.size) = some o.cells.length := by rw [o.len hok]; exact info73
      have HR := Lib.hid hr
      have HPL := Lib.hid (fun h0 h1 => HP.out o hok h0 h1 wr hin (HT.out.below HB.out))
      clear hc S hok hin hr
      generalize hkk : o.k = kk at *
      by_cases h0 : lo ≤ kk
      · have d0 : decide (kk ≥ lo) = true := decide_eq_true h0
        by_cases h1 : kk ≤ hi
        · have d1 : decide (kk ≤ hi) = true := decide_eq_true h1
          go_wp2_with (refine wpList_load_mid rfl 73 (.tmp 35) rfl b (off + k * 70) rfl o.cells _ HR.out Tryd.underlying73 rfl hsz ?_)
          refine (HPL.out h0 h1).mono ?_
          rintro e w2 ⟨rfl, hb2⟩
          have HB2 := Lib.hid (HB.out.trans (hb2.mono HB.out.size))
          clear hb2 HB c0
          go_wp2_with fail
          go_roundw
          case rel => exact ⟨k + 1, by omega, by go_num, HB2⟩
          case measure => simp [intOf]; omega
        · have d1 : decide (kk ≤ hi) = false := decide_eq_false h1
          go_wp2_with fail
          go_roundw
          case rel => exact ⟨k + 1, by omega, by go_num, HB⟩
          case measure => simp [intOf]; omega
      · have d0 : decide (kk ≥ lo) = false := decide_eq_false h0
        go_wp2_with fail
        go_roundw
        case rel => exact ⟨k + 1, by omega, by go_num, HB⟩
        case measure => simp [intOf]; omega
    · go_wp2_with fail
      go_ret
      exact ⟨rfl, HB.out⟩

end Go.Proofs.YtelhmddigogmgaaDoor
