/-
What sameLines of the statements answers for two rows of lines that read the same: true.
-/
import Derived.Test.YtelhmddigogmgaaDoorWRefLines
namespace Go.Proofs.YtelhmddigogmgaaDoor
open Go.RowKit

/-- a row of lines, as bytes -/
def Ln (w : World) (A : Option Addr) (q : Nat) (l : List Nat) : Prop := l.length = q * 64 ∧ q ≤ 140737488355328 ∧ (∀ x ∈ l, x < 256) ∧ (0 < q → ∃ g, A = some ⟨g, 0, none⟩ ∧ w.rangeAt g 0 (vals .u8 l))
theorem Ln.below {w w' : World} {A : Option Addr} {q : Nat} {l : List Nat} (h : Ln w A q l) (hb : Below w.heap.size w w') : Ln w' A q l :=
  ⟨h.1, h.2.1, h.2.2.1, fun h0 => by obtain ⟨g, e, hr⟩ := h.2.2.2 h0; exact ⟨g, e, rangeAt_below hr hb⟩⟩
theorem Ln.own {w : World} {B q : Nat} {v : Value} {l : List Nat} (h : w.ownsRow B 33 64 v q (vals .u8 l)) (hq : q ≤ 140737488355328) (hx : ∀ x ∈ l, x < 256) : ∃ A c, v = .slice A q c ∧ Ln w A q l := by
  have hl : l.length = q * 64 := by have := h.1; rw [vals_len] at this; omega
  rcases h.2 with ⟨rfl, h0⟩ | ⟨g, cap, cur, rfl, _, hg, h1, h2, h3, h4⟩
  · subst h0
    exact ⟨none, 0, rfl, hl, hq, hx, fun h => by omega⟩
  · refine ⟨_, cap, rfl, hl, hq, hx, fun _ => ⟨g, rfl, fun j u hu => ?_⟩⟩
    have hj : j < l.length := by
      have : j < (vals .u8 l).length := (List.getElem?_eq_some_iff.1 hu).1
      rwa [vals_len] at this
    have e : (cur.toList.take (q * 64))[j]? = some u := by
      rw [show cur.toList.take (q * 64) = vals .u8 l from by simpa [Nat.mul_comm] using h4]
      exact hu
    rw [List.getElem?_take, if_pos (by omega)] at e
    simpa [World.cell?, hg] using e
theorem Ln.seg {w : World} {g k q : Nat} {l : List Nat} (h : w.rangeAt g 0 (vals .u8 l)) (_ : k < q) (_ : l.length = q * 64) : w.rangeAt g (k * 64) (vals .u8 ((l.drop (k * 64)).take 64)) := by
  intro j v hv
  have hj : j < 64 ∧ k * 64 + j < l.length := by
    have := (List.getElem?_eq_some_iff.1 hv).1
    simp [vals] at this
    omega
  have hv' : (vals .u8 l)[k * 64 + j]? = some v := by
    rw [vals_get _ _ _ hj.2, ← hv, vals_get _ _ _ (by simp; omega), nth_take _ _ _ hj.1, nth_drop]
  have := h (k * 64 + j) v hv'
  simpa using this

set_option maxRecDepth 100000 in
set_option maxHeartbeats 4000000 in
theorem sameLines_any (l : List Nat) (A A2 : Option Addr) (q c c2 : Nat) (w : World) (hr : Ln w A q l) (hr2 : Ln w A2 q l) :
    Calls Tryd.prog 45 #[.slice A q c, .slice A2 q c2] w fun e w' => e = .returned (.bool true) ∧ Below w.heap.size w w' := by
  have hq := hr.2.1
  have R1 := Lib.hid hr
  have R2 := Lib.hid hr2
  have e0 : ((q : Int) != (q : Int)) = false := by simp
  clear hr hr2
  go_enter Tryd.func45, Tryd.ntmps45
  go_wp2_with fail
  go_loopw [5] (fun v5 wr => ∃ k : Nat, k ≤ q ∧ v5 = .int .i64 k ∧ Hid (Below w.heap.size w wr)) (fun v5 _ => q - (intOf v5).toNat)
  case atStart => exact ⟨0, by omega, rfl, Below.refl _ _⟩
  case round =>
    obtain ⟨k, hk, rfl, HB⟩ := hrel
    clear e0
    by_cases hlt : k < q
    · have L1 := R1.out.below HB.out
      have L2 := R2.out.below HB.out
      obtain ⟨g1, rfl, hg1⟩ := L1.2.2.2 (by omega)
      obtain ⟨g2, rfl, hg2⟩ := L2.2.2.2 (by omega)
      have s1 := Ln.seg hg1 hlt L1.1
      have s2 := Ln.seg hg2 hlt L1.1
      have hsl : ((l.drop (k * 64)).take 64).length = 64 := by have := L1.1; simp; omega
      have hsb : ∀ x ∈ (l.drop (k * 64)).take 64, x < 256 := fun x h => L1.2.2.1 x (List.mem_of_mem_drop (List.mem_of_mem_take h))
      clear L1 L2 hg1 hg2
      generalize (l.drop (k * 64)).take 64 = seg at *
      have hu := Tryd.underlying33
      have hi : (Tryd.prog.info? 33).map (·.size) = some (vals .u8 seg).length := by rw [vals_len, hsl]; exact size33
      have NEQ : Hid (∀ (o : Oper) (x y : Operand) (_ : o.op = .binOp .neq 33 x y 33) (a : Act) (_ : a.eval x = .agg (u8s seg)) (_ : a.eval y = .agg (u8s seg)), ∀ W : World, (execOp a.eval o).run Tryd.prog W = .ok (.value (.bool false)) W) := fun o x y ho a hx hy W => by
        have := neq_u8s o x y ho a seg seg hx hy hsl hsl hsb hsb W
        simpa using this
      have h0 : wr.rangeAt g1 (k * 64) (vals .u8 seg) ∧ wr.rangeAt g2 (k * 64) (vals .u8 seg) ∧ Below w.heap.size w wr := ⟨s1, s2, HB.out⟩
      have hd : wr.drew.rangeAt g1 (k * 64) (vals .u8 seg) ∧ wr.drew.rangeAt g2 (k * 64) (vals .u8 seg) ∧ Below w.heap.size w wr.drew := ⟨rangeAt_below s1 (Below.refl _ _).drew, rangeAt_below s2 (Below.refl _ _).drew, HB.out.drew⟩
      clear s1 s2 HB h0
      go_wp2_with fail
      refine wp_region_held_drew (S := fun wr => wr.rangeAt g1 (k * 64) (vals .u8 seg) ∧ wr.rangeAt g2 (k * 64) (vals .u8 seg) ∧ Below w.heap.size w wr) (by kernel_rfl) hd (fun hS => ?_)
      refine takeD (i := 0) (v := .slice (some ⟨g1, 0, none⟩) q c) 17 rfl rfl (by kernel_rfl) (by kernel_rfl) (by kernel_rfl) (fun _ _ _ h => h) (Or.inl ⟨by rfl, fun W _ => by go_simp⟩) hS ?_
      simp only [Act.put, List.setIfInBounds_toArray, List.set_cons_zero, List.set_cons_succ]
      refine takeD (i := 1) (v := .int .i64 k) 18 rfl rfl (by kernel_rfl) (by kernel_rfl) (by kernel_rfl) (fun _ _ _ h => h) (Or.inl ⟨by rfl, fun W _ => by go_simp⟩) hS ?_
      simp only [Act.put, List.setIfInBounds_toArray, List.set_cons_zero, List.set_cons_succ]
      refine takeD (i := 2) (v := .pointer (some ⟨g1, k * 64, none⟩)) 19 rfl rfl (by kernel_rfl) (by kernel_rfl) (by kernel_rfl) (fun _ _ _ h => h) (Or.inl ⟨by rfl, fun W _ => by go_simp⟩) hS ?_
      simp only [Act.put, List.setIfInBounds_toArray, List.set_cons_zero, List.set_cons_succ]
      refine takeD (i := 3) 20 rfl rfl (by kernel_rfl) (by kernel_rfl) (by kernel_rfl) (fun _ _ _ h => h) (yieldsIf_load_mid (by rfl) 33 (.tmp 19) rfl g1 (k * 64) rfl (vals .u8 seg) _ (fun _ h => h.1) hu rfl hi) hS ?_
      simp only [Act.put, List.setIfInBounds_toArray, List.set_cons_zero, List.set_cons_succ]
      refine takeD (i := 4) (v := .slice (some ⟨g2, 0, none⟩) q c2) 21 rfl rfl (by kernel_rfl) (by kernel_rfl) (by kernel_rfl) (fun _ _ _ h => h) (Or.inl ⟨by rfl, fun W _ => by go_simp⟩) hS ?_
      simp only [Act.put, List.setIfInBounds_toArray, List.set_cons_zero, List.set_cons_succ]
      refine takeD (i := 5) (v := .int .i64 k) 22 rfl rfl (by kernel_rfl) (by kernel_rfl) (by kernel_rfl) (fun _ _ _ h => h) (Or.inl ⟨by rfl, fun W _ => by go_simp⟩) hS ?_
      simp only [Act.put, List.setIfInBounds_toArray, List.set_cons_zero, List.set_cons_succ]
      refine takeD (i := 6) (v := .pointer (some ⟨g2, k * 64, none⟩)) 23 rfl rfl (by kernel_rfl) (by kernel_rfl) (by kernel_rfl) (fun _ _ _ h => h) (Or.inl ⟨by rfl, fun W _ => by go_simp⟩) hS ?_
      simp only [Act.put, List.setIfInBounds_toArray, List.set_cons_zero, List.set_cons_succ]
      refine takeD (i := 7) 24 rfl rfl (by kernel_rfl) (by kernel_rfl) (by kernel_rfl) (fun _ _ _ h => h) (yieldsIf_load_mid (by rfl) 33 (.tmp 23) rfl g2 (k * 64) rfl (vals .u8 seg) _ (fun _ h => h.2.1) hu rfl hi) hS ?_
      simp only [Act.put, List.setIfInBounds_toArray, List.set_cons_zero, List.set_cons_succ]
      refine takeD (i := 8) (v := .bool false) 25 rfl rfl (by kernel_rfl) (by kernel_rfl) (by kernel_rfl) (fun _ _ _ h => h) (Or.inl ⟨by rfl, ?_⟩) hS ?_
      · intro W _
        exact NEQ.out _ (.tmp 20) (.tmp 24) rfl _ rfl rfl W
      simp only [Act.put, List.setIfInBounds_toArray, List.set_cons_zero, List.set_cons_succ]
      refine wpAnyH_done (by kernel_rfl) ?_ _
      have HE := Lib.hid hS.2.2
      clear hS NEQ
      go_wp2_with fail
      go_roundw
      case rel => exact ⟨k + 1, by omega, by go_num, HE⟩
      case measure => simp [intOf]; omega
    · go_wp2_with fail
      go_ret
      exact ⟨rfl, HB.out⟩

end Go.Proofs.YtelhmddigogmgaaDoor
