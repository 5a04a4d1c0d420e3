/-
copied of a node of ints.
-/
import Derived.Test.YtfljnfmocmhhdaaWSet
import Derived.Deep.MidRow
import Derived.Deep.RegionHeld3
namespace Go.Proofs.Ytfljnfmocmhhdaa
open Go.RowKit

/-- in a region that draws its order: an operation that yields wherever S holds, taken first; its slot told -/
theorem takeD {P : Program} {md : Region.Mode} {ops : Array Oper} {Q : Exit → Act → World → Prop} {S : World → Prop} {i : Nat} {oi : Oper} (d : Tmp) {v : Value} {fuel : Nat} {listed : Array Bool} {a : Act} {w : World} (hi : ops[i]? = some oi)
    (hd : oi.dst = some d) (hs : Region.noSelect ops = true) (hf : Region.free md ops listed i = true) (hr : (Region.ready md ops listed).contains i = true)
    (hQ : ∀ c a w, Q (.panic c) (a.put oi.dst v) w → Q (.panic c) a w) (hy : YieldsIf P ops S oi v a) (hS : S w)
    (h : wpAnyH P md ops Q S fuel (listed.setIfInBounds i true) (a.put (some d) v) w) : wpAnyH P md ops Q S (fuel + 1) listed a w :=
  wpAnyH_take hi hs hf hr hQ hy hS (by rw [hd]; exact h)

/-- the sum of the first n -/
def tot (cs : Nat → Nat) : Nat → Nat
  | 0 => 0
  | n + 1 => tot cs n + cs n

def ptrs (p : Nat → Option Nat) : List Value := opt (p 0) :: opt (p 1) :: opt (p 2) :: opt (p 3) :: opt (p 4) :: opt (p 5) :: opt (p 6) :: opt (p 7) :: []
def ints (v : Nat → Int) : List Value := .int .i64 (v 0) :: .int .i64 (v 1) :: .int .i64 (v 2) :: .int .i64 (v 3) :: .int .i64 (v 4) :: .int .i64 (v 5) :: .int .i64 (v 6) :: .int .i64 (v 7) :: []
theorem NodeI.ptrs {w : World} {g : Nat} {p : Nat → Option Nat} {v : Nat → Int} (h : NodeI w g p v) : w.rangeAt g 0 (ptrs p) := fun j u hu => by
  have hj : j < 8 := (List.getElem?_eq_some_iff.1 hu).1
  rw [Nat.zero_add, h.ptr j hj, ← hu]
  rcases eight hj with rfl | rfl | rfl | rfl | rfl | rfl | rfl | rfl <;> rfl
theorem NodeI.ints {w : World} {g : Nat} {p : Nat → Option Nat} {v : Nat → Int} (h : NodeI w g p v) : w.rangeAt g 8 (ints v) := fun j u hu => by
  have hj : j < 8 := (List.getElem?_eq_some_iff.1 hu).1
  rw [h.val j hj, ← hu]
  rcases eight hj with rfl | rfl | rfl | rfl | rfl | rfl | rfl | rfl <;> rfl
theorem idx_ptrs (p : Nat → Option Nat) (k : Nat) (hk : k < 8) : ∀ w : World, (Instr.index 99 (.agg #[opt (p 0), opt (p 1), opt (p 2), opt (p 3), opt (p 4), opt (p 5), opt (p 6), opt (p 7)]) (.int .i64 k)).run Try.prog w = .ok (opt (p k)) w := by
  intro w
  rcases eight hk with rfl | rfl | rfl | rfl | rfl | rfl | rfl | rfl <;> kernel_rfl
theorem size99 : (Try.prog.info? 99).map (·.size) = some 8 := by kernel_rfl
theorem size100 : (Try.prog.info? 100).map (·.size) = some 8 := by kernel_rfl

/-- behind k rounds -/
structure CpSt (w : World) (p : Nat → Option Nat) (v : Nat → Int) (cs : Nat → Nat) (R : Nat → Nat → World → Prop) (k : Nat) (W : World) : Prop where
  node : NodeI W w.heap.size (fun i => if i < k then (p i).map (fun _ => w.heap.size + 1 + tot cs i) else none) v
  size : W.heap.size = w.heap.size + 1 + tot cs k
  bel : Below w.heap.size w W
  kids : ∀ i, i < k → p i ≠ none → R i (w.heap.size + 1 + tot cs i) W
theorem tot_le (cs : Nat → Nat) {i k : Nat} (h : i ≤ k) : tot cs i ≤ tot cs k := by
  induction k with
  | zero => obtain rfl : i = 0 := by omega
            exact Nat.le_refl _
  | succ k ih =>
    by_cases e : i = k + 1
    · subst e; exact Nat.le_refl _
    · have := ih (by omega); simp only [tot]; omega
theorem CpSt.skip {w : World} {p : Nat → Option Nat} {v : Nat → Int} {cs : Nat → Nat} {R : Nat → Nat → World → Prop} {k : Nat} {W : World} (h : CpSt w p v cs R k W) (hp : p k = none) (hc : cs k = 0) : CpSt w p v cs R (k + 1) W :=
  ⟨h.node.congr (fun i hi => by
      by_cases e : i = k
      · subst e; rw [if_neg (by omega), if_pos (by omega), hp]; rfl
      · by_cases hlt : i < k
        · rw [if_pos hlt, if_pos (by omega)]
        · rw [if_neg hlt, if_neg (by omega)]) (fun _ _ => rfl), by simp only [tot, hc]; exact h.size, h.bel, fun i hi hn => h.kids i (by
      have : i ≠ k := fun e => hn (by rw [e, hp])
      omega) hn⟩
theorem CpSt.drew {w : World} {p : Nat → Option Nat} {v : Nat → Int} {cs : Nat → Nat} {R : Nat → Nat → World → Prop} {k : Nat} {W : World} (h : CpSt w p v cs R k W) (hR : ∀ k b W W', R k b W → (∀ x, b ≤ x → x < b + cs k → W'.heap[x]? = W.heap[x]?) → R k b W') : CpSt w p v cs R k W.drew :=
  ⟨h.node, h.size, h.bel.drew, fun i hi hn => hR _ _ _ _ (h.kids i hi hn) (fun _ _ _ => rfl)⟩
theorem CpSt.step {w : World} {p : Nat → Option Nat} {v : Nat → Int} {cs : Nat → Nat} {R : Nat → Nat → World → Prop} {k : Nat} {W W2 : World} (h : CpSt w p v cs R k W) (hk : k < 8) {g' : Nat} (hp : p k = some g')
    (hR : ∀ k b W W', R k b W → (∀ x, b ≤ x → x < b + cs k → W'.heap[x]? = W.heap[x]?) → R k b W') (hb : Below W.heap.size W W2) (hs : W2.heap.size = W.heap.size + cs k) (hr : R k W.heap.size W2) :
    CpSt w p v cs R (k + 1) (W2.setCell ⟨w.heap.size, k, none⟩ (.pointer (some ⟨W.heap.size, 0, none⟩))) := by
  have hsz := h.size
  have hn2 : NodeI W2 w.heap.size (fun i => if i < k then (p i).map (fun _ => w.heap.size + 1 + tot cs i) else none) v := h.node.chg (Chg.of_below (fun _ => False) hb) (fun h => h)
  have keep : ∀ i b, w.heap.size < b → R i b W2 → R i b (W2.setCell ⟨w.heap.size, k, none⟩ (.pointer (some ⟨W.heap.size, 0, none⟩))) := fun i b hlt hr => hR _ _ _ _ hr (fun x h1 _ => Below.heap_setCell _ _ _ _ (by simp; omega))
  refine ⟨((hn2.setptr k hk (some W.heap.size))).congr (fun i hi => ?_) (fun _ _ => rfl), ?_, ?_, fun i hi hn => ?_⟩
  · by_cases e : i = k
    · subst e; rw [upd_same, if_pos (by omega), hp, hsz]; rfl
    · rw [upd_other _ _ e]
      by_cases hlt : i < k
      · rw [if_pos hlt, if_pos (by omega)]
      · rw [if_neg hlt, if_neg (by omega)]
  · simp only [tot, World.size_setCell]; omega
  · exact (h.bel.trans (hb.mono h.bel.size)).setCell (by simp) _
  · by_cases e : i = k
    · subst e; rw [← hsz]; exact keep _ _ (by omega) hr
    · refine keep _ _ (by omega) (hR _ _ _ _ (h.kids i (by omega) hn) (fun x h1 h2 => hb.block x ?_))
      have := tot_le cs (i := i + 1) (k := k) (by omega)
      simp only [tot] at this
      omega

set_option maxRecDepth 100000 in
set_option maxHeartbeats 2000000 in
theorem copied_node (w : World) (g : Nat) (p : Nat → Option Nat) (v : Nat → Int) (h : NodeI w g p v) (cs : Nat → Nat) (R : Nat → Nat → World → Prop)
    (hR : ∀ k b W W', R k b W → (∀ x, b ≤ x → x < b + cs k → W'.heap[x]? = W.heap[x]?) → R k b W') (h0 : ∀ k, k < 8 → p k = none → cs k = 0)
    (hcall : ∀ k g', k < 8 → p k = some g' → ∀ W, Below w.heap.size w W → Calls Try.prog 52 #[.pointer (some ⟨g', 0, none⟩)] W fun e W' =>
      e = .returned (.pointer (some ⟨W.heap.size, 0, none⟩)) ∧ Below W.heap.size W W' ∧ W'.heap.size = W.heap.size + cs k ∧ R k W.heap.size W') :
    Calls Try.prog 52 #[.pointer (some ⟨g, 0, none⟩)] w fun e w' => e = .returned (.pointer (some ⟨w.heap.size, 0, none⟩)) ∧ Below w.heap.size w w' ∧
      w'.heap.size = w.heap.size + 1 + tot cs 8 ∧ NodeI w' w.heap.size (fun i => (p i).map fun _ => w.heap.size + 1 + tot cs i) v ∧ ∀ k, k < 8 → p k ≠ none → R k (w.heap.size + 1 + tot cs k) w' := by
  have a0 : w.cell? ⟨g, 0, none⟩ = some (opt (p 0)) := h.ptr 0 (by omega)
  have b0 : w.cell? ⟨g, 8, none⟩ = some (.int .i64 (v 0)) := h.val 0 (by omega)
  have a1 : w.cell? ⟨g, 1, none⟩ = some (opt (p 1)) := h.ptr 1 (by omega)
  have b1 : w.cell? ⟨g, 9, none⟩ = some (.int .i64 (v 1)) := h.val 1 (by omega)
  have a2 : w.cell? ⟨g, 2, none⟩ = some (opt (p 2)) := h.ptr 2 (by omega)
  have b2 : w.cell? ⟨g, 10, none⟩ = some (.int .i64 (v 2)) := h.val 2 (by omega)
  have a3 : w.cell? ⟨g, 3, none⟩ = some (opt (p 3)) := h.ptr 3 (by omega)
  have b3 : w.cell? ⟨g, 11, none⟩ = some (.int .i64 (v 3)) := h.val 3 (by omega)
  have a4 : w.cell? ⟨g, 4, none⟩ = some (opt (p 4)) := h.ptr 4 (by omega)
  have b4 : w.cell? ⟨g, 12, none⟩ = some (.int .i64 (v 4)) := h.val 4 (by omega)
  have a5 : w.cell? ⟨g, 5, none⟩ = some (opt (p 5)) := h.ptr 5 (by omega)
  have b5 : w.cell? ⟨g, 13, none⟩ = some (.int .i64 (v 5)) := h.val 5 (by omega)
  have a6 : w.cell? ⟨g, 6, none⟩ = some (opt (p 6)) := h.ptr 6 (by omega)
  have b6 : w.cell? ⟨g, 14, none⟩ = some (.int .i64 (v 6)) := h.val 6 (by omega)
  have a7 : w.cell? ⟨g, 7, none⟩ = some (opt (p 7)) := h.ptr 7 (by omega)
  have b7 : w.cell? ⟨g, 15, none⟩ = some (.int .i64 (v 7)) := h.val 7 (by omega)
  have HC := Lib.hid hcall
  have HR := Lib.hid hR
  have H0 := Lib.hid h0
  have hlt := h.lt
  clear h hcall hR h0
  go_enter Try.func52, Try.ntmps52
  go_wp2_with fail
  have HS0 : Hid (CpSt w p v cs R 0 (w.alloc (.cells #[.pointer none, .pointer none, .pointer none, .pointer none, .pointer none, .pointer none, .pointer none, .pointer none, .int .i64 (v 0), .int .i64 (v 1), .int .i64 (v 2), .int .i64 (v 3), .int .i64 (v 4), .int .i64 (v 5), .int .i64 (v 6), .int .i64 (v 7)] 102))) :=
    ⟨heap_alloc_new w _, by simp [tot], (Below.refl _ _).alloc (Nat.le_refl _) _, fun i hi => by omega⟩
  clear a0 a1 a2 a3 a4 a5 a6 a7 b0 b1 b2 b3 b4 b5 b6 b7
  go_loopw [16] (fun v16 wr => ∃ k : Nat, k ≤ 8 ∧ v16 = .int .i64 k ∧ Hid (CpSt w p v cs R k wr)) (fun v16 _ => 8 - (intOf v16).toNat)
  case atStart => exact ⟨0, by omega, rfl, HS0⟩
  case round =>
    clear HS0
    obtain ⟨k, hk, rfl, HS⟩ := hrel
    by_cases hlt8 : k < 8
    · have hidx := idx_ptrs p k hlt8
      rcases hpk : p k with _ | g'
      · rw [hpk, opt_none] at hidx
        have HT := Lib.hid (HS.out.skip hpk (H0.out k hlt8 hpk))
        clear hpk HS
        go_wp2_with fail
        go_roundw
        case rel => exact ⟨k + 1, by omega, by go_num, HT⟩
        case measure => simp [intOf]; omega
      · rw [hpk, opt_some] at hidx
        have Hpk := Lib.hid hpk
        have HSd := Lib.hid (HS.out.drew HR.out)
        clear hpk HS
        go_wp2_with fail
        refine wp_region_held_drew (S := fun _ => True) (by kernel_rfl) trivial (fun hS => ?_)
        refine takeD (i := 0) (v := .pointer (some ⟨w.heap.size, 0, none⟩)) 22 rfl rfl (by kernel_rfl) (by kernel_rfl) (by kernel_rfl) (fun _ _ _ h => h) (Or.inl ⟨by rfl, fun W _ => by go_simp⟩) hS ?_
        simp only [Act.put, List.setIfInBounds_toArray, List.set_cons_zero, List.set_cons_succ]
        refine takeD (i := 1) (v := .int .i64 k) 23 rfl rfl (by kernel_rfl) (by kernel_rfl) (by kernel_rfl) (fun _ _ _ h => h) (Or.inl ⟨by rfl, fun W _ => by go_simp⟩) hS ?_
        simp only [Act.put, List.setIfInBounds_toArray, List.set_cons_zero, List.set_cons_succ]
        refine takeD (i := 2) (v := .pointer (some ⟨g', 0, none⟩)) 24 rfl rfl (by kernel_rfl) (by kernel_rfl) (by kernel_rfl) (fun _ _ _ h => h) (Or.inl ⟨by rfl, fun W _ => by go_simp⟩) hS ?_
        simp only [Act.put, List.setIfInBounds_toArray, List.set_cons_zero, List.set_cons_succ]
        refine takeD (i := 4) (v := .pointer (some ⟨w.heap.size, 0, none⟩)) 26 rfl rfl (by kernel_rfl) (by kernel_rfl) (by kernel_rfl) (fun _ _ _ h => h) (Or.inl ⟨by rfl, fun W _ => by go_simp⟩) hS ?_
        simp only [Act.put, List.setIfInBounds_toArray, List.set_cons_zero, List.set_cons_succ]
        refine takeD (i := 5) (v := .pointer (some ⟨w.heap.size, 0, none⟩)) 27 rfl rfl (by kernel_rfl) (by kernel_rfl) (by kernel_rfl) (fun _ _ _ h => h) (Or.inl ⟨by rfl, fun W _ => by go_simp⟩) hS ?_
        simp only [Act.put, List.setIfInBounds_toArray, List.set_cons_zero, List.set_cons_succ]
        refine wpAnyH_ready (rs := [3]) (by kernel_rfl) (by simp) (AllReadyH.cons rfl (fun K hK => ?_) AllReadyH.nil)
        go_simp
        refine (HC.out k g' hlt8 Hpk.out _ HSd.out.bel).mono ?_
        rintro e W2 ⟨rfl, hb2, hs2, hr2⟩
        have HT := Lib.hid (HSd.out.step hlt8 Hpk.out HR.out hb2 hs2 hr2)
        have hn2 : NodeI W2 w.heap.size _ v := HSd.out.node.chg (Chg.of_below (fun _ => False) hb2) (fun h => h)
        have c2 := hn2.ptr k hlt8
        have f2 := hn2.free k
        clear hn2 hb2 hs2 hr2
        refine hK.out _ _ trivial (fun h2 => ?_)
        clear hK K
        refine takeD (i := 6) (v := .pointer (some ⟨w.heap.size, k, none⟩)) 28 rfl rfl (by kernel_rfl) (by kernel_rfl) (by kernel_rfl) (fun _ _ _ h => h) (Or.inl ⟨by rfl, fun W _ => by go_simp⟩) h2 ?_
        simp only [Act.put, List.setIfInBounds_toArray, List.set_cons_zero, List.set_cons_succ]
        refine wpAnyH_ready (rs := [7]) (by kernel_rfl) (by simp) (AllReadyH.cons rfl (fun K hK => ?_) AllReadyH.nil)
        go_simp
        refine hK.out _ _ trivial (fun h3 => ?_)
        clear hK K
        refine wpAnyH_done (by kernel_rfl) ?_ _
        go_wp2_with fail
        go_roundw
        case rel => exact ⟨k + 1, by omega, by go_num, HT⟩
        case measure => simp [intOf]; omega
    · obtain rfl : 8 = k := by omega
      go_wp2_with fail
      go_ret
      refine ⟨rfl, HS.out.bel, HS.out.size, HS.out.node.congr (fun i hi => by rw [if_pos hi]) (fun _ _ => rfl), fun k hk hn => HS.out.kids k hk hn⟩

end Go.Proofs.Ytfljnfmocmhhdaa
