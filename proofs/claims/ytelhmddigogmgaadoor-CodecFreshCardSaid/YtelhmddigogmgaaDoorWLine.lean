/-
What Close and Whole of package codec compute: lines are lists of 64 bytes.
-/
import Derived.Test.YtelhmddigogmgaaDoorWSeal
import Derived.Deep.MidRow
import Derived.Deep.WholeRow
import Derived.Deep.RegionHeld3
import Derived.Stop.BytesEq
namespace Go.Proofs.YtelhmddigogmgaaDoor
open Go.RowKit Go.Extern.Stop

/-- the line with the sum of its first sixty bytes in its last four -/
def closeN (l : List Nat) : List Nat := l.take 60 ++ le 4 (sumN (l.take 60))

theorem zero64 : u8s (List.replicate 64 0) = #[.int .u8 0, .int .u8 0, .int .u8 0, .int .u8 0, .int .u8 0, .int .u8 0, .int .u8 0, .int .u8 0, .int .u8 0, .int .u8 0, .int .u8 0, .int .u8 0, .int .u8 0, .int .u8 0, .int .u8 0, .int .u8 0, .int .u8 0, .int .u8 0, .int .u8 0, .int .u8 0, .int .u8 0, .int .u8 0, .int .u8 0, .int .u8 0, .int .u8 0, .int .u8 0, .int .u8 0, .int .u8 0, .int .u8 0, .int .u8 0, .int .u8 0, .int .u8 0, .int .u8 0, .int .u8 0, .int .u8 0, .int .u8 0, .int .u8 0, .int .u8 0, .int .u8 0, .int .u8 0, .int .u8 0, .int .u8 0, .int .u8 0, .int .u8 0, .int .u8 0, .int .u8 0, .int .u8 0, .int .u8 0, .int .u8 0, .int .u8 0, .int .u8 0, .int .u8 0, .int .u8 0, .int .u8 0, .int .u8 0, .int .u8 0, .int .u8 0, .int .u8 0, .int .u8 0, .int .u8 0, .int .u8 0, .int .u8 0, .int .u8 0, .int .u8 0] := by
  apply Array.ext'
  rfl
theorem u8s_get (l : List Nat) (j : Nat) (h : j < l.length) : (u8s l)[j]? = some (.int .u8 (nth l j : Nat)) := by
  simpa [u8s] using vals_get .u8 l j h

theorem size33 : (Tryd.prog.info? 33).map (·.size) = some 64 := by kernel_rfl
theorem closeN_len (l : List Nat) (hn : l.length = 64) : (closeN l).length = 64 := by simp [closeN, le_len, hn]
theorem closeN_byte {l : List Nat} (hl : ∀ x ∈ l, x < 256) : ∀ x ∈ closeN l, x < 256 := by
  intro x h
  rcases List.mem_append.1 h with h | h
  · exact hl x (List.mem_of_mem_take h)
  · exact le_byte _ _ x h
theorem set4 {α : Type} (l : List α) (a b c d : α) (h : l.length = 64) : (((l.set 60 a).set 61 b).set 62 c).set 63 d = l.take 60 ++ [a, b, c, d] := by
  apply List.ext_getElem
  · simp [h]
  · intro i h1 h2
    have hi : i < 64 := by simpa [h] using h1
    simp only [List.getElem_set, List.getElem_append, List.length_take, h]
    by_cases h60 : i < 60
    · rw [if_neg (by omega), if_neg (by omega), if_neg (by omega), if_neg (by omega), dif_pos (by omega), List.getElem_take]
    · rw [dif_neg (by omega)]
      rcases (by omega : i = 60 ∨ i = 61 ∨ i = 62 ∨ i = 63) with rfl | rfl | rfl | rfl <;> simp
theorem close_cells (l : List Nat) (s : Nat) (hn : l.length = 64) (hs : s = sumN (l.take 60)) (h2 : s < 4294967296) :
    ((((u8s l).setIfInBounds 60 (.int .u8 ((s : Int) % 256))).setIfInBounds 61 (.int .u8 ((s : Int) / 256 % 256))).setIfInBounds 62 (.int .u8 ((s : Int) / 65536 % 256))).setIfInBounds 63 (.int .u8 ((s : Int) / 16777216)) = u8s (closeN l) := by
  apply Array.ext'
  have h3 : s / 16777216 % 256 = s / 16777216 := by omega
  simp only [Array.toList_setIfInBounds, u8s, closeN, vals_append]
  rw [set4 _ _ _ _ _ (by rw [vals_len, hn]), ← hs]
  simp only [vals, le, List.map_take, List.map_cons, List.map_nil, Nat.div_div_eq_div_mul, Nat.reduceMul, h3]
  simp

set_option maxRecDepth 100000 in
set_option maxHeartbeats 1000000 in
theorem close_any (l : List Nat) (hn : l.length = 64) (hl : ∀ x ∈ l, x < 256) (w : World) (ht : Tab w) :
    Calls Tryd.prog 27 #[.agg (u8s l)] w fun e w' => e = .returned (.agg (u8s (closeN l))) ∧ Below w.heap.size w w' := by
  have Ht := Lib.hid ht
  have Hn := Lib.hid hn
  have hsz : (u8s l).size = 64 := by rw [u8s_size, hn]
  have c0 := u8s_get l 60 (by omega)
  have c1 := u8s_get l 61 (by omega)
  have c2 := u8s_get l 62 (by omega)
  have c3 := u8s_get l 63 (by omega)
  have R1 := Rd.new (w := w) (k := .u8) (cs := u8s l) (t := 33) 64 rfl hn (by omega)
  have hsl := sumOnN_lt 0 (l.take 60) (by omega) (fun x h => hl x (List.mem_of_mem_take h))
  clear ht hn
  go_enter Tryd.func27, Tryd.ntmps27
  go_wp2_with fail
  rw [← zero64]
  have hZ : (u8s (List.replicate 64 0)).size = 64 := by rw [u8s_size]; simp
  generalize u8s (List.replicate 64 0) = Z at *
  have R2 := (R1.below ((Below.refl _ _).alloc (Nat.le_refl _) (.cells Z 33))).take 60 (by omega)
  have T2 : Tab ((w.alloc (.cells (u8s l) 33)).alloc (.cells Z 33)) := Ht.out.below (((Below.refl _ _).alloc (Nat.le_refl _) _).alloc (by simp) _)
  refine (sum_any (l.take 60) (fun x h => hl x (List.mem_of_mem_take h)) _ 60 64 _ R2 T2).mono ?_
  rintro e w1 ⟨rfl, rfl⟩
  clear R1 R2 T2 Ht
  have hs2 : sumN (l.take 60) < 4294967296 := hsl
  obtain ⟨s, hs⟩ : ∃ s, s = sumN (l.take 60) := ⟨_, rfl⟩
  rw [← hs]
  rw [← hs] at hs2
  have Hs := Lib.hid hs
  clear hs hsl
  go_wp2_with fail
  refine wp_loop_rounds 5 ?_
  rw [rounds_succ]
  go_wp2_with fail
  rw [rounds_succ]
  go_wp2_with fail
  rw [rounds_succ]
  go_wp2_with fail
  rw [rounds_succ]
  go_wp2_with fail
  rw [rounds_succ]
  have HX := Lib.hid (close_cells l s Hn.out Hs.out hs2)
  have HC := Lib.hid (closeN_len l Hn.out)
  have HZ := Lib.hid hZ
  have hcs : (u8s (closeN l)).size = 64 := by rw [u8s_size]; exact HC.out
  have hone : (u8s (closeN l)).all (·.oneCell') = true := all_oneCell_toArray (fun v hv => by simp only [vals, List.mem_map] at hv; obtain ⟨x, _, rfl⟩ := hv; rfl)
  have hst : (storeCells ⟨w.heap.size + 1, 0, none⟩ (u8s (closeN l)).toList 0).run Tryd.prog ((w.alloc (.cells (u8s (closeN l)) 33)).alloc (.cells Z 33)) = .ok () ((w.alloc (.cells (u8s (closeN l)) 33)).alloc (.cells (u8s (closeN l)) 33)) := by
    have := run_storeCells_new (P := Tryd.prog) (w.alloc (.cells (u8s (closeN l)) 33)) 33 Z (u8s (closeN l)) (by rw [hcs]; exact size33) (by rw [hcs]; exact hZ) hone
    rwa [show (w.alloc (.cells (u8s (closeN l)) 33)).heap.size = w.heap.size + 1 from by simp] at this
  clear hZ hsz c0 c1 c2 c3 hone
  go_wp2_with (refine wpList_load_row rfl 33 (.tmp 1) rfl w.heap.size rfl 33 _ (0, 0) _ (heap_alloc2_old w _ _) Tryd.underlying33 rfl (by rw [HX.out, hcs]; exact size33) ?_; rw [HX.out])
  exact bodyPost_ret (results_cell_row rfl _ _ (w.heap.size + 1) 33 (u8s (closeN l)) (0, 0) _ rfl (heap_alloc2_new w _ _) Tryd.underlying33 rfl (by rw [hcs]; exact size33)) rfl ⟨rfl, ((Below.refl _ _).alloc (Nat.le_refl _) _).alloc (by simp) _⟩


/-- the block that a parameter was laid into holds the line still -/
def Keeps (w : World) (l : List Nat) (W : World) : Prop := W.rangeAt w.heap.size 0 (vals .u8 l) ∧ Below w.heap.size w W ∧ w.heap.size < W.heap.size
theorem rangeAt_below {W W' : World} {b o : Nat} {cs : List Value} (h : W.rangeAt b o cs) (hb : Below W.heap.size W W') : W'.rangeAt b o cs := fun j v hv => cell_below hb (Nat.le_refl _) (h j v hv)
theorem Keeps.below {w W W' : World} {l : List Nat} (h : Keeps w l W) (hb : Below W.heap.size W W') : Keeps w l W' :=
  ⟨rangeAt_below h.1 hb, h.2.1.trans (hb.mono (Nat.le_of_lt h.2.2)), Nat.lt_of_lt_of_le h.2.2 hb.size⟩
theorem Keeps.drew {w W : World} {l : List Nat} (h : Keeps w l W) : Keeps w l W.drew := h.below (Below.refl _ _).drew
theorem Keeps.both {w W : World} {l : List Nat} (h : Keeps w l W) : W.rangeAt w.heap.size 0 (vals .u8 l) ∧ Keeps w l W := ⟨h.1, h⟩
theorem Keeps.first (w : World) (l : List Nat) (t : TypeId) : Keeps w l (w.alloc (.cells (u8s l) t)) :=
  ⟨fun j v hv => by
    rw [World.cell?_alloc_at _ _ _ _ rfl, Nat.zero_add]
    simpa [u8s] using hv, (Below.refl _ _).alloc (Nat.le_refl _) _, by simp⟩

/-- in a region that draws its order: an operation that yields wherever S holds, taken first; its slot told -/
theorem takeD {P : Program} {md : Region.Mode} {ops : Array Oper} {Q : Exit → Act → World → Prop} {S : World → Prop} {i : Nat} {oi : Oper} (d : Tmp) {v : Value} {fuel : Nat} {listed : Array Bool} {a : Act} {w : World} (hi : ops[i]? = some oi)
    (hd : oi.dst = some d) (hs : Region.noSelect ops = true) (hf : Region.free md ops listed i = true) (hr : (Region.ready md ops listed).contains i = true)
    (hQ : ∀ c a w, Q (.panic c) (a.put oi.dst v) w → Q (.panic c) a w) (hy : YieldsIf P ops S oi v a) (hS : S w)
    (h : wpAnyH P md ops Q S fuel (listed.setIfInBounds i true) (a.put (some d) v) w) : wpAnyH P md ops Q S (fuel + 1) listed a w :=
  wpAnyH_take hi hs hf hr hQ hy hS (by rw [hd]; exact h)

theorem byte_cells {l : List Nat} (h : ∀ x ∈ l, x < 256) : u8s l = ((l.map UInt8.ofNat).map cell).toArray := by
  unfold u8s vals
  rw [List.map_map]
  congr 1
  apply List.map_congr_left
  intro x hx
  have := h x hx
  have e : x % 2 ^ 8 = x := Nat.mod_eq_of_lt (by omega)
  simp only [Function.comp, cell, UInt8.toNat_ofNat', e]
  rfl
theorem bytes_inj {a b : List Nat} (ha : ∀ x ∈ a, x < 256) (hb : ∀ x ∈ b, x < 256) : (a.map UInt8.ofNat == b.map UInt8.ofNat) = decide (a = b) := by
  have back : ∀ l : List Nat, (∀ x ∈ l, x < 256) → (l.map UInt8.ofNat).map UInt8.toNat = l := fun l h => by
    rw [List.map_map]
    conv => rhs; rw [← List.map_id l]
    apply List.map_congr_left
    intro x hx
    have := h x hx
    simp only [Function.comp, UInt8.toNat_ofNat', id]
    omega
  by_cases h : a = b
  · subst h; simp
  · have : a.map UInt8.ofNat ≠ b.map UInt8.ofNat := fun e => h (by rw [← back a ha, ← back b hb, e])
    simp [h, this]
theorem equal_u8s (a b : List Nat) (la : a.length = 64) (lb : b.length = 64) (ha : ∀ x ∈ a, x < 256) (hb : ∀ x ∈ b, x < 256) :
    ∀ W : World, (Op.equalIn 10000 33 (.agg (u8s a)) (.agg (u8s b))).run Tryd.prog W = .ok (decide (a = b)) W := by
  intro W
  rw [byte_cells ha, byte_cells hb, run_equalIn_bytes W 9998 33 5 64 Tryd.underlying33 Tryd.underlying5 (fun w => by kernel_rfl) _ _ (by simp [la]) (by simp [lb]), bytes_inj ha hb]
theorem guard33 : Tryd.prog.eqGuardType Tryd.prog.depth 33 = false := by kernel_rfl
/-- '==' of two lines, as the operation runs -/
theorem eql_u8s (o : Oper) (x y : Operand) (ho : o.op = .binOp .eql 33 x y 33) (a : Act) (p q : List Nat) (hx : a.eval x = .agg (u8s p)) (hy : a.eval y = .agg (u8s q)) (lp : p.length = 64) (lq : q.length = 64) (hp : ∀ x ∈ p, x < 256) (hq : ∀ x ∈ q, x < 256) :
    ∀ W : World, (execOp a.eval o).run Tryd.prog W = .ok (.value (.bool (decide (p = q)))) W := by
  intro W
  have h1 := equal_u8s p q lp lq hp hq
  unfold execOp
  simp only [ho, hx, hy, Sem.run_bind, run_eqGuard_agg _ _ _ _ _ _ _ guard33, Result.andThen_ok, run_eql_struct, h1, Sem.run_pure]
theorem neq_u8s (o : Oper) (x y : Operand) (ho : o.op = .binOp .neq 33 x y 33) (a : Act) (p q : List Nat) (hx : a.eval x = .agg (u8s p)) (hy : a.eval y = .agg (u8s q)) (lp : p.length = 64) (lq : q.length = 64) (hp : ∀ x ∈ p, x < 256) (hq : ∀ x ∈ q, x < 256) :
    ∀ W : World, (execOp a.eval o).run Tryd.prog W = .ok (.value (.bool (!decide (p = q)))) W := by
  intro W
  have h1 := equal_u8s p q lp lq hp hq
  unfold execOp
  simp only [ho, hx, hy, Sem.run_bind, run_eqGuard_agg _ _ _ _ _ _ _ guard33, Result.andThen_ok, run_neq_struct, h1, Sem.run_pure]

/-- is a line whole? -/
def wholeB (l : List Nat) : Bool := decide (closeN l = l)

set_option maxRecDepth 100000 in
set_option maxHeartbeats 1000000 in
theorem whole_any (l : List Nat) (hn : l.length = 64) (hl : ∀ x ∈ l, x < 256) (w : World) (ht : Tab w) :
    Calls Tryd.prog 28 #[.agg (u8s l)] w fun e w' => e = .returned (.bool (wholeB l)) ∧ Below w.heap.size w w' := by
  have Ht := Lib.hid ht
  have HC := Lib.hid (fun (W : World) (hW : Keeps w l W) => close_any l hn hl W (ht.below hW.2.1))
  have hu := Tryd.underlying33
  have hi : (Tryd.prog.info? 33).map (·.size) = some (vals .u8 l).length := by rw [vals_len, hn]; exact size33
  have hk := Keeps.first w l 33
  clear ht
  go_enter Tryd.func28, Tryd.ntmps28
  go_wp2_with fail
  refine wp_region_held_drew (S := Keeps w l) (by kernel_rfl) hk.drew (fun hS => ?_)
  refine takeD (i := 0) 3 rfl rfl (by kernel_rfl) (by kernel_rfl) (by kernel_rfl) (fun _ _ _ h => h) (yieldsIf_load_mid (by rfl) 33 (.tmp 1) rfl w.heap.size 0 rfl (vals .u8 l) _ (fun _ h => h.1) hu rfl hi) hS ?_
  simp only [Act.put, List.setIfInBounds_toArray, List.set_cons_zero, List.set_cons_succ]
  refine takeD (i := 2) 5 rfl rfl (by kernel_rfl) (by kernel_rfl) (by kernel_rfl) (fun _ _ _ h => h) (yieldsIf_load_mid (by rfl) 33 (.tmp 1) rfl w.heap.size 0 rfl (vals .u8 l) _ (fun _ h => h.1) hu rfl hi) hS ?_
  simp only [Act.put, List.setIfInBounds_toArray, List.set_cons_zero, List.set_cons_succ]
  refine wpAnyH_ready (rs := [1]) (by kernel_rfl) (by simp) (AllReadyH.cons rfl (fun K hK => ?_) AllReadyH.nil)
  go_simp
  refine (HC.out _ hS).mono ?_
  rintro e w' ⟨rfl, hb⟩
  refine hK.out _ _ (hS.below hb) (fun hS2 => ?_)
  clear hK K hS hb
  refine takeD (i := 3) (v := .bool (wholeB l)) 6 rfl rfl (by kernel_rfl) (by kernel_rfl) (by kernel_rfl) (fun _ _ _ h => h) (Or.inl ⟨by rfl, ?_⟩) hS2 ?_
  · intro W _
    exact eql_u8s _ (.tmp 4) (.tmp 5) rfl _ _ _ rfl rfl (closeN_len l hn) hn (closeN_byte hl) hl W
  simp only [Act.put, List.setIfInBounds_toArray, List.set_cons_zero, List.set_cons_succ]
  refine takeD (i := 4) (v := .bool (wholeB l)) 2 rfl rfl (by kernel_rfl) (by kernel_rfl) (by kernel_rfl) (fun _ _ _ h => h) (Or.inl ⟨by rfl, ?_⟩) hS2 ?_
  · intro W _
    go_simp
  simp only [Act.put, List.setIfInBounds_toArray, List.set_cons_zero, List.set_cons_succ]
  refine wpAnyH_done (by kernel_rfl) ?_ _
  go_wp2_with fail
  go_ret
  exact ⟨rfl, hS2.2.1⟩

end Go.Proofs.YtelhmddigogmgaaDoor
