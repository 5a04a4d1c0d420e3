/-
copyPath: a path's parts in new memory; and what the rows give of a script's calls.
-/
import Derived.Test.YtpombeiabgbpiaaDoorWPlain
import Derived.Test.YtpombeiabgbpiaaDoorWOpen
namespace Go.Proofs.YtpombeiabgbpiaaDoor
open Go.ChangeShapes Go.WideShapes Go.ChangeAt Go.WideMaps Go.WideElems Go.RowKit

theorem wp_append_src {P : Program} (w : World) {o : Oper} {a : Act} {K : Act → World → Prop} {Q : Exit → Act → World → Prop} (s x : Operand) (t : TypeId)
    (ho : o.op = .call { callee := .builtin .append, args := #[s, x], argTypes := #[t, t] })
    (base : Nat) (e : TypeId) (i : TypeInfo) (z : Value) (size bytes : Nat) (ht : P.underlying t = some (.slice e)) (hi : P.info? e = some i) (hz : i.zero = some z)
    (hsize : i.size = size) (hby : i.bytes = bytes) (hzs : z.cells.size = size) (hsz : 0 < size)
    (v : Value) (n : Nat) (xs : List Value) (hs : a.eval s = v) (hown : w.ownsRow base e size v n xs)
    (A : Option Addr) (m c : Nat) (news : List Value) (hx : a.eval x = .slice A m c) (hsrc : SrcV w A m c size news) (h1 : ∀ u ∈ news, u.oneCell' = true)
    (h63 : n + m ≤ maxLen) (hbytes : (n + m) * bytes ≤ 140737488355328) (hbase : base ≤ w.heap.size)
    (h : ∀ v' w', w'.ownsRow base e size v' (n + m) (xs ++ news) → w.grownBy w' v.ownBlock → K (a.put o.dst v') w') : o.wp P a w K Q := by
  rcases A with _ | ad
  · obtain ⟨rfl, rfl⟩ := hsrc.2.1 rfl
    obtain rfl : news = [] := List.eq_nil_of_length_eq_zero (by have := hsrc.1; omega)
    have hrun := run_append_owned_none (P := P) (w := w) base t o.type e i size ht hi v n xs hown
    unfold Oper.wp
    simp [execOp, ho, resolve, invoke, builtin, hs, hx, hrun, Result.andThen]
    exact h v w (by simpa using hown) (World.grownBy.refl w _)
  · exact wp_append_own w s x t ho base e i z size bytes ht hi hz hsize hby hzs hsz v n xs hs hown ad m c news hx hsrc.1 (hsrc.2.2 ad rfl) h1 h63 hbytes hbase (fun v' w' h2 h3 _ => h v' w' h2 h3)

set_option maxRecDepth 100000 in
set_option maxHeartbeats 2000000 in
/-- copyPath -/
theorem copyPath_any (w : World) (A : Option Addr) (n c : Nat) (l : List ByteArray) (b : Bool) (hr : RdS w (.slice A n c) l) (hz : Nz (.slice A n c)) (hlen : n ≤ 8796093022207) :
    Calls Tryd.prog 34 #[.agg #[.slice A n c, .bool b]] w fun e w' => ∃ u, e = .returned (.agg #[u, .bool b]) ∧ w'.ownsRow (w.heap.size + 1 + 1) 9 1 u l.length (l.map vS) ∧ Below w.heap.size w w' := by
  obtain ⟨i0, hi, hz0, hz1, hz2⟩ := info_parts info9
  have hn : n = l.length := by obtain ⟨_, _, e, _⟩ := hr; injection e
  have hb : Below w.heap.size w ((w.alloc (.cells #[.slice A n c, .bool b] 25)).alloc (.cells #[.slice none 0 0, .bool false] 25)).drew := (((Below.refl _ _).alloc (Nat.le_refl _) _).alloc (by simp) _).drew
  have hx1 : ((w.alloc (.cells #[.slice A n c, .bool b] 25)).alloc (.cells #[.slice none 0 0, .bool false] 25)).drew.heap[w.heap.size]? = some (.cells #[.slice A n c, .bool b] 25 (0, 0)) := (Below.heap_alloc _ _ _ (by simp)).trans (heap_alloc_new w _)
  have hx2 : ((w.alloc (.cells #[.slice A n c, .bool b] 25)).alloc (.cells #[.slice none 0 0, .bool false] 25)).drew.heap[w.heap.size + 1]? = some (.cells #[.slice none 0 0, .bool false] 25 (0, 0)) := by
    show ((w.alloc (.cells #[.slice A n c, .bool b] 25)).alloc (.cells #[.slice none 0 0, .bool false] 25)).heap[w.heap.size + 1]? = _
    simpa using heap_alloc_new (w.alloc (.cells #[.slice A n c, .bool b] 25)) (.cells #[.slice none 0 0, .bool false] 25)
  have hsrc := (hr.below hb).src (k := n) hz (by omega)
  rw [List.take_of_length_le (by omega)] at hsrc
  have HN := Lib.hid hn
  obtain ⟨W2, hW2⟩ : ∃ W2, ((w.alloc (.cells #[.slice A n c, .bool b] 25)).alloc (.cells #[.slice none 0 0, .bool false] 25)) = W2 := ⟨_, rfl⟩
  have hsz : W2.heap.size = w.heap.size + 1 + 1 := by rw [← hW2]; simp
  clear hr hz hn
  go_enter Tryd.func34, Tryd.ntmps34
  go_wp2_with fail
  rw [hW2] at hb hx1 hx2 hsrc
  clear hW2
  have d0 := cell_of_row _ _ 0 _ _ _ hx1
  have d1 := cell_of_row _ _ 1 _ _ _ hx1
  simp only [List.getElem?_toArray, List.getElem?_cons_zero, List.getElem?_cons_succ] at d0 d1
  refine wp_region_held_drew (S := fun W' => W'.cell? ⟨w.heap.size, 0, none⟩ = some (.slice A n c) ∧ W'.cell? ⟨w.heap.size, 1, none⟩ = some (.bool b)) (by kernel_rfl) ⟨d0, d1⟩ (fun hHeld => ?_)
  refine takeD (i := 0) (v := .slice none 0 0) 4 rfl rfl (by kernel_rfl) (by kernel_rfl) (by kernel_rfl) (fun _ _ _ h => h) (Or.inl ⟨by rfl, fun W hW => by obtain ⟨k0, k1⟩ := hW; go_simp⟩) hHeld ?_
  try simp only [Act.put, List.setIfInBounds_toArray, List.set_cons_zero, List.set_cons_succ]
  refine takeD (i := 1) (v := .pointer (some ⟨w.heap.size, 0, none⟩)) 5 rfl rfl (by kernel_rfl) (by kernel_rfl) (by kernel_rfl) (fun _ _ _ h => h) (Or.inl ⟨by rfl, fun W hW => by obtain ⟨k0, k1⟩ := hW; go_simp⟩) hHeld ?_
  try simp only [Act.put, List.setIfInBounds_toArray, List.set_cons_zero, List.set_cons_succ]
  refine takeD (i := 2) (v := .slice A n c) 6 rfl rfl (by kernel_rfl) (by kernel_rfl) (by kernel_rfl) (fun _ _ _ h => h) (Or.inl ⟨by rfl, fun W hW => by obtain ⟨k0, k1⟩ := hW; go_simp⟩) hHeld ?_
  try simp only [Act.put, List.setIfInBounds_toArray, List.set_cons_zero, List.set_cons_succ]
  refine takeD (i := 4) (v := .pointer (some ⟨w.heap.size, 1, none⟩)) 8 rfl rfl (by kernel_rfl) (by kernel_rfl) (by kernel_rfl) (fun _ _ _ h => h) (Or.inl ⟨by rfl, fun W hW => by obtain ⟨k0, k1⟩ := hW; go_simp⟩) hHeld ?_
  try simp only [Act.put, List.setIfInBounds_toArray, List.set_cons_zero, List.set_cons_succ]
  refine takeD (i := 5) (v := .bool b) 9 rfl rfl (by kernel_rfl) (by kernel_rfl) (by kernel_rfl) (fun _ _ _ h => h) (Or.inl ⟨by rfl, fun W hW => by obtain ⟨k0, k1⟩ := hW; go_simp⟩) hHeld ?_
  try simp only [Act.put, List.setIfInBounds_toArray, List.set_cons_zero, List.set_cons_succ]
  refine wpAnyH_ready (rs := [3]) (by kernel_rfl) (by simp) (AllReadyH.cons rfl (fun K hK => ?_) AllReadyH.nil)
  rw [if_pos (by rfl)]
  refine wp_append_src _ _ _ 23 rfl (w.heap.size + 1 + 1) 9 i0 (.string ByteArray.empty) 1 16 Tryd.underlying23 hi hz0 hz1 hz2 rfl (by decide) (.slice none 0 0) 0 [] rfl (World.ownsRow_nil _ _ _ _) A n c _ rfl hsrc (by intro u hu; obtain ⟨s, _, rfl⟩ := List.mem_map.1 hu; rfl) (by rw [maxLen_eq]; omega) (by omega) (by show _ ≤ W2.heap.size; omega) ?_
  intro v3 w3 hown3 hg3
  obtain ⟨A3, c3, rfl⟩ := own_form hown3
  rw [Nat.zero_add, List.nil_append] at hown3
  have hbx1 := (hg3.block w.heap.size (heap_lt hx1) (by simp [Value.ownBlock])).trans hx1
  have hbx2 := (hg3.block (w.heap.size + 1) (heap_lt hx2) (by simp [Value.ownBlock])).trans hx2
  have hb3 : Below w.heap.size w w3 := hb.grown hg3 (by show _ ≤ W2.heap.size; omega) (fun k e => by cases e)
  have d0 := cell_of_row _ _ 0 _ _ _ hbx1
  have d1 := cell_of_row _ _ 1 _ _ _ hbx1
  have d2 := cell_of_row _ _ 0 _ _ _ hbx2
  have d3 := cell_of_row _ _ 1 _ _ _ hbx2
  have f2 := frozen_of_row _ _ 0 _ _ hbx2
  have f3 := frozen_of_row _ _ 1 _ _ hbx2
  simp only [List.getElem?_toArray, List.getElem?_cons_zero, List.getElem?_cons_succ] at d0 d1 d2 d3
  rw [Nat.zero_add]
  refine hK.out _ _ ⟨d0, d1⟩ (fun hHeld => ?_)
  clear hK K
  try simp only [Act.put, List.setIfInBounds_toArray, List.set_cons_zero, List.set_cons_succ]
  refine takeD (i := 6) (v := .agg #[.slice A3 n c3, .bool b]) 10 rfl rfl (by kernel_rfl) (by kernel_rfl) (by kernel_rfl) (fun _ _ _ h => h) (Or.inl ⟨by rfl, fun W hW => by obtain ⟨k0, k1⟩ := hW; go_simp⟩) hHeld ?_
  try simp only [Act.put, List.setIfInBounds_toArray, List.set_cons_zero, List.set_cons_succ]
  refine wpAnyH_ready (rs := [7]) (by kernel_rfl) (by simp) (AllReadyH.cons rfl (fun K hK => ?_) AllReadyH.nil)
  have hlt2 := heap_lt hbx2
  go_simp
  have hc : Chg (fun x => x = w.heap.size + 1) w3 ((w3.setCell ⟨w.heap.size + 1, 0, none⟩ (.slice A3 n c3)).setCell ⟨w.heap.size + 1, 1, none⟩ (.bool b)) := ((Chg.refl (fun x => x = w.heap.size + 1) w3).setCell (p := ⟨w.heap.size + 1, 0, none⟩) (fun _ => rfl) _).setCell (p := ⟨w.heap.size + 1, 1, none⟩) (fun _ => rfl) _
  have hbx1' := hc.heap hbx1 (by omega)
  have d0 := cell_of_row _ _ 0 _ _ _ hbx1'
  have d1 := cell_of_row _ _ 1 _ _ _ hbx1'
  simp only [List.getElem?_toArray, List.getElem?_cons_zero, List.getElem?_cons_succ] at d0 d1
  refine hK.out _ _ ⟨d0, d1⟩ (fun hHeld => ?_)
  clear hK K
  refine wpAnyH_done (by kernel_rfl) ?_ _
  go_wp2_with fail
  refine bodyPost_ret (path_res (f := Tryd.f34) (j := 2) Tryd.results34 rfl (set_path _ _ _ _ _ _ _ hbx2)) rfl ?_
  refine ⟨_, rfl, ?_, hb3.trans (hc.below _ hb3.size (fun b hb h => by omega))⟩
  rw [← HN.out]
  exact own_chg hown3 hc (fun g e h => by have := (hown3.lt g e).1; omega)

/-- a script's call: kind, text, path, number -/
abbrev OpR := Int × ByteArray × Value × List ByteArray × Bool × Int
def opC (a : OpR) : List Value := [.int .i64 a.1, .string a.2.1, a.2.2.1, .bool a.2.2.2.2.1, .int .i64 a.2.2.2.2.2]
def OpOk (W : World) (a : OpR) : Prop := (Lit.int .i64 a.1).wf = true ∧ a.2.1.size ≤ 140737488351232 ∧ StrsV W a.2.2.1 a.2.2.2.1 ∧ Nz a.2.2.1 ∧ (Lit.int .i64 a.2.2.2.2.2).wf = true
set_option maxRecDepth 100000 in
theorem op_cells {H : Type} {enc : TypeId × Value → H} {W : World} {base : Nat} {held : Bool} {fuel : Nat} {cs : List Value} {x : DataW H × List MemPlace}
    (hw : ∀ n ∈ x.1.weights Tryd.prog 54, n ≤ reachBytes) (h : DataW.trod enc Tryd.prog W base (fun _ => true) held fuel 54 cs = some x) : ∃ a : OpR, cs = opC a ∧ OpOk W a := by
  obtain ⟨xs, m, _, rfl, hlen, hxl, hfs⟩ := DataW.trod_struct Tryd.underlying54 h
  have c54 : Tryd.prog.cellsOf 54 = 5 := by kernel_rfl
  have c25 : Tryd.prog.cellsOf 25 = 2 := by kernel_rfl
  have c3 : Tryd.prog.cellsOf 3 = 1 := by kernel_rfl
  have c9 : Tryd.prog.cellsOf 9 = 1 := by kernel_rfl
  rw [c54] at hlen
  have hx4 : xs.length = 4 := hxl
  have f0 : DataW.trod enc Tryd.prog W base (fun _ => true) held m 3 ((cs.drop 0).take (Tryd.prog.cellsOf 3)) = xs[0]? := hfs 0 _ rfl
  have f1 : DataW.trod enc Tryd.prog W base (fun _ => true) held m 9 ((cs.drop 1).take (Tryd.prog.cellsOf 9)) = xs[1]? := hfs 1 _ rfl
  have f2 : DataW.trod enc Tryd.prog W base (fun _ => true) held m 25 ((cs.drop 2).take (Tryd.prog.cellsOf 25)) = xs[2]? := hfs 2 _ rfl
  have f3 : DataW.trod enc Tryd.prog W base (fun _ => true) held m 3 ((cs.drop 4).take (Tryd.prog.cellsOf 3)) = xs[3]? := hfs 3 _ rfl
  have hwj : ∀ (j : Nat) (t : TypeId) (y : DataW H × List MemPlace), ([3, 9, 25, 3] : List TypeId)[j]? = some t → xs[j]? = some y → ∀ n ∈ y.1.weights Tryd.prog t, n ≤ reachBytes := by
    intro j t y ht hy n hn
    apply hw
    simp only [DataW.weights, Tryd.underlying54]
    exact DataW.weights_mem_each (j := j) ht (by rw [List.getElem?_map, hy]; rfl) n hn
  rw [c3] at f0 f3
  rw [c9] at f1
  rw [c25] at f2
  rw [take1 (by omega), List.getElem?_eq_getElem (by omega)] at f0 f1 f3
  rw [List.getElem?_eq_getElem (by omega)] at f2
  obtain ⟨k, e0, _, w0⟩ := DataW.trod_int Tryd.underlying3 f0
  obtain ⟨t, e1, hx1, _⟩ := DataW.trod_string Tryd.underlying9 f1
  have ht : t.size ≤ 140737488351232 := by
    have := hwj 1 9 _ rfl (List.getElem?_eq_getElem (by omega)) t.data.toList.length (by rw [hx1]; simp [DataW.weights])
    rw [reach_eq] at this
    simpa using this
  obtain ⟨u, l, b, e2, hs, hz⟩ := path_cells (hwj 2 25 _ rfl (List.getElem?_eq_getElem (by omega))) f2
  obtain ⟨n, e3, _, w3⟩ := DataW.trod_int Tryd.underlying3 f3
  refine ⟨(k, t, u, l, b, n), ?_, w0, ht, hs, hz, w3⟩
  have e : cs = [cs[0], cs[1], cs[2], cs[3], cs[4]] := by
    have h5 : cs.drop 5 = [] := List.drop_eq_nil_of_le (by omega)
    rw [← h5, ← List.drop_eq_getElem_cons (by omega : 4 < cs.length), ← List.drop_eq_getElem_cons (by omega : 3 < cs.length), ← List.drop_eq_getElem_cons (by omega : 2 < cs.length), ← List.drop_eq_getElem_cons (by omega : 1 < cs.length), ← List.drop_eq_getElem_cons (by omega : 0 < cs.length)]
    rfl
  have e2' : [cs[2], cs[3]] = [u, .bool b] := by
    rw [← e2, List.drop_eq_getElem_cons (by omega : 2 < cs.length), List.drop_eq_getElem_cons (by omega : 3 < cs.length)]
    rfl
  rw [e, (List.cons.inj e0).1, (List.cons.inj e1).1, (List.cons.inj e2').1, (List.cons.inj (List.cons.inj e2').2).1, (List.cons.inj e3).1]
  rfl

/-- a script that is handed in -/
def OpsV (W : World) (v : Value) : Prop := ∃ (A : Option Addr) (c : Nat) (l : List OpR), v = .slice A l.length c ∧ l.length ≤ c ∧ c ≤ maxLen ∧ (∀ a ∈ l, OpOk W a) ∧ (0 < l.length → ∃ b off, A = some ⟨b, off, none⟩ ∧ b < W.heap.size ∧ ∀ i a, l[i]? = some a → W.rangeAt b (off + i * 5) (opC a))
instance : Inhabited OpR := ⟨(0, ByteArray.empty, .slice none 0 0, [], false, 0)⟩
set_option maxRecDepth 100000 in
theorem open_ops {H : Type} {enc : TypeId × Value → H} {W : World} {base0 base : Nat} {held : Bool} {v : Value} {d : DataW H} {ps : List MemPlace} {ts : List TypeId} {ds : List (DataW H)} {j : Nat}
    (hval : Value.okWide Tryd.prog W .any base0 52 v) (hsz : (DataW.weightsEach Tryd.prog ts ds).all (· ≤ reachBytes) = true) (ht : ts[j]? = some 52) (hd : ds[j]? = some d)
    (h : DataW.Trod enc Tryd.prog W base (fun _ => true) held 52 v d ps) : OpsV W v := by
  obtain ⟨A0, n0, c0, rfl⟩ := okWide_slice Tryd.underlying52 hval
  obtain ⟨fuel, hf⟩ := h
  obtain ⟨A, c, l, e, h1, h2, h3, hz, h4, h5⟩ := slice_open (k := 5) (B := 64) (α := OpR) opC (OpOk W) (by omega) Tryd.underlying52 (by kernel_rfl) (by kernel_rfl)
    (fun fuel cs y hw hy => op_cells hw hy) (fun n hn => by
      have := List.all_eq_true.1 hsz _ (DataW.weights_mem_each ht hd n hn)
      simpa using this) hf
  simp only [Value.cells] at e
  have e := (List.cons.inj e).1
  rw [e]
  exact ⟨A, c, l, rfl, h1, h2, h4, h5⟩
abbrev ops_zero : Value := .slice none 0 0

end Go.Proofs.YtpombeiabgbpiaaDoor
